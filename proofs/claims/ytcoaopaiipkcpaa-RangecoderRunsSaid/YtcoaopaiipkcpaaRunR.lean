/- Runs of equal bytes from 128 to 191, reckoned by the kernel. -/
import Derived.Test.YtcoaopaiipkcpaaRun
namespace Go.Proofs.Ytcoaopaiipkcpaa.Rc
set_option maxRecDepth 100000 in
theorem all128 : allF 128 8 = true := by decide +kernel
set_option maxRecDepth 100000 in
theorem all136 : allF 136 8 = true := by decide +kernel
set_option maxRecDepth 100000 in
theorem all144 : allF 144 8 = true := by decide +kernel
set_option maxRecDepth 100000 in
theorem all152 : allF 152 8 = true := by decide +kernel
set_option maxRecDepth 100000 in
theorem all160 : allF 160 8 = true := by decide +kernel
set_option maxRecDepth 100000 in
theorem all168 : allF 168 8 = true := by decide +kernel
set_option maxRecDepth 100000 in
theorem all176 : allF 176 8 = true := by decide +kernel
set_option maxRecDepth 100000 in
theorem all184 : allF 184 8 = true := by decide +kernel
theorem runsR {c : Nat} (h1 : 128 ≤ c) (h2 : c < 192) : runF c = true := by
  rcases (by omega : (128 ≤ c ∧ c < 136) ∨ (136 ≤ c ∧ c < 144) ∨ (144 ≤ c ∧ c < 152) ∨ (152 ≤ c ∧ c < 160) ∨ (160 ≤ c ∧ c < 168) ∨ (168 ≤ c ∧ c < 176) ∨ (176 ≤ c ∧ c < 184) ∨ (184 ≤ c ∧ c < 192)) with h | h | h | h | h | h | h | h
  · have := allF_spec 128 8 all128 (c - 128) (by omega); rwa [show 128 + (c - 128) = c by omega] at this
  · have := allF_spec 136 8 all136 (c - 136) (by omega); rwa [show 136 + (c - 136) = c by omega] at this
  · have := allF_spec 144 8 all144 (c - 144) (by omega); rwa [show 144 + (c - 144) = c by omega] at this
  · have := allF_spec 152 8 all152 (c - 152) (by omega); rwa [show 152 + (c - 152) = c by omega] at this
  · have := allF_spec 160 8 all160 (c - 160) (by omega); rwa [show 160 + (c - 160) = c by omega] at this
  · have := allF_spec 168 8 all168 (c - 168) (by omega); rwa [show 168 + (c - 168) = c by omega] at this
  · have := allF_spec 176 8 all176 (c - 176) (by omega); rwa [show 176 + (c - 176) = c by omega] at this
  · have := allF_spec 184 8 all184 (c - 184) (by omega); rwa [show 184 + (c - 184) = c by omega] at this
end Go.Proofs.Ytcoaopaiipkcpaa.Rc
