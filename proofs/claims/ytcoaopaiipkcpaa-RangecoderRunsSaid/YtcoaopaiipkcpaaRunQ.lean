/- Runs of equal bytes from 64 to 127, reckoned by the kernel. -/
import Derived.Test.YtcoaopaiipkcpaaRun
namespace Go.Proofs.Ytcoaopaiipkcpaa.Rc
set_option maxRecDepth 100000 in
theorem all64 : allF 64 8 = true := by decide +kernel
set_option maxRecDepth 100000 in
theorem all72 : allF 72 8 = true := by decide +kernel
set_option maxRecDepth 100000 in
theorem all80 : allF 80 8 = true := by decide +kernel
set_option maxRecDepth 100000 in
theorem all88 : allF 88 8 = true := by decide +kernel
set_option maxRecDepth 100000 in
theorem all96 : allF 96 8 = true := by decide +kernel
set_option maxRecDepth 100000 in
theorem all104 : allF 104 8 = true := by decide +kernel
set_option maxRecDepth 100000 in
theorem all112 : allF 112 8 = true := by decide +kernel
set_option maxRecDepth 100000 in
theorem all120 : allF 120 8 = true := by decide +kernel
theorem runsQ {c : Nat} (h1 : 64 ≤ c) (h2 : c < 128) : runF c = true := by
  rcases (by omega : (64 ≤ c ∧ c < 72) ∨ (72 ≤ c ∧ c < 80) ∨ (80 ≤ c ∧ c < 88) ∨ (88 ≤ c ∧ c < 96) ∨ (96 ≤ c ∧ c < 104) ∨ (104 ≤ c ∧ c < 112) ∨ (112 ≤ c ∧ c < 120) ∨ (120 ≤ c ∧ c < 128)) with h | h | h | h | h | h | h | h
  · have := allF_spec 64 8 all64 (c - 64) (by omega); rwa [show 64 + (c - 64) = c by omega] at this
  · have := allF_spec 72 8 all72 (c - 72) (by omega); rwa [show 72 + (c - 72) = c by omega] at this
  · have := allF_spec 80 8 all80 (c - 80) (by omega); rwa [show 80 + (c - 80) = c by omega] at this
  · have := allF_spec 88 8 all88 (c - 88) (by omega); rwa [show 88 + (c - 88) = c by omega] at this
  · have := allF_spec 96 8 all96 (c - 96) (by omega); rwa [show 96 + (c - 96) = c by omega] at this
  · have := allF_spec 104 8 all104 (c - 104) (by omega); rwa [show 104 + (c - 104) = c by omega] at this
  · have := allF_spec 112 8 all112 (c - 112) (by omega); rwa [show 112 + (c - 112) = c by omega] at this
  · have := allF_spec 120 8 all120 (c - 120) (by omega); rwa [show 120 + (c - 120) = c by omega] at this
end Go.Proofs.Ytcoaopaiipkcpaa.Rc
