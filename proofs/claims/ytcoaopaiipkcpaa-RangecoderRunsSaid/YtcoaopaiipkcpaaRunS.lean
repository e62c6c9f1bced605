/- Runs of equal bytes from 192 to 255, reckoned by the kernel. -/
import Derived.Test.YtcoaopaiipkcpaaRun
namespace Go.Proofs.Ytcoaopaiipkcpaa.Rc
set_option maxRecDepth 100000 in
theorem all192 : allF 192 8 = true := by decide +kernel
set_option maxRecDepth 100000 in
theorem all200 : allF 200 8 = true := by decide +kernel
set_option maxRecDepth 100000 in
theorem all208 : allF 208 8 = true := by decide +kernel
set_option maxRecDepth 100000 in
theorem all216 : allF 216 8 = true := by decide +kernel
set_option maxRecDepth 100000 in
theorem all224 : allF 224 8 = true := by decide +kernel
set_option maxRecDepth 100000 in
theorem all232 : allF 232 8 = true := by decide +kernel
set_option maxRecDepth 100000 in
theorem all240 : allF 240 8 = true := by decide +kernel
set_option maxRecDepth 100000 in
theorem all248 : allF 248 8 = true := by decide +kernel
theorem runsS {c : Nat} (h1 : 192 ≤ c) (h2 : c < 256) : runF c = true := by
  rcases (by omega : (192 ≤ c ∧ c < 200) ∨ (200 ≤ c ∧ c < 208) ∨ (208 ≤ c ∧ c < 216) ∨ (216 ≤ c ∧ c < 224) ∨ (224 ≤ c ∧ c < 232) ∨ (232 ≤ c ∧ c < 240) ∨ (240 ≤ c ∧ c < 248) ∨ (248 ≤ c ∧ c < 256)) with h | h | h | h | h | h | h | h
  · have := allF_spec 192 8 all192 (c - 192) (by omega); rwa [show 192 + (c - 192) = c by omega] at this
  · have := allF_spec 200 8 all200 (c - 200) (by omega); rwa [show 200 + (c - 200) = c by omega] at this
  · have := allF_spec 208 8 all208 (c - 208) (by omega); rwa [show 208 + (c - 208) = c by omega] at this
  · have := allF_spec 216 8 all216 (c - 216) (by omega); rwa [show 216 + (c - 216) = c by omega] at this
  · have := allF_spec 224 8 all224 (c - 224) (by omega); rwa [show 224 + (c - 224) = c by omega] at this
  · have := allF_spec 232 8 all232 (c - 232) (by omega); rwa [show 232 + (c - 232) = c by omega] at this
  · have := allF_spec 240 8 all240 (c - 240) (by omega); rwa [show 240 + (c - 240) = c by omega] at this
  · have := allF_spec 248 8 all248 (c - 248) (by omega); rwa [show 248 + (c - 248) = c by omega] at this
end Go.Proofs.Ytcoaopaiipkcpaa.Rc
