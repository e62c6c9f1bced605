/- Runs of equal bytes from 0 to 63, reckoned by the kernel. -/
import Derived.Test.YtcoaopaiipkcpaaRun
namespace Go.Proofs.Ytcoaopaiipkcpaa.Rc
set_option maxRecDepth 100000 in
theorem all0 : allF 0 8 = true := by decide +kernel
set_option maxRecDepth 100000 in
theorem all8 : allF 8 8 = true := by decide +kernel
set_option maxRecDepth 100000 in
theorem all16 : allF 16 8 = true := by decide +kernel
set_option maxRecDepth 100000 in
theorem all24 : allF 24 8 = true := by decide +kernel
set_option maxRecDepth 100000 in
theorem all32 : allF 32 8 = true := by decide +kernel
set_option maxRecDepth 100000 in
theorem all40 : allF 40 8 = true := by decide +kernel
set_option maxRecDepth 100000 in
theorem all48 : allF 48 8 = true := by decide +kernel
set_option maxRecDepth 100000 in
theorem all56 : allF 56 8 = true := by decide +kernel
theorem runsP {c : Nat} (h1 : 0 ≤ c) (h2 : c < 64) : runF c = true := by
  rcases (by omega : (0 ≤ c ∧ c < 8) ∨ (8 ≤ c ∧ c < 16) ∨ (16 ≤ c ∧ c < 24) ∨ (24 ≤ c ∧ c < 32) ∨ (32 ≤ c ∧ c < 40) ∨ (40 ≤ c ∧ c < 48) ∨ (48 ≤ c ∧ c < 56) ∨ (56 ≤ c ∧ c < 64)) with h | h | h | h | h | h | h | h
  · have := allF_spec 0 8 all0 (c - 0) (by omega); rwa [show 0 + (c - 0) = c by omega] at this
  · have := allF_spec 8 8 all8 (c - 8) (by omega); rwa [show 8 + (c - 8) = c by omega] at this
  · have := allF_spec 16 8 all16 (c - 16) (by omega); rwa [show 16 + (c - 16) = c by omega] at this
  · have := allF_spec 24 8 all24 (c - 24) (by omega); rwa [show 24 + (c - 24) = c by omega] at this
  · have := allF_spec 32 8 all32 (c - 32) (by omega); rwa [show 32 + (c - 32) = c by omega] at this
  · have := allF_spec 40 8 all40 (c - 40) (by omega); rwa [show 40 + (c - 40) = c by omega] at this
  · have := allF_spec 48 8 all48 (c - 48) (by omega); rwa [show 48 + (c - 48) = c by omega] at this
  · have := allF_spec 56 8 all56 (c - 56) (by omega); rwa [show 56 + (c - 56) = c by omega] at this
end Go.Proofs.Ytcoaopaiipkcpaa.Rc
