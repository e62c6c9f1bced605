/- Runs of equal bytes: all 256. -/
import Derived.Test.YtcoaopaiipkcpaaRunP
import Derived.Test.YtcoaopaiipkcpaaRunQ
import Derived.Test.YtcoaopaiipkcpaaRunR
import Derived.Test.YtcoaopaiipkcpaaRunS
namespace Go.Proofs.Ytcoaopaiipkcpaa.Rc
theorem runsAll {c : Nat} (h : c < 256) : runF c = true := by
  rcases (by omega : c < 64 ∨ (64 ≤ c ∧ c < 128) ∨ (128 ≤ c ∧ c < 192) ∨ 192 ≤ c) with h1 | h1 | h1 | h1
  · exact runsP (by omega) h1
  · exact runsQ h1.1 h1.2
  · exact runsR h1.1 h1.2
  · exact runsS h1 h
end Go.Proofs.Ytcoaopaiipkcpaa.Rc
