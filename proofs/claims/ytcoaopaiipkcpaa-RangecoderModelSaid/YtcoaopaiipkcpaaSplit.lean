/- narrow. -/
import Derived.Test.YtcoaopaiipkcpaaProg
import Derived.Test.YtcoaopaiipkcpaaBase
import Derived.WalkKit
import Derived.WalkSpells
import Derived.WalkLawsBesides
import Derived.Lib.Hide
import Derived.BigQuiet
import Derived.Deep.QuietTactic
namespace Go.Proofs.Ytcoaopaiipkcpaa
open Go.RowKit Rc

theorem ret_int {k : IntKind} {a b : Int} (h : a = b) : Ending.returned (.int k a) = .returned (.int k b) := by rw [h]
set_option maxHeartbeats 400000 in
theorem split_calls (c : Nat) (s : St) (hs : s.Ok) (f : Value) (k : Nat) (w : World) (hk : k < 256) (hc : CoderAt 52 w c s f) :
    Calls Try.prog 24 #[.pointer (some ⟨c, 0, none⟩), .int .i64 k] w fun e w' => e = .returned (.int .u32 (s.mid k)) ∧ ∃ n, w' = w.drewN n := by
    have hlo := hc.lo_
    have hhi := hc.hi_
    have hp := hc.p_ hk
    have hm := St.mid_lt hs hk
    have hl := hs.lt
    have hh := hs.2.2
    have h1 := hs.1 k hk
    obtain ⟨q, hq⟩ : ∃ q : Nat, q = s.mid k - s.lo := ⟨_, rfl⟩
    have hq2 : ((s.hi : Int) - s.lo) / 4096 * (s.p k) = q := by
      have : (s.hi - s.lo) / 4096 * s.p k = q := by unfold St.mid at hq; omega
      rw [← this, Int.natCast_mul, Int.natCast_ediv, show ((s.hi - s.lo : Nat) : Int) = (s.hi : Int) - s.lo from by omega]
      rfl
    have hq3 : (s.mid k : Int) = s.lo + q := by omega
    have hq4 : (q : Int) ≤ 4294967295 - s.lo := by omega
    have hk' : (0 : Int) ≤ k := by omega
    have hk'' : (k : Int) < 256 := by omega
    have HQ := Lib.hid hq
    have HQ3 := Lib.hid hq3
    have h5 : 0 ≤ ((s.hi : Int) - s.lo) / 4096 * (s.p k) := by rw [hq2]; omega
    have h6 : (s.lo : Int) + ((s.hi : Int) - s.lo) / 4096 * (s.p k) ≤ 4294967295 := by rw [hq2]; omega
    have HQ2 := Lib.hid hq2
    clear hq hq2 hq3
    go_enter Try.func24, Try.ntmps24
    go_wp2_with fail
    go_quiet (fail)
    go_wp2
    go_ret
    exact ⟨ret_int (by rw [HQ3.out, ← HQ2.out]), _, rfl⟩

end Go.Proofs.Ytcoaopaiipkcpaa
