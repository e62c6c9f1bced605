/- Around, Few, Length (the reference's). -/
import Derived.Test.YtcoaopaiipkcpaaSame
import Derived.Test.YtcoaopaiipkcpaaShift
namespace Go.Proofs.Ytcoaopaiipkcpaa
open Go.RowKit Rc

def aroundZ (n m : Int) : Int := if n < 0 then (-(n + 1)) % m else n % m
theorem aroundZ_nonneg (n m : Int) (hm : 1 ≤ m) : 0 ≤ aroundZ n m ∧ aroundZ n m < m := by
  unfold aroundZ
  split <;> exact ⟨Int.emod_nonneg _ (by omega), Int.emod_lt_of_pos _ (by omega)⟩

theorem aroundZ_neg {n m : Int} (h : n < 0) : aroundZ n m = (-(n + 1)) % m := if_pos h
theorem aroundZ_pos {n m : Int} (h : ¬ n < 0) : aroundZ n m = n % m := if_neg h

set_option maxHeartbeats 400000 in
theorem around_calls (n m : Int) (w : World) (h1 : -9223372036854775808 ≤ n) (h2 : n ≤ 9223372036854775807) (hm : 1 ≤ m) (hm2 : m ≤ 9223372036854775807) :
    Calls Try.prog 18 #[.int .i64 n, .int .i64 m] w fun e w' => e = .returned (.int .i64 (aroundZ n m)) ∧ w' = w := by
  by_cases h : n < 0
  · have h3 : 0 ≤ -(n + 1) := by omega
    have H := Lib.hid (Int.tmod_eq_emod_of_nonneg (b := m) h3)
    have H2 := Lib.hid (aroundZ_neg (m := m) h)
    go_enter Try.func18, Try.ntmps18
    go_wp2
    go_ret
    exact ⟨ret_int (by rw [H2.out, ← H.out, Int.neg_tmod]), rfl⟩
  · have H2 := Lib.hid (aroundZ_pos (m := m) h)
    go_enter Try.func18, Try.ntmps18
    go_wp2
    go_ret
    exact ⟨ret_int (by rw [H2.out]), rfl⟩

set_option maxHeartbeats 1000000 in
set_option maxRecDepth 100000 in
theorem reflen_calls (N : Nat) (w : World) (hl : N < 34359738368) :
    Calls Try.prog 20 #[.int .i64 N] w fun e w' => ∃ v', e = .returned v' ∧ OwnB 5 w' w.heap.size v' (len N) ∧ Below w.heap.size w w' := by
    go_enter Try.func20, Try.ntmps20
    go_wp2_with fail
    go_loopg [0, 3] 20 (fun k n v wr => ∃ (m : Nat) (done : List Nat), n = .int .i64 m ∧ m < 34359738368 ∧ done.length + k ≤ 20 ∧ OwnB 5 wr w.heap.size v done ∧ Below w.heap.size w wr ∧ Hid (done ++ lenF k m = len N ∧ m < 128 ^ (k + 1)))
    case atStart => exact ⟨N, [], rfl, hl, by simp, OwnB.nil _ _, Below.refl _ _, rfl, by omega⟩
    case round =>
      obtain ⟨m, done, rfl, hm, hdl, hown, hB, H⟩ := hrel
      have hbs := hB.size
      by_cases hge : 128 ≤ m
      · obtain ⟨k', hk1, hk2⟩ := lenF_go H.out hge
        have HK := Lib.hid hk1
        have HK2 := Lib.hid hk2
        clear hk1 hk2
        have hge' : (128 : Int) ≤ m := by omega
        go_wp2_with (at_builtin; refine wpList_push elem_u8 rfl (.tmp 6) (.tmp 11) rfl w.heap.size _ _ _ rfl (hown.alloc _) wr.heap.size (.int .u8 ((m % 128 + 128 : Nat) : Int)) rfl ?c1 rfl ?c2 ?c3 ?c4 ?_)
        case c1 => simp
        case c2 => omega
        case c3 => omega
        case c4 => simp; omega
        intro v' w2 h4 h5 h6
        have r1 : OwnB 5 w2 w.heap.size v' (done ++ [m % 128 + 128]) := by unfold OwnB; rw [u8s_append, List.length_append]; exact h4
        have r2 := (hB.alloc (by omega) (Obj.cells #[Value.int IntKind.u8 ((m % 128 + 128 : Nat) : Int)] 5)).grown h5 (by simp; omega) (fun k hk => (World.ownsRow.lt hown k hk).1)
        clear h4 h5 h6
        go_wp2_with fail
        have hk1 := HK.out
        go_roundg k'
        case measure => omega
        case rel => exact ⟨m / 128, done ++ [m % 128 + 128], by go_num, by omega, by simp; omega, r1, r2, HK2.out⟩
      · have hstop := Lib.hid (lenF_stop H.out hge)
        have hlt' : (m : Int) < 128 := by omega
        go_wp2_with (at_builtin; refine wpList_push elem_u8 rfl (.tmp 15) (.tmp 18) rfl w.heap.size _ _ _ rfl (hown.alloc _) wr.heap.size (.int .u8 (m : Int)) rfl ?d1 rfl ?d2 ?d3 ?d4 ?_)
        case d1 => simp
        case d2 => omega
        case d3 => omega
        case d4 => simp; omega
        intro v' w2 h4 h5 h6
        have r1 : OwnB 5 w2 w.heap.size v' (done ++ [m]) := by unfold OwnB; rw [u8s_append, List.length_append]; exact h4
        have r2 := (hB.alloc (by omega) (Obj.cells #[Value.int IntKind.u8 (m : Int)] 5)).grown h5 (by simp; omega) (fun k hk => (World.ownsRow.lt hown k hk).1)
        clear h4 h5 h6
        go_wp2_with fail
        go_ret
        exact ⟨_, rfl, by rw [← hstop.out]; exact r1, r2⟩
end Go.Proofs.Ytcoaopaiipkcpaa
