/- Few; the decoder's call-back; the length of a message. -/
import Derived.Test.YtcoaopaiipkcpaaSmall
import Derived.Deep.RegionHeld3
namespace Go.Proofs.Ytcoaopaiipkcpaa
open Go.RowKit Rc

set_option maxHeartbeats 400000 in
theorem few_calls (v : Value) (xs : List Nat) (M : Nat) (w : World) (h1 : Reads w v (u8s xs)) (l1 : xs.length ≤ 9223372036854775807) (hM : M ≤ 1000000) :
    Calls Try.prog 11 #[v, .int .i64 M] w fun e w' => ∃ v', e = .returned v' ∧ OwnB 5 w' w.heap.size v' (xs.take M) ∧ Below w.heap.size w w' := by
  have h2 := h1
  obtain ⟨A1, c1, rfl, hc1, -⟩ := h1
  simp only [u8s_length] at *
  generalize hN : xs.length = N at *
  have HN := Lib.hid hN
  clear hN
  by_cases hlt : M < N
  · have hr := h2.take M (by rw [u8s_length, HN.out]; omega)
    have ht : (u8s xs).take M = u8s (xs.take M) := by simp [u8s]
    rw [ht] at hr
    have hlen : (u8s (xs.take M)).length = M := by rw [u8s_length, List.length_take, HN.out]; omega
    have HL := Lib.hid hlen
    have hM2 : (M : Int) < N := by omega
    have hmin : min (N : Int) M = M := by omega
    clear ht hlen h2
    go_enter Try.func11, Try.ntmps11
    go_wp2_with (at_builtin; refine wpList_appends elem_u8 rfl (.tmp 6) (.tmp 12) rfl w.heap.size (.slice none 0 0) 0 [] rfl (World.ownsRow_nil _ _ _ _) (.slice A1 M c1) (u8s (xs.take M)) rfl hr (u8s_one _) (by rw [HL.out]; omega) (by rw [HL.out]; omega) (Nat.le_refl _) ?_; intro v' w1 h3 h4 h5)
    have r1 : OwnB 5 w1 w.heap.size v' (xs.take M) := by unfold OwnB; simpa [u8s_length] using h3
    have r2 := (Below.refl w.heap.size w).grown h4 (Nat.le_refl _) (fun k hk => by simp [Value.ownBlock] at hk)
    clear h3 h4 h5 hr
    go_wp2_with fail
    go_ret
    exact ⟨_, rfl, r1, r2⟩
  · have ht : xs.take M = xs := List.take_of_length_le (by rw [HN.out]; omega)
    have HT := Lib.hid ht
    have hmin : min (N : Int) M = N := by omega
    clear ht
    have hr : Reads w (.slice A1 N c1) (u8s xs) := h2
    have hlen : (u8s xs).length = N := by rw [u8s_length, HN.out]
    have HL := Lib.hid hlen
    clear hlen h2
    go_enter Try.func11, Try.ntmps11
    go_wp2_with (at_builtin; refine wpList_appends elem_u8 rfl (.tmp 6) (.tmp 12) rfl w.heap.size (.slice none 0 0) 0 [] rfl (World.ownsRow_nil _ _ _ _) (.slice A1 N c1) (u8s xs) rfl hr (u8s_one _) (by rw [HL.out]; omega) (by rw [HL.out]; omega) (Nat.le_refl _) ?_; intro v' w1 h3 h4 h5)
    have r1 : OwnB 5 w1 w.heap.size v' xs := by unfold OwnB; simpa [u8s_length] using h3
    have r2 := (Below.refl w.heap.size w).grown h4 (Nat.le_refl _) (fun k hk => by simp [Value.ownBlock] at hk)
    clear h3 h4 h5 hr
    go_wp2_with fail
    go_ret
    exact ⟨_, rfl, by rw [HT.out]; exact r1, r2⟩
end Go.Proofs.Ytcoaopaiipkcpaa
