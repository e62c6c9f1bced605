/- The reference's Wrong. -/
import Derived.Test.YtlmmhgbbfmocaaaRefB
namespace Go.Proofs.Ytlmmhgbbfmocaaa
open Go.RowKit

theorem any_go {t : Int} {x : Eff} {l : List Eff} {b : Bool} (h : ((x :: l).any fun y => y.tick != t) = b) : (x.tick = t → (l.any fun y => y.tick != t) = b) ∧ (¬ x.tick = t → b = true) := by
  simp only [List.any_cons] at h
  constructor
  · intro he; rw [← h]; simp [he]
  · intro he; rw [← h]; simp [he]

set_option maxHeartbeats 2000000 in
theorem refwrong_calls (tv sv v : Value) (R : List REnt) (bd tick : Int) (l : List Eff) (w : World) (h : RefAt w tv sv R) (r : Row effE w v l) (hl : l.length ≤ 1000000) (_ht : i64 tick) :
    Calls Try.prog 16 #[.agg #[tv, sv, .int .i64 bd], .int .i64 tick, v] w fun e w' => e = .returned (.int .i64 (wrong bd tick l : Nat)) ∧ Below w.heap.size w w' := by
  obtain ⟨A1, c1, rfl, hc1⟩ := h.ticks.slice
  obtain ⟨A2, c2, rfl, hc2⟩ := h.lists.slice
  obtain ⟨A, c, rfl, hc⟩ := r.slice
  have hll : ((l.length : Int)) ≤ 1000000 := by omega
  generalize (R.map (·.1)).length = n1 at *
  generalize (R.map (·.2.1)).length = n2 at *
  clear h
  by_cases h1 : tick < 0
  · rw [show wrong bd tick l = 18 from if_pos (.inl h1)]
    go_enter Try.func16, Try.ntmps16
    go_wp2_with fail
    go_ret
    exact ⟨rfl, (Below.refl _ _).alloc (Nat.le_refl _) _⟩
  by_cases h2 : 5999 < tick
  · rw [show wrong bd tick l = 18 from if_pos (.inr (by omega))]
    go_enter Try.func16, Try.ntmps16
    go_wp2_with fail
    go_ret
    exact ⟨rfl, (Below.refl _ _).alloc (Nat.le_refl _) _⟩
  have h12 : ¬ (tick < 0 ∨ 6000 ≤ tick) := by omega
  by_cases h3 : tick < bd
  · rw [show wrong bd tick l = 20 by unfold wrong; rw [if_neg h12, if_pos h3]]
    clear h12
    go_enter Try.func16, Try.ntmps16
    go_wp2_with fail
    go_ret
    exact ⟨rfl, (Below.refl _ _).alloc (Nat.le_refl _) _⟩
  by_cases h4 : 40 < l.length
  · rw [show wrong bd tick l = 2 by unfold wrong; rw [if_neg h12, if_neg h3, if_pos h4]]
    clear h12
    have h4' : (40 : Int) < l.length := by omega
    go_enter Try.func16, Try.ntmps16
    go_wp2_with fail
    go_ret
    exact ⟨rfl, (Below.refl _ _).alloc (Nat.le_refl _) _⟩
  have h4' : ¬ (40 : Int) < l.length := by omega
  have hW : wrong bd tick l = if (l.any fun x => x.tick != tick) = true then 1 else 0 := by unfold wrong; rw [if_neg h12, if_neg h3, if_neg h4]
  rw [hW]
  obtain ⟨T, hT⟩ : ∃ T, (l.any fun x => x.tick != tick) = T := ⟨_, rfl⟩
  obtain ⟨N, hN⟩ : ∃ N, N = l.length := ⟨_, rfl⟩
  have HN := Lib.hid hN
  have HT := Lib.hid hT
  rw [hT]
  obtain ⟨V, hV⟩ : ∃ V : Nat, V = if T = true then 1 else 0 := ⟨_, rfl⟩
  have HV := Lib.hid hV
  rw [← hV]
  rw [← hN] at hc h4' r hll ⊢
  clear hW hT hN h12 h4 hV
  go_enter Try.func16, Try.ntmps16
  go_wp2_with fail
  go_loopg [7] N (fun n iv wr => ∃ (k : Nat), k + n = N ∧ iv = .int .i64 k ∧ Below w.heap.size w wr ∧ Hid (((l.drop k).any fun x => x.tick != tick) = T))
  case atStart => exact ⟨0, by omega, rfl, (Below.refl _ _).alloc (Nat.le_refl _) _, HT.out⟩
  case round =>
    obtain ⟨k, hk, rfl, B, H⟩ := hrel
    have HK := Lib.hid hk
    have hkN : k ≤ N := by omega
    clear hk
    by_cases hlt : k < N
    · have hk1 : k < l.length := by rw [← HN.out]; exact hlt
      obtain ⟨g1, o1, rfl, hg1, x0, -, -, -⟩ := (r.below' B).eff_at hk1
      have hi0 : (0 : Int) ≤ k := by omega
      have hi1 : (k : Int) < N := by omega
      have H2 := H.out
      rw [List.drop_eq_getElem_cons hk1] at H2
      have H3 := Lib.hid (any_go H2)
      generalize l[k] = x at *
      clear H2 H
      by_cases he : x.tick = tick
      · have H4 := Lib.hid (H3.out.1 he)
        have he' : (x.tick != tick) = false := by simp [he]
        clear he H3
        go_wp2_with fail
        have hk := HK.out
        go_roundg (gk - 1)
        case measure => omega
        case rel => exact ⟨k + 1, by omega, by go_num, B, H4.out⟩
      · have H4 := Lib.hid (H3.out.2 he)
        have he' : (x.tick != tick) = true := by simp [he]
        clear he H3
        go_wp2_with fail
        go_ret
        exact ⟨by rw [HV.out, H4.out]; rfl, B⟩
    · obtain rfl : k = N := by omega
      have HE := Lib.hid (by
        have h := H.out
        rw [List.drop_of_length_le (Nat.le_of_eq HN.out.symm)] at h
        simpa using h.symm : T = false)
      go_wp2_with fail
      go_ret
      exact ⟨by rw [HV.out, HE.out]; rfl, B⟩
end Go.Proofs.Ytlmmhgbbfmocaaa
