/- The reference's board: Of, Wrong, Between, Confirm, Pending. -/
import Derived.Test.YtlmmhgbbfmocaaaGen
namespace Go.Proofs.Ytlmmhgbbfmocaaa
open Go.RowKit

/-- The reference's board: ticks, lists, boundary; each entry with its slice. -/
abbrev REnt := Int × Sl × List Eff
structure RefAt (w : World) (tv sv : Value) (R : List REnt) : Prop where
  ticks : Row intE w tv (R.map (·.1))
  lists : Row slE w sv (R.map (·.2.1))
  rows : ∀ p ∈ R, Row effE w p.2.1.v p.2.2
theorem RefAt.below' {w w' : World} {tv sv : Value} {R : List REnt} (h : RefAt w tv sv R) (hb : Below w.heap.size w w') : RefAt w' tv sv R :=
  ⟨h.ticks.below' hb, h.lists.below' hb, fun p hp => (h.rows p hp).below' hb⟩
theorem RefAt.nil (w : World) : RefAt w (.slice none 0 0) (.slice none 0 0) [] := ⟨Row.nil w, Row.nil w, fun p hp => by cases hp⟩
theorem RefAt.tick_at {w : World} {A : Option Addr} {n c : Nat} {sv : Value} {R : List REnt} (h : RefAt w (.slice A n c) sv R) {k : Nat} (hk : k < R.length) :
    ∃ g o, A = some ⟨g, o, none⟩ ∧ g < w.heap.size ∧ w.cell? ⟨g, o + k, none⟩ = some (.int .i64 R[k].1) := by
  obtain ⟨g, o, hA, hg, hc⟩ := h.ticks.int_at (k := k) (by rw [List.length_map]; exact hk)
  rw [List.getElem_map] at hc
  exact ⟨g, o, hA, hg, hc⟩
theorem RefAt.list_at {w : World} {A : Option Addr} {n c : Nat} {tv : Value} {R : List REnt} (h : RefAt w tv (.slice A n c) R) {k : Nat} (hk : k < R.length) :
    ∃ g o, A = some ⟨g, o, none⟩ ∧ g < w.heap.size ∧ w.cell? ⟨g, o + k, none⟩ = some (.slice R[k].2.1.a R[k].2.1.n R[k].2.1.c) := by
  obtain ⟨g, o, hA, hg, hc⟩ := h.lists.sl_at (k := k) (by rw [List.length_map]; exact hk)
  rw [List.getElem_map] at hc
  exact ⟨g, o, hA, hg, hc⟩

/-- The effects of the ticks from one to before another one. -/
def betweenL (a z : Int) : List REnt → List Eff
  | [] => []
  | p :: R => if a ≤ p.1 ∧ p.1 < z then p.2.2 ++ betweenL a z R else betweenL a z R
theorem betweenL_go {a z : Int} {p : REnt} {R : List REnt} {out T : List Eff} (h : out ++ betweenL a z (p :: R) = T) : ((a ≤ p.1 ∧ p.1 < z) → (out ++ p.2.2) ++ betweenL a z R = T) ∧ (¬ (a ≤ p.1 ∧ p.1 < z) → out ++ betweenL a z R = T) := by
  unfold betweenL at h
  constructor
  · intro hc
    rw [if_pos hc] at h
    rw [← h, List.append_assoc]
  · intro hc
    rw [if_neg hc] at h
    exact h
structure ROk (R : List REnt) : Prop where
  len : R.length ≤ 1000
  each : ∀ p ∈ R, p.2.2.length ≤ 40 ∧ OkAll p.2.2 ∧ i64 p.1

set_option maxHeartbeats 2000000 in
theorem between_calls (tv sv : Value) (R : List REnt) (bd a z : Int) (w : World) (h : RefAt w tv sv R) (hR : ROk R) :
    Calls Try.prog 28 #[.agg #[tv, sv, .int .i64 bd], .int .i64 a, .int .i64 z] w fun e w' => ∃ v, e = .returned v ∧ Own effE w' w.heap.size v (betweenL a z R) ∧ Below w.heap.size w w' := by
  obtain ⟨A1, c1, rfl, hc1⟩ := h.ticks.slice
  obtain ⟨A2, c2, rfl, hc2⟩ := h.lists.slice
  rw [List.length_map] at hc1 hc2
  obtain ⟨T, hT⟩ : ∃ T, T = betweenL a z R := ⟨_, rfl⟩
  obtain ⟨N, hN⟩ : ∃ N, N = R.length := ⟨_, rfl⟩
  have HT := Lib.hid hT
  have HN := Lib.hid hN
  have HR := Lib.hid hR
  have hNl := hR.len
  rw [← hT]
  rw [List.length_map, List.length_map] at h ⊢
  rw [← hN] at h hc1 hc2 hNl ⊢
  clear hT hN hR
  go_enter Try.func28, Try.ntmps28
  go_wp2_with fail
  go_loopg [7, 8] N (fun n v iv wr => ∃ (k : Nat) (out : List Eff), k + n = N ∧ iv = .int .i64 k ∧ Own effE wr (w.heap.size + 1) v out ∧ out.length ≤ 40 * k ∧ Blk wr w.heap.size 27 #[.slice A1 N c1, .slice A2 N c2, .int .i64 bd] ∧ Below w.heap.size w wr ∧ Hid (out ++ betweenL a z (R.drop k) = T))
  case atStart => exact ⟨0, [], by omega, rfl, Own.nil _ _, by simp, Blk.new w _ _, (Below.refl _ _).alloc (Nat.le_refl _) _, by rw [HT.out]; rfl⟩
  case round =>
    obtain ⟨k, out, hk, rfl, o, hol, bk, B, H⟩ := hrel
    have HK := Lib.hid hk
    have hkN : k ≤ N := by omega
    clear hk
    have sB := B.size
    have sb := bk.lt
    have d0 := bk.cell 0
    have d1 := bk.cell 1
    simp only [List.getElem?_toArray, List.getElem?_cons_succ, List.getElem?_cons_zero] at d0 d1
    by_cases hlt : k < N
    · have hk1 : k < R.length := by rw [← HN.out]; exact hlt
      have h2 := h.below' B
      obtain ⟨g1, o1, rfl, hg1, x1⟩ := h2.tick_at hk1
      obtain ⟨g2, o2, rfl, hg2, x2⟩ := h2.list_at hk1
      have hro := h2.rows _ (List.getElem_mem hk1)
      have hln := (HR.out.each _ (List.getElem_mem hk1)).1
      have hi0 : (0 : Int) ≤ k := by omega
      have hi1 : (k : Int) < N := by omega
      have H2 := H.out
      rw [List.drop_eq_getElem_cons hk1] at H2
      have H3 := Lib.hid (betweenL_go H2)
      generalize R[k] = p at *
      obtain ⟨t, ⟨At, nt, ct⟩, lt⟩ := p
      simp only at x1 x2 hro hln H3
      unfold Sl.v at hro
      obtain ⟨A', c', hv, hct⟩ := hro.slice
      injection hv with e1 e2 e3
      subst e1 e2 e3
      obtain ⟨A5, c5, rfl, hc5⟩ := o.slice
      clear H2 H h2
      by_cases hcond : a ≤ t ∧ t < z
      · have H4 := Lib.hid (H3.out.1 hcond)
        obtain ⟨hca, hcz⟩ := hcond
        go_wp2_with (at_builtin; refine wpList_appends elem_eff rfl (.tmp 32) (.tmp 37) rfl (w.heap.size + 1) (.slice A5 out.length c5) out rfl o (.slice At lt.length ct) lt rfl hro ?q1 ?q2 (by omega) ?_)
        case q1 => omega
        case q2 => omega
        intro v7 w7 o7 g7 l7
        have B7 := B.grown g7 sB (fun k hk => by have := o.ge k hk; omega)
        have bk7 := bk.grown g7 (fun e => by have := o.ge _ e.symm; omega)
        clear x1 x2 g7 l7 d0 d1 hro o
        go_wp2_with fail
        have hk := HK.out
        go_roundg (gk - 1)
        case measure => omega
        case rel => exact ⟨k + 1, out ++ lt, by omega, by go_num, o7, by rw [List.length_append]; omega, bk7, B7, H4.out⟩
      · have H4 := Lib.hid (H3.out.2 hcond)
        by_cases hca : a ≤ t
        · have hcz : ¬ t < z := fun h => hcond ⟨hca, h⟩
          clear hcond H3
          go_wp2_with fail
          have hk := HK.out
          go_roundg (gk - 1)
          case measure => omega
          case rel => exact ⟨k + 1, out, by omega, by go_num, o, by omega, bk, B, H4.out⟩
        · clear hcond H3
          go_wp2_with fail
          have hk := HK.out
          go_roundg (gk - 1)
          case measure => omega
          case rel => exact ⟨k + 1, out, by omega, by go_num, o, by omega, bk, B, H4.out⟩
    · obtain rfl : k = N := by omega
      have HE := Lib.hid (by
        have h := H.out
        rw [List.drop_of_length_le (Nat.le_of_eq HN.out.symm)] at h
        simpa [betweenL] using h : out = T)
      go_wp2_with fail
      go_ret
      exact ⟨_, rfl, (HE.out ▸ o).mono (by omega), B⟩

theorem refpending_calls (tv sv : Value) (R : List REnt) (bd : Int) (w : World) (h : RefAt w tv sv R) (hR : ROk R) :
    Calls Try.prog 22 #[.agg #[tv, sv, .int .i64 bd]] w fun e w' => ∃ v, e = .returned v ∧ Own effE w' w.heap.size v (betweenL bd 6000 R) ∧ Below w.heap.size w w' := by
  have b1 := (Below.refl w.heap.size w).alloc (Nat.le_refl _) (.cells #[tv, sv, .int .i64 bd] 27)
  obtain ⟨A1, c1, rfl, hc1⟩ := h.ticks.slice
  obtain ⟨A2, c2, rfl, hc2⟩ := h.lists.slice
  rw [List.length_map, List.length_map] at h b1 ⊢
  go_enter Try.func22, Try.ntmps22
  go_wp2_with fail
  refine (between_calls _ _ R bd bd 6000 _ (h.below' b1) hR).mono ?_
  rintro e w1 ⟨v, rfl, o, b⟩
  go_wp2_with fail
  go_ret
  exact ⟨v, rfl, o.mono (by simp), b1.trans (b.mono (by simp))⟩

theorem refconfirm_late (tv sv : Value) (R : List REnt) (bd tick : Int) (w : World) (h : RefAt w tv sv R) (ht : tick ≤ bd) :
    Calls Try.prog 13 #[.agg #[tv, sv, .int .i64 bd], .int .i64 tick] w fun e w' => e = .returned (.tuple #[.agg #[tv, sv, .int .i64 bd], .slice none 0 0]) ∧ Below w.heap.size w w' := by
  obtain ⟨A1, c1, rfl, hc1⟩ := h.ticks.slice
  obtain ⟨A2, c2, rfl, hc2⟩ := h.lists.slice
  rw [List.length_map, List.length_map] at h ⊢
  go_enter Try.func13, Try.ntmps13
  go_wp2_with fail
  refine bodyPost_ret (v := .tuple #[.agg #[.slice A1 R.length c1, .slice A2 R.length c2, .int .i64 bd], .slice none 0 0]) (by simp [results, Try.results13, go_sem]) rfl ⟨rfl, ?_⟩
  exact ((Below.refl _ _).alloc (Nat.le_refl _) _).alloc (by simp) _

set_option maxHeartbeats 1000000 in
theorem refconfirm_calls (tv sv : Value) (R : List REnt) (bd tick : Int) (w : World) (h : RefAt w tv sv R) (hR : ROk R) (ht : bd < tick) :
    Calls Try.prog 13 #[.agg #[tv, sv, .int .i64 bd], .int .i64 tick] w fun e w' => ∃ v, e = .returned (.tuple #[.agg #[tv, sv, .int .i64 tick], v]) ∧ Own effE w' w.heap.size v (betweenL bd tick R) ∧ Below w.heap.size w w' := by
  obtain ⟨A1, c1, rfl, hc1⟩ := h.ticks.slice
  obtain ⟨A2, c2, rfl, hc2⟩ := h.lists.slice
  have ht' : ¬ tick ≤ bd := by omega
  rw [List.length_map, List.length_map] at h ⊢
  generalize R.length = N at *
  go_enter Try.func13, Try.ntmps13
  go_wp2_with fail
  have b0 := ((Below.refl w.heap.size w).alloc (Nat.le_refl _) (.cells #[.slice A1 N c1, .slice A2 N c2, .int .i64 bd] 27)).alloc (by simp) (.cells #[.slice none 0 0, .slice none 0 0, .int .i64 0] 27)
  refine (between_calls _ _ R bd bd tick _ (h.below' b0) hR).mono ?_
  rintro e w1 ⟨v, rfl, o, b⟩
  have k0 := ((Blk.new w 27 #[.slice A1 N c1, .slice A2 N c2, .int .i64 bd]).alloc (.cells #[.slice none 0 0, .slice none 0 0, .int .i64 0] 27)).below' b
  have k1 := (Blk.new1 w (.cells #[.slice A1 N c1, .slice A2 N c2, .int .i64 bd] 27) 27 #[.slice none 0 0, .slice none 0 0, .int .i64 0]).below' b
  have B1 := b0.trans (b.mono (by simp; omega))
  have x0 := k0.cell 0
  have x1 := k0.cell 1
  have x2 := k0.cell 2
  have y2 := k0.frozen 2
  have z0 := k1.cell 0
  have z1 := k1.cell 1
  have z2 := k1.cell 2
  have f0 := k1.frozen 0
  have f1 := k1.frozen 1
  have f2 := k1.frozen 2
  simp only [List.getElem?_toArray, List.getElem?_cons_succ, List.getElem?_cons_zero] at x0 x1 x2 z0 z1 z2
  obtain ⟨Av, cv, rfl, hcv⟩ := o.slice
  go_wp2_with fail
  have hn0 := o.ne k0 (by decide)
  have hn1 := o.ne k1 (by decide)
  have k9 := (((k1.far (p := ⟨w.heap.size, 2, none⟩) (by simp) (.int .i64 tick)).put 0 (.slice A1 N c1)).put 1 (.slice A2 N c2)).put 2 (.int .i64 tick)
  have o9 := (((o.far (p := ⟨w.heap.size, 2, none⟩) hn0 (.int .i64 tick)).far (p := ⟨w.heap.size + 1, 0, none⟩) hn1 (.slice A1 N c1)).far (p := ⟨w.heap.size + 1, 1, none⟩) hn1 (.slice A2 N c2)).far (p := ⟨w.heap.size + 1, 2, none⟩) hn1 (.int .i64 tick)
  have B9 := (((B1.setCell (p := ⟨w.heap.size, 2, none⟩) (by simp) (.int .i64 tick)).setCell (p := ⟨w.heap.size + 1, 0, none⟩) (by simp) (.slice A1 N c1)).setCell (p := ⟨w.heap.size + 1, 1, none⟩) (by simp) (.slice A2 N c2)).setCell (p := ⟨w.heap.size + 1, 2, none⟩) (by simp) (.int .i64 tick)
  generalize ((((w1.setCell ⟨w.heap.size, 2, none⟩ (.int .i64 tick)).setCell ⟨w.heap.size + 1, 0, none⟩ (.slice A1 N c1)).setCell ⟨w.heap.size + 1, 1, none⟩ (.slice A2 N c2)).setCell ⟨w.heap.size + 1, 2, none⟩ (.int .i64 tick)) = w9 at *
  have d0 := k9.cell 0
  have d1 := k9.cell 1
  have d2 := k9.cell 2
  simp only [List.setIfInBounds_toArray, List.set_cons_zero, List.set_cons_succ, List.getElem?_toArray, List.getElem?_cons_succ, List.getElem?_cons_zero] at d0 d1 d2
  refine bodyPost_ret (v := .tuple #[.agg #[.slice A1 N c1, .slice A2 N c2, .int .i64 tick], .slice Av (betweenL bd tick R).length cv]) (by simp [results, Try.results13, go_sem, d0, d1, d2]) rfl ⟨_, rfl, o9.mono (by simp; omega), B9⟩

/-- The current effects of a tick. -/
def rold (t : Int) (R : List REnt) : Sl × List Eff := (mget t R).getD (⟨none, 0, 0⟩, [])
theorem rold_go {t : Int} {p : REnt} {R : List REnt} : (p.1 = t → rold t (p :: R) = p.2) ∧ (¬ p.1 = t → rold t (p :: R) = rold t R) := by
  unfold rold mget
  constructor
  · intro h; simp [h]
  · intro h; simp [h]

set_option maxHeartbeats 1000000 in
theorem of_calls (tv sv : Value) (R : List REnt) (bd t : Int) (w : World) (h : RefAt w tv sv R) (hR : ROk R) :
    Calls Try.prog 18 #[.agg #[tv, sv, .int .i64 bd], .int .i64 t] w fun e w' => e = .returned (rold t R).1.v ∧ Below w.heap.size w w' := by
  obtain ⟨A1, c1, rfl, hc1⟩ := h.ticks.slice
  obtain ⟨A2, c2, rfl, hc2⟩ := h.lists.slice
  obtain ⟨N, hN⟩ : ∃ N, N = R.length := ⟨_, rfl⟩
  obtain ⟨T, hT⟩ : ∃ T, T = rold t R := ⟨_, rfl⟩
  have HT := Lib.hid hT
  have HN := Lib.hid hN
  have hNl := hR.len
  rw [← hT]
  rw [List.length_map] at hc1 hc2
  rw [List.length_map, List.length_map] at h ⊢
  rw [← hN] at h hc1 hc2 hNl ⊢
  clear hT hN hR
  go_enter Try.func18, Try.ntmps18
  go_wp2_with fail
  go_loopg [5] N (fun n iv wr => ∃ (k : Nat), k + n = N ∧ iv = .int .i64 k ∧ Blk wr w.heap.size 27 #[.slice A1 N c1, .slice A2 N c2, .int .i64 bd] ∧ Below w.heap.size w wr ∧ Hid (rold t (R.drop k) = T))
  case atStart => exact ⟨0, by omega, rfl, Blk.new w _ _, (Below.refl _ _).alloc (Nat.le_refl _) _, by rw [HT.out]; rfl⟩
  case round =>
    obtain ⟨k, hk, rfl, bk, B, H⟩ := hrel
    have HK := Lib.hid hk
    have hkN : k ≤ N := by omega
    clear hk
    have sB := B.size
    have d0 := bk.cell 0
    have d1 := bk.cell 1
    simp only [List.getElem?_toArray, List.getElem?_cons_succ, List.getElem?_cons_zero] at d0 d1
    by_cases hlt : k < N
    · have hk1 : k < R.length := by rw [← HN.out]; exact hlt
      have h2 := h.below' B
      obtain ⟨g1, o1, rfl, hg1, x1⟩ := h2.tick_at hk1
      obtain ⟨g2, o2, rfl, hg2, x2⟩ := h2.list_at hk1
      have hi0 : (0 : Int) ≤ k := by omega
      have hi1 : (k : Int) < N := by omega
      have H2 := H.out
      rw [List.drop_eq_getElem_cons hk1] at H2
      generalize R[k] = p at *
      have H3 := rold_go (t := t) (p := p) (R := R.drop (k + 1))
      rw [H2] at H3
      replace H3 := Lib.hid H3
      obtain ⟨u, ⟨At, nt, ct⟩, lt⟩ := p
      simp only at x1 x2 H3
      clear H2 H h2
      by_cases he : u = t
      · have H4 := Lib.hid (H3.out.1 he)
        have he' : (u == t) = true := by simp [he]
        clear he H3
        go_wp2_with fail
        go_ret
        exact ⟨by rw [H4.out]; rfl, B⟩
      · have H4 := Lib.hid (H3.out.2 he)
        have he' : (u == t) = false := by simp [he]
        clear he H3
        go_wp2_with fail
        have hk := HK.out
        go_roundg (gk - 1)
        case measure => omega
        case rel => exact ⟨k + 1, by omega, by go_num, bk, B, H4.out.symm⟩
    · obtain rfl : k = N := by omega
      have HE := Lib.hid (by
        have h := H.out
        rw [List.drop_of_length_le (Nat.le_of_eq HN.out.symm)] at h
        exact h : rold t [] = T)
      go_wp2_with fail
      go_ret
      exact ⟨by rw [← HE.out]; rfl, B⟩
end Go.Proofs.Ytlmmhgbbfmocaaa
