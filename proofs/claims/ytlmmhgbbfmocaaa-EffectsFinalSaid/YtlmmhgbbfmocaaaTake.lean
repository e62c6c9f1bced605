/- take and Pending of the board. -/
import Derived.Test.YtlmmhgbbfmocaaaBoard
namespace Go.Proofs.Ytlmmhgbbfmocaaa
open Go.RowKit

/-- The effects of all ticks before a limit. -/
def takeL (lim : Int) : List (Int × Ent) → List Eff
  | [] => []
  | p :: W => if p.1 < lim then p.2.2 ++ takeL lim W else takeL lim W
/-- The board's lists are short, their effects and ticks are numbers. -/
structure WOk (W : List (Int × Ent)) : Prop where
  len : W.length ≤ 1000
  each : ∀ p ∈ W, p.2.2.length ≤ 40 ∧ OkAll p.2.2 ∧ i64 p.1
theorem takeL_go {lim : Int} {p : Int × Ent} {W : List (Int × Ent)} {out T : List Eff} (h : out ++ takeL lim (p :: W) = T) : (p.1 < lim → (out ++ p.2.2) ++ takeL lim W = T) ∧ (¬ p.1 < lim → out ++ takeL lim W = T) := by
  unfold takeL at h
  constructor
  · intro hc
    rw [if_pos hc] at h
    rw [← h, List.append_assoc]
  · intro hc
    rw [if_neg hc] at h
    exact h
theorem old_at {W : List (Int × Ent)} (h : Sorted W) {k : Nat} (hk : k < W.length) : old W[k].1 W = W[k].2 := by
  have : mget W[k].1 W = some W[k].2 := h.get (List.getElem_mem hk)
  unfold old
  rw [this]
  rfl
theorem takeL_len {lim : Int} {W : List (Int × Ent)} (h : WOk W) : (takeL lim W).length ≤ 40 * W.length := by
  replace h := h.each
  induction W with
  | nil => simp [takeL]
  | cons p W ih =>
    have h1 := ih (fun q hq => h q (List.mem_cons_of_mem _ hq))
    have h2 := (h p List.mem_cons_self).1
    unfold takeL
    split
    · rw [List.length_append, List.length_cons]; omega
    · rw [List.length_cons]; omega
theorem takeL_ok {lim : Int} {W : List (Int × Ent)} (h : WOk W) : OkAll (takeL lim W) := by
  replace h := h.each
  induction W with
  | nil => exact OkAll.nil
  | cons p W ih =>
    have h1 := ih (fun q hq => h q (List.mem_cons_of_mem _ hq))
    unfold takeL
    split
    · exact (h p List.mem_cons_self).2.1.append h1
    · exact h1

set_option maxHeartbeats 2000000 in
theorem take_calls (g m : Nat) (W : List (Int × Ent)) (bd lim : Int) (w : World) (h : BoardAt w g m W bd) (hW : WOk W) (_hl : i64 lim) :
    Calls Try.prog 29 #[.pointer (some ⟨g, 0, none⟩), .int .i64 lim] w fun e w' => ∃ v, e = .returned v ∧ Own effE w' w.heap.size v (takeL lim W) ∧ Below w.heap.size w w' := by
  obtain ⟨T, hT⟩ : ∃ T, T = takeL lim W := ⟨_, rfl⟩
  have HT := Lib.hid hT
  rw [← hT]
  clear hT
  have d0 := h.blk.cell 0
  simp only [List.getElem?_toArray, List.getElem?_cons_zero] at d0
  have hlen := hW.len
  have HB := Lib.hid h
  have HW := Lib.hid hW
  have hgl := h.blk.lt
  have hmm := h.map
  have hss := Lib.hid h.sorted
  clear h hW
  go_enter Try.func29, Try.ntmps29
  go_wp2_with fail
  refine (keys_calls (some m) w).mono ?_
  rintro e w1 ⟨rfl, hw1⟩
  have b1 : Below w.heap.size w w1 := by rw [hw1]; exact (Below.refl _ _).alloc (Nat.le_refl _) _
  have HW1 := Lib.hid hw1
  clear hw1
  go_wp2_with fail
  refine (sorted_calls m W w w1 hmm hss.out (by omega) HW1.out).mono ?_
  rintro e w2 ⟨v2, rfl, o2, b2⟩
  have B2 := b1.trans (b2.mono b1.size)
  have s2 := B2.size
  obtain ⟨N, hN⟩ : ∃ N, N = W.length := ⟨_, rfl⟩
  have HN := Lib.hid hN
  obtain ⟨A2, c2, rfl, hc2⟩ := o2.slice
  have r2 := o2.row
  rw [List.length_map] at r2 hc2 ⊢
  rw [← hN] at hlen hc2 r2 ⊢
  have HB2 := Lib.hid (HB.out.below' B2)
  clear hN HB hmm b1 b2 o2 HW1 d0
  go_wp2_with fail
  go_loopg [5, 7, 15] N (fun n v tv i wr => ∃ (k : Nat) (out : List Eff), k + n = N ∧ i = .int .i64 k ∧ Own effE wr w2.heap.size v out ∧ out.length ≤ 40 * k ∧ Below w2.heap.size w2 wr ∧ Hid (out ++ takeL lim (W.drop k) = T))
  case atStart => exact ⟨0, [], by omega, rfl, Own.nil _ _, by simp, Below.refl _ _, by rw [HT.out]; rfl⟩
  case round =>
    obtain ⟨k, out, hk, rfl, o, hol, B, H⟩ := hrel
    have HK := Lib.hid hk
    have hkN : k ≤ N := by omega
    clear hk
    have sB := B.size
    by_cases hlt : k < N
    · have hk1 : k < W.length := by rw [← HN.out]; exact hlt
      have hk2 : k < (W.map (·.1)).length := by rw [List.length_map]; exact hk1
      have r3 := r2.below' B
      obtain ⟨g1, o1, rfl, hg, c10⟩ := r3.int_at hk2
      rw [List.getElem_map] at c10
      have hi0 : (0 : Int) ≤ k := by omega
      have hi1 : (k : Int) < N := by omega
      have hb3 := HB2.out.below' B
      have hoa := old_at hss.out hk1
      have LL := hb3.map.look (HW.out.each _ (List.getElem_mem hk1)).2.2
      have hro := hb3.rows _ (List.getElem_mem hk1)
      have hln := (HW.out.each _ (List.getElem_mem hk1)).1
      rw [hoa] at LL
      have H2 := H.out
      rw [List.drop_eq_getElem_cons hk1] at H2
      have H3 := Lib.hid (takeL_go H2)
      have d0 := hb3.blk.cell 0
      simp only [List.getElem?_toArray, List.getElem?_cons_zero] at d0
      generalize W[k] = p at *
      obtain ⟨t, vt, lt⟩ := p
      simp only at c10 LL hro hln H3
      obtain ⟨At, ct, rfl, hct⟩ := hro.slice
      obtain ⟨A5, c5, rfl, hc5⟩ := o.slice
      clear H2 H hoa hb3
      by_cases hlim : t < lim
      · have H4 := Lib.hid (H3.out.1 hlim)
        go_wp2_with (at_builtin; refine wpList_appends elem_eff rfl (.tmp 22) (.tmp 28) rfl w2.heap.size (.slice A5 out.length c5) out rfl o (.slice At lt.length ct) lt rfl hro ?q1 ?q2 sB ?_)
        case q1 => omega
        case q2 => omega
        intro v7 w7 o7 g7 l7
        have B7 := B.grown g7 sB (fun k hk => o.ge k hk)
        clear c10 g7 l7 LL d0 hro o
        go_wp2_with fail
        have hk := HK.out
        go_roundg (gk - 1)
        case measure => omega
        case rel => exact ⟨k + 1, out ++ lt, by omega, by go_num, o7, by rw [List.length_append]; omega, B7, H4.out⟩
      · have H4 := Lib.hid (H3.out.2 hlim)
        clear LL hro
        go_wp2_with fail
        have hk := HK.out
        go_roundg (gk - 1)
        case measure => omega
        case rel => exact ⟨k + 1, out, by omega, by go_num, o, by omega, B, H4.out⟩
    · obtain rfl : k = N := by omega
      have HE := Lib.hid (by
        have h := H.out
        rw [List.drop_of_length_le (Nat.le_of_eq HN.out.symm)] at h
        simpa [takeL] using h : out = T)
      go_wp2_with fail
      go_ret
      exact ⟨_, rfl, (HE.out ▸ o).mono s2, B2.trans (B.mono s2)⟩

theorem pending_calls (g m : Nat) (W : List (Int × Ent)) (bd : Int) (w : World) (h : BoardAt w g m W bd) (hW : WOk W) :
    Calls Try.prog 21 #[.pointer (some ⟨g, 0, none⟩)] w fun e w' => ∃ v, e = .returned v ∧ Own effE w' w.heap.size v (takeL 6000 W) ∧ Below w.heap.size w w' := by
  go_enter Try.func21, Try.ntmps21
  go_wp2_with fail
  refine (take_calls g m W bd 6000 w h hW ⟨by omega, by omega⟩).mono ?_
  rintro e w1 ⟨v, rfl, o, b⟩
  go_wp2_with fail
  go_ret
  exact ⟨v, rfl, o, b⟩
end Go.Proofs.Ytlmmhgbbfmocaaa
