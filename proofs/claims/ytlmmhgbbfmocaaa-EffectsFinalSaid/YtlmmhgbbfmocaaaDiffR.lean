/- The reference's Difference. -/
import Derived.Test.YtlmmhgbbfmocaaaSame
namespace Go.Proofs.Ytlmmhgbbfmocaaa
open Go.RowKit

theorem diffR_go {b p l out T : List Eff} {x : Eff} (h : out ++ diffR b p (x :: l) = T) : (b.count x ≤ p.count x → (out ++ [x]) ++ diffR b (p ++ [x]) l = T) ∧ (¬ b.count x ≤ p.count x → out ++ diffR b (p ++ [x]) l = T) := by
  unfold diffR at h
  constructor
  · intro hc
    rw [if_pos hc] at h
    rw [← h]
    simp
  · intro hc
    rw [if_neg hc] at h
    exact h

set_option maxHeartbeats 1000000 in
theorem diffR_calls (v1 v2 : Value) (xs ys : List Eff) (w : World) (h1 : Row effE w v1 xs) (h2 : Row effE w v2 ys) (l1 : xs.length ≤ 1000000) (l2 : ys.length ≤ 1000000) :
    Calls Try.prog 19 #[v1, v2] w fun e w' => ∃ v', e = .returned v' ∧ Own effE w' w.heap.size v' (diff xs ys) ∧ Below w.heap.size w w' := by
  obtain ⟨A1, c1, rfl, hc1⟩ := h1.slice
  obtain ⟨A2, c2, rfl, hc2⟩ := h2.slice
  obtain ⟨N, hN⟩ : ∃ N, N = xs.length := ⟨_, rfl⟩
  obtain ⟨M, hM⟩ : ∃ M, M = ys.length := ⟨_, rfl⟩
  obtain ⟨T, hT⟩ : ∃ T, T = diff xs ys := ⟨_, rfl⟩
  have HN := Lib.hid hN
  have HM := Lib.hid hM
  have HT := Lib.hid hT
  rw [← hN] at h1 hc1 l1 ⊢
  rw [← hM] at h2 hc2 l2 ⊢
  rw [← hT]
  clear hN hM hT
  go_enter Try.func19, Try.ntmps19
  go_wp2_with fail
  go_loopg [5, 6] N (fun n v i wr => ∃ (k : Nat) (out : List Eff), k + n = N ∧ i = .int .i64 k ∧ Own effE wr w.heap.size v out ∧ out.length ≤ k ∧ Below w.heap.size w wr ∧ Hid (out ++ diffR ys (xs.take k) (xs.drop k) = T))
  case atStart => exact ⟨0, [], by omega, rfl, Own.nil _ _, by simp, Below.refl _ _, by rw [HT.out]; exact diffR_diff xs ys⟩
  case round =>
    obtain ⟨k, out, hk, rfl, o, hol, B, H⟩ := hrel
    have HK := Lib.hid hk
    have hkN : k ≤ N := by omega
    clear hk
    by_cases hlt : k < N
    · have hk1 : k < xs.length := by rw [← HN.out]; exact hlt
      have r1 := h1.below' B
      have r2 := h2.below' B
      have r0 := r1.take k (by rw [← HN.out]; exact hkN)
      obtain ⟨g1, o1, rfl, hg, c10, c11, c12, c13⟩ := r1.eff_at hk1
      have hi0 : (0 : Int) ≤ k := by omega
      have hi1 : (k : Int) < N := by omega
      have hi2 : k ≤ c1 := by omega
      have H2 := H.out
      rw [List.drop_eq_getElem_cons hk1] at H2
      have H3 := diffR_go H2
      rw [← List.take_succ_eq_append_getElem hk1] at H3
      replace H3 := Lib.hid H3
      generalize xs[k] = x at *
      obtain ⟨m1, hm1⟩ : ∃ m, m = (xs.take k).count x := ⟨_, rfl⟩
      obtain ⟨m2, hm2⟩ : ∃ m, m = ys.count x := ⟨_, rfl⟩
      have K1 := fun W hb => Lib.hid (count_any (.slice (some ⟨g1, o1, none⟩) k c1) (xs.take k) x wr W r0 (by rw [List.length_take]; omega) hb)
      have K2 := fun W hb => Lib.hid (count_any (.slice A2 M c2) ys x wr W r2 (by rw [← HM.out]; omega) hb)
      rw [← hm1] at K1
      rw [← hm2] at K2
      rw [← hm1, ← hm2] at H3
      have HS := Lib.hid (fun (W : World) (hb : Below wr.heap.size wr W) => (⟨(hb.cell (p := ⟨g1, o1 + k * 4, none⟩) hg).trans c10, (hb.cell (p := ⟨g1, o1 + k * 4 + 1, none⟩) hg).trans c11, (hb.cell (p := ⟨g1, o1 + k * 4 + 2, none⟩) hg).trans c12, (hb.cell (p := ⟨g1, o1 + k * 4 + 3, none⟩) hg).trans c13, hb⟩ :
        W.cell? ⟨g1, o1 + k * 4, none⟩ = some (.int .i64 x.tick) ∧ W.cell? ⟨g1, o1 + k * 4 + 1, none⟩ = some (.int .i64 x.idx) ∧ W.cell? ⟨g1, o1 + k * 4 + 2, none⟩ = some (.int .i64 x.kind) ∧ W.cell? ⟨g1, o1 + k * 4 + 3, none⟩ = some (.int .i64 x.val) ∧ Below wr.heap.size wr W))
      obtain ⟨A5, c5, rfl, hc5⟩ := o.slice
      have sr := B.size
      clear c10 c11 c12 c13 hm1 hm2 h1 h2 r0 r1 r2 H H2
      by_cases hcm : m2 ≤ m1
      all_goals
        go_wp2_with fail
        have B2 : Below wr.heap.size wr wr.drew := (Below.refl _ _).drew
        go_region_held3 (fun W => W.cell? ⟨g1, o1 + k * 4, none⟩ = some (.int .i64 x.tick) ∧ W.cell? ⟨g1, o1 + k * 4 + 1, none⟩ = some (.int .i64 x.idx) ∧ W.cell? ⟨g1, o1 + k * 4 + 2, none⟩ = some (.int .i64 x.kind) ∧ W.cell? ⟨g1, o1 + k * 4 + 3, none⟩ = some (.int .i64 x.val) ∧ Below wr.heap.size wr W)
          (first | exact HS.out _ hb2 | exact HS.out _ hb1 | exact HS.out _ B2)
          (first | (go_at_call 27; (with_reducible refine (K1 _ (by first | exact hb2 | exact hb1 | exact B2)).out.mono ?_); rintro e w1 ⟨rfl, hb1⟩) | (go_at_call 27; (with_reducible refine (K2 _ (by first | exact hb1 | exact B2)).out.mono ?_); rintro e w2 ⟨rfl, hb2⟩))
        obtain ⟨c20, c21, c22, c23, -⟩ := HS.out _ hb2
        have o2 := o.below' hb2
        have B3 := B.trans (hb2.mono sr)
        have s2 := B3.size
        clear hb1 B2 o
      · go_wp2_with (at_builtin; refine wpList_push elem_eff rfl (.tmp 28) (.tmp 33) rfl w.heap.size (.slice A5 out.length c5) _ rfl (o2.alloc _) w2.heap.size x rfl ?q1 ?q2 ?q3 ?q4 ?_)
        case q1 => exact Blk.new w2 _ _
        case q2 => omega
        case q3 => omega
        case q4 => simp; omega
        intro v7 w7 o7 g7 l7
        have B7 := (B3.alloc s2 (Obj.cells #[Value.int IntKind.i64 x.tick, Value.int IntKind.i64 x.idx, Value.int IntKind.i64 x.kind, Value.int IntKind.i64 x.val] 51)).grown g7 (by simp; omega) (fun k hk => o2.ge k hk)
        clear c20 c21 c22 c23 g7 l7 o2
        go_wp2_with fail
        have hk := HK.out
        go_roundg (gk - 1)
        case measure => omega
        case rel => exact ⟨k + 1, out ++ [x], by omega, by go_num, o7, by simp; omega, B7, H3.out.1 hcm⟩
      · go_wp2_with fail
        have hk := HK.out
        go_roundg (gk - 1)
        case measure => omega
        case rel => exact ⟨k + 1, out, by omega, by go_num, o2, by omega, B3, H3.out.2 hcm⟩
    · obtain rfl : k = N := by omega
      have HE := Lib.hid (by
        have h := H.out
        rw [List.drop_of_length_le (Nat.le_of_eq HN.out.symm)] at h
        simpa [diffR] using h : out = T)
      go_wp2_with fail
      go_ret
      exact ⟨_, rfl, HE.out ▸ o, B⟩
end Go.Proofs.Ytlmmhgbbfmocaaa
