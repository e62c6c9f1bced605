/- Same, SameSet, Around of the references. -/
import Derived.Test.YtlmmhgbbfmocaaaCount
namespace Go.Proofs.Ytlmmhgbbfmocaaa
open Go.RowKit

theorem take_eq_succ {α : Type} {xs ys : List α} {k : Nat} (h1 : k < xs.length) (h2 : k < ys.length) (h : xs.take k = ys.take k) (he : xs[k] = ys[k]) : xs.take (k + 1) = ys.take (k + 1) := by
  rw [List.take_succ_eq_append_getElem h1, List.take_succ_eq_append_getElem h2, h, he]
theorem ne_of_get {α : Type} {xs ys : List α} {k : Nat} (h1 : k < xs.length) (h2 : k < ys.length) (he : ¬ xs[k] = ys[k]) : ¬ xs = ys := by
  rintro rfl
  exact he rfl

set_option maxHeartbeats 1000000 in
theorem same_calls (v1 v2 : Value) (xs ys : List Eff) (w : World) (h1 : Row effE w v1 xs) (h2 : Row effE w v2 ys) (l1 : xs.length ≤ 140737488355328) (_l2 : ys.length ≤ 140737488355328) :
    Calls Try.prog 14 #[v1, v2] w fun e w' => e = .returned (.bool (decide (xs = ys))) ∧ Below w.heap.size w w' := by
  obtain ⟨A1, c1, rfl, hc1⟩ := h1.slice
  obtain ⟨A2, c2, rfl, hc2⟩ := h2.slice
  by_cases hl : xs.length = ys.length
  · obtain ⟨N, hN⟩ : ∃ N, N = xs.length := ⟨_, rfl⟩
    have HN2 := Lib.hid (hN.trans hl)
    have HN := Lib.hid hN
    rw [← hl] at h2 hc2 ⊢
    rw [← hN] at h1 h2 hc1 hc2 l1 ⊢
    clear hN hl
    have hNN : ((N : Int) != (N : Int)) = false := by simp
    go_enter Try.func14, Try.ntmps14
    go_wp2_with fail
    go_loopg [5] N (fun n i wr => ∃ (k q : Nat), k + n = N ∧ i = .int .i64 k ∧ wr = w.drewN q ∧ Hid (xs.take k = ys.take k))
    case atStart => exact ⟨0, 0, by omega, rfl, rfl, rfl⟩
    case round =>
      obtain ⟨k, q, hk, rfl, rfl, HT⟩ := hrel
      have HK := Lib.hid hk
      have hkN : k ≤ N := by omega
      clear hk
      by_cases hlt : k < N
      · have hk1 : k < xs.length := by rw [← HN.out]; exact hlt
        have hk2 : k < ys.length := by rw [← HN2.out]; exact hlt
        obtain ⟨g1, o1, rfl, -, c10, c11, c12, c13⟩ := h1.eff_at hk1
        obtain ⟨g2, o2, rfl, -, c20, c21, c22, c23⟩ := h2.eff_at hk2
        have hi0 : (0 : Int) ≤ k := by omega
        have hi1 : (k : Int) < N := by omega
        have hq := fun w => neq_run xs[k] ys[k] w
        by_cases he : xs[k] = ys[k]
        · have HS := Lib.hid (take_eq_succ hk1 hk2 HT.out he)
          rw [decide_eq_true he] at hq
          generalize xs[k] = x at *
          generalize ys[k] = y at *
          clear he
          go_wp2_with fail
          go_quiet (fail)
          go_wp2_with fail
          have hk := HK.out
          go_roundg (gk - 1)
          case measure => omega
          case rel => exact ⟨k + 1, _, by omega, by go_num, rfl, HS⟩
        · have HS := Lib.hid (ne_of_get hk1 hk2 he)
          rw [decide_eq_false he] at hq
          generalize xs[k] = x at *
          generalize ys[k] = y at *
          clear he
          go_wp2_with fail
          go_quiet (fail)
          go_wp2_with fail
          go_ret
          exact ⟨by rw [decide_eq_false HS.out]; rfl, below_drewN (below_drewN (Below.refl _ _) _) _⟩
      · obtain rfl : k = N := by omega
        have HS := Lib.hid (by
          have h := HT.out
          rwa [List.take_of_length_le (Nat.le_of_eq HN.out.symm), List.take_of_length_le (Nat.le_of_eq HN2.out.symm)] at h : xs = ys)
        go_wp2_with fail
        go_ret
        exact ⟨by rw [decide_eq_true HS.out]; rfl, below_drewN (Below.refl _ _) _⟩
  · have hne : ((xs.length : Int) != (ys.length : Int)) = true := by rw [bne_iff_ne]; omega
    have HS := Lib.hid (fun e => hl (by rw [e]) : ¬ xs = ys)
    generalize xs.length = n1 at *
    generalize ys.length = n2 at *
    go_enter Try.func14, Try.ntmps14
    go_wp2_with fail
    go_ret
    exact ⟨by rw [decide_eq_false HS.out]; rfl, Below.refl _ _⟩

/-- How often each element of the first is in either. -/
def sameSet (xs ys : List Eff) : Bool := xs.length == ys.length && xs.all fun x => xs.count x == ys.count x
theorem sameSet_true {xs ys : List Eff} (hl : xs.length = ys.length) (h : ∀ x ∈ xs, xs.count x = ys.count x) : sameSet xs ys = true := by
  unfold sameSet
  simp [hl]
  exact h

set_option maxHeartbeats 1000000 in
/-- SameSet, where it says yes. -/
theorem sameSet_calls (v1 v2 : Value) (xs ys : List Eff) (w : World) (h1 : Row effE w v1 xs) (h2 : Row effE w v2 ys) (l1 : xs.length ≤ 140737488355328) (hl : xs.length = ys.length) (hc : ∀ x ∈ xs, xs.count x = ys.count x) :
    Calls Try.prog 26 #[v1, v2] w fun e w' => e = .returned (.bool true) ∧ Below w.heap.size w w' := by
  obtain ⟨A1, c1, rfl, hc1⟩ := h1.slice
  obtain ⟨A2, c2, rfl, hc2⟩ := h2.slice
  obtain ⟨N, hN⟩ : ∃ N, N = xs.length := ⟨_, rfl⟩
  have HN2 := Lib.hid (hN.trans hl)
  have HN := Lib.hid hN
  have HC := Lib.hid hc
  have h1' := h1
  have h2' := h2
  rw [← hl] at h2 hc2 ⊢
  rw [← hN] at h1 h2 hc1 hc2 l1 ⊢
  clear hN hl hc
  have hNN : ((N : Int) != (N : Int)) = false := by simp
  go_enter Try.func26, Try.ntmps26
  go_wp2_with fail
  go_loopg [5] N (fun n i wr => ∃ (k : Nat), k + n = N ∧ i = .int .i64 k ∧ Below w.heap.size w wr)
  case atStart => exact ⟨0, by omega, rfl, Below.refl _ _⟩
  case round =>
    obtain ⟨k, hk, rfl, B⟩ := hrel
    have HK := Lib.hid hk
    have hkN : k ≤ N := by omega
    clear hk
    by_cases hlt : k < N
    · have hk1 : k < xs.length := by rw [← HN.out]; exact hlt
      obtain ⟨g1, o1, rfl, hg, c10, c11, c12, c13⟩ := h1.eff_at hk1
      have hi0 : (0 : Int) ≤ k := by omega
      have hi1 : (k : Int) < N := by omega
      have HX := Lib.hid (HC.out xs[k] (List.getElem_mem hk1))
      generalize xs[k] = x at *
      obtain ⟨m, hm⟩ : ∃ m, m = xs.count x := ⟨_, rfl⟩
      have K1 := fun W hb => Lib.hid (count_any (.slice (some ⟨g1, o1, none⟩) N c1) xs x w W h1 (by rw [← HN.out]; exact l1) hb)
      have K2 := fun W hb => Lib.hid (count_any (.slice A2 N c2) ys x w W h2 (by rw [← HN2.out]; exact l1) hb)
      rw [← hm] at K1
      rw [← HX.out, ← hm] at K2
      have hmm : ((m : Int) != (m : Int)) = false := by simp
      have HS := Lib.hid (fun (W : World) (hb : Below w.heap.size w W) => (⟨(hb.cell (p := ⟨g1, o1 + k * 4, none⟩) hg).trans c10, (hb.cell (p := ⟨g1, o1 + k * 4 + 1, none⟩) hg).trans c11, (hb.cell (p := ⟨g1, o1 + k * 4 + 2, none⟩) hg).trans c12, (hb.cell (p := ⟨g1, o1 + k * 4 + 3, none⟩) hg).trans c13, hb⟩ :
        W.cell? ⟨g1, o1 + k * 4, none⟩ = some (.int .i64 x.tick) ∧ W.cell? ⟨g1, o1 + k * 4 + 1, none⟩ = some (.int .i64 x.idx) ∧ W.cell? ⟨g1, o1 + k * 4 + 2, none⟩ = some (.int .i64 x.kind) ∧ W.cell? ⟨g1, o1 + k * 4 + 3, none⟩ = some (.int .i64 x.val) ∧ Below w.heap.size w W))
      clear c10 c11 c12 c13 hm h1 h2 h1' h2' HC HX
      go_wp2_with fail
      have B2 := B.drew
      go_region_held3 (fun W => W.cell? ⟨g1, o1 + k * 4, none⟩ = some (.int .i64 x.tick) ∧ W.cell? ⟨g1, o1 + k * 4 + 1, none⟩ = some (.int .i64 x.idx) ∧ W.cell? ⟨g1, o1 + k * 4 + 2, none⟩ = some (.int .i64 x.kind) ∧ W.cell? ⟨g1, o1 + k * 4 + 3, none⟩ = some (.int .i64 x.val) ∧ Below w.heap.size w W)
        (first | exact HS.out _ hb2 | exact HS.out _ hb1 | exact HS.out _ B2)
        (first | (go_at_call 27; (with_reducible refine (K1 _ (by first | exact hb2 | exact hb1 | exact B2)).out.mono ?_); rintro e w1 ⟨rfl, hb1⟩) | (go_at_call 27; (with_reducible refine (K2 _ (by first | exact hb1 | exact B2)).out.mono ?_); rintro e w2 ⟨rfl, hb2⟩))
      go_wp2_with fail
      have hk := HK.out
      go_roundg (gk - 1)
      case measure => omega
      case rel => exact ⟨k + 1, by omega, by go_num, hb2⟩
    · obtain rfl : k = N := by omega
      go_wp2_with fail
      go_ret
      exact ⟨rfl, B⟩
end Go.Proofs.Ytlmmhgbbfmocaaa
