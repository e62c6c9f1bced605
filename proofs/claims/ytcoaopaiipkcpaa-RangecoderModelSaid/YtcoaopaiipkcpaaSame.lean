/- Two slices of bytes, compared. -/
import Derived.Test.YtcoaopaiipkcpaaOwn
import Derived.Test.YtcoaopaiipkcpaaProg
import Derived.WalkKit
import Derived.WalkSpells
import Derived.WalkLawsBesides
import Derived.Lib.Hide
import Derived.BigQuiet
import Derived.Deep.QuietTactic
import Derived.Deep.LoopGhost
namespace Go.Proofs.Ytcoaopaiipkcpaa
open Go.RowKit

theorem take_eq_succ {xs ys : List Nat} {k : Nat} (h1 : k < xs.length) (h2 : k < ys.length) (h : xs.take k = ys.take k) (he : xs[k] = ys[k]) : xs.take (k + 1) = ys.take (k + 1) := by
  rw [List.take_succ_eq_append_getElem h1, List.take_succ_eq_append_getElem h2, h, he]
theorem ne_of_get {xs ys : List Nat} {k : Nat} (h1 : k < xs.length) (h2 : k < ys.length) (he : ¬ xs[k] = ys[k]) : ¬ xs = ys := by
  rintro rfl
  exact he rfl

theorem Reads.at_ {w : World} {A : Option Addr} {n c : Nat} {xs : List Nat} {k : Nat} (h : Reads w (.slice A n c) (u8s xs)) (hk : k < xs.length) : ∃ g o, A = some ⟨g, o, none⟩ ∧ g < w.heap.size ∧ w.cell? ⟨g, o + k, none⟩ = some (.int .u8 (xs[k] : Int)) := by
  obtain ⟨A', c', hv, hc, hh⟩ := h
  rw [u8s_length] at hh
  obtain ⟨g, o, hA, hg, hcell⟩ := hh (by omega)
  injection hv with e1 e2 e3
  exact ⟨g, o, by rw [e1, hA], hg, hcell k _ (u8s_get xs k hk)⟩

set_option maxHeartbeats 1000000 in
theorem same_calls (v1 v2 : Value) (xs ys : List Nat) (w : World) (h1 : Reads w v1 (u8s xs)) (h2 : Reads w v2 (u8s ys)) (l1 : xs.length ≤ 140737488355328) (_l2 : ys.length ≤ 140737488355328) :
    Calls Try.prog 13 #[v1, v2] w fun e w' => e = .returned (.bool (decide (xs = ys))) ∧ ∃ n, w' = w.drewN n := by
  have h1' := h1
  have h2' := h2
  obtain ⟨A1, c1, rfl, hc1, -⟩ := h1
  obtain ⟨A2, c2, rfl, hc2, -⟩ := h2
  simp only [u8s_length] at *
  by_cases hl : xs.length = ys.length
  · have HN2 := Lib.hid hl
    rw [← hl] at h2' ⊢
    generalize hN : xs.length = N at h1' h2' l1 HN2 ⊢
    have HN := Lib.hid hN.symm
    clear hN hl hc1 hc2 _l2
    have hNN : ((N : Int) != (N : Int)) = false := by simp
    go_enter Try.func13, Try.ntmps13
    go_wp2_with fail
    go_loopg [5] N (fun n i wr => ∃ (k q : Nat), k + n = N ∧ i = .int .i64 k ∧ wr = w.drewN q ∧ Hid (xs.take k = ys.take k))
    case atStart => exact ⟨0, 0, by omega, rfl, rfl, rfl⟩
    case round =>
      obtain ⟨k, q, hk, rfl, rfl, HT⟩ := hrel
      have HK := Lib.hid hk
      have hkN : k ≤ N := by omega
      clear hk
      by_cases hlt : k < N
      · have hk1 : k < xs.length := by rw [← HN.out]; exact hlt
        have hk2 : k < ys.length := by rw [← HN2.out]; exact hlt
        obtain ⟨g1, o1, rfl, -, hcell1⟩ := h1'.at_ hk1
        obtain ⟨g2, o2, rfl, -, hcell2⟩ := h2'.at_ hk2
        have hi0 : (0 : Int) ≤ k := by omega
        have hi1 : (k : Int) < N := by omega
        by_cases he : xs[k] = ys[k]
        · have HS := Lib.hid (take_eq_succ hk1 hk2 HT.out he)
          rw [← he] at hcell2
          generalize xs[k] = x at *
          clear he
          go_wp2_with fail
          go_quiet (fail)
          go_wp2_with fail
          have hk := HK.out
          go_roundg (gk - 1)
          case measure => omega
          case rel => exact ⟨k + 1, _, by omega, by go_num, rfl, HS⟩
        · have HS := Lib.hid (ne_of_get hk1 hk2 he)
          generalize xs[k] = x at *
          generalize ys[k] = y at *
          have hne : ((x : Int) != (y : Int)) = true := by rw [bne_iff_ne]; omega
          go_wp2_with fail
          go_quiet (fail)
          go_wp2_with fail
          go_ret
          exact ⟨by rw [decide_eq_false HS.out]; rfl, _, World.drewN_drewN _ _ _⟩
      · obtain rfl : k = N := by omega
        have HS := Lib.hid (by
          have h := HT.out
          rwa [List.take_of_length_le (by rw [← HN.out]; omega), List.take_of_length_le (by rw [← HN2.out]; omega)] at h : xs = ys)
        go_wp2_with fail
        go_ret
        exact ⟨by rw [decide_eq_true HS.out]; rfl, _, rfl⟩
  · have hne : ((xs.length : Int) != (ys.length : Int)) = true := by rw [bne_iff_ne]; omega
    have HS := Lib.hid (fun e => hl (by rw [e]) : ¬ xs = ys)
    generalize xs.length = n1 at *
    generalize ys.length = n2 at *
    go_enter Try.func13, Try.ntmps13
    go_wp2_with fail
    go_ret
    exact ⟨by rw [decide_eq_false HS.out]; rfl, 0, rfl⟩

set_option maxHeartbeats 1000000 in
theorem equal_calls (v1 v2 : Value) (xs ys : List Nat) (w : World) (h1 : Reads w v1 (u8s xs)) (h2 : Reads w v2 (u8s ys)) (l1 : xs.length ≤ 140737488355328) (_l2 : ys.length ≤ 140737488355328) :
    Calls Try.prog 29 #[v1, v2] w fun e w' => e = .returned (.bool (decide (xs = ys))) ∧ ∃ n, w' = w.drewN n := by
  have h1' := h1
  have h2' := h2
  obtain ⟨A1, c1, rfl, hc1, -⟩ := h1
  obtain ⟨A2, c2, rfl, hc2, -⟩ := h2
  simp only [u8s_length] at *
  by_cases hl : xs.length = ys.length
  · have HN2 := Lib.hid hl
    rw [← hl] at h2' ⊢
    generalize hN : xs.length = N at h1' h2' l1 HN2 ⊢
    have HN := Lib.hid hN.symm
    clear hN hl hc1 hc2 _l2
    have hNN : ((N : Int) != (N : Int)) = false := by simp
    go_enter Try.func29, Try.ntmps29
    go_wp2_with fail
    go_loopg [13] N (fun n i wr => ∃ (k q : Nat), k + n = N ∧ i = .int .i64 k ∧ wr = w.drewN q ∧ Hid (xs.take k = ys.take k))
    case atStart => exact ⟨0, 0, by omega, rfl, rfl, rfl⟩
    case round =>
      obtain ⟨k, q, hk, rfl, rfl, HT⟩ := hrel
      have HK := Lib.hid hk
      have hkN : k ≤ N := by omega
      clear hk
      by_cases hlt : k < N
      · have hk1 : k < xs.length := by rw [← HN.out]; exact hlt
        have hk2 : k < ys.length := by rw [← HN2.out]; exact hlt
        obtain ⟨g1, o1, rfl, -, hcell1⟩ := h1'.at_ hk1
        obtain ⟨g2, o2, rfl, -, hcell2⟩ := h2'.at_ hk2
        have hi0 : (0 : Int) ≤ k := by omega
        have hi1 : (k : Int) < N := by omega
        by_cases he : xs[k] = ys[k]
        · have HS := Lib.hid (take_eq_succ hk1 hk2 HT.out he)
          rw [← he] at hcell2
          generalize xs[k] = x at *
          clear he
          go_wp2_with fail
          go_quiet (fail)
          go_wp2_with fail
          have hk := HK.out
          go_roundg (gk - 1)
          case measure => omega
          case rel => exact ⟨k + 1, _, by omega, by go_num, rfl, HS⟩
        · have HS := Lib.hid (ne_of_get hk1 hk2 he)
          generalize xs[k] = x at *
          generalize ys[k] = y at *
          have hne : ((x : Int) != (y : Int)) = true := by rw [bne_iff_ne]; omega
          go_wp2_with fail
          go_quiet (fail)
          go_wp2_with fail
          go_ret
          exact ⟨by rw [decide_eq_false HS.out]; rfl, _, World.drewN_drewN _ _ _⟩
      · obtain rfl : k = N := by omega
        have HS := Lib.hid (by
          have h := HT.out
          rwa [List.take_of_length_le (by rw [← HN.out]; omega), List.take_of_length_le (by rw [← HN2.out]; omega)] at h : xs = ys)
        go_wp2_with fail
        go_ret
        exact ⟨by rw [decide_eq_true HS.out]; rfl, _, rfl⟩
  · have hne : ((xs.length : Int) != (ys.length : Int)) = true := by rw [bne_iff_ne]; omega
    have HS := Lib.hid (fun e => hl (by rw [e]) : ¬ xs = ys)
    generalize xs.length = n1 at *
    generalize ys.length = n2 at *
    go_enter Try.func29, Try.ntmps29
    go_wp2_with fail
    go_ret
    exact ⟨by rw [decide_eq_false HS.out]; rfl, 0, rfl⟩
end Go.Proofs.Ytcoaopaiipkcpaa
