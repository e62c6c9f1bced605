/- Count, Same, SameSet, Around of the references. -/
import Derived.Test.YtlmmhgbbfmocaaaEff
namespace Go.Proofs.Ytlmmhgbbfmocaaa
open Go.RowKit

theorem eql_run (x y : Eff) (w : World) : (binOp .eql 51 (.agg #[.int .i64 x.tick, .int .i64 x.idx, .int .i64 x.kind, .int .i64 x.val]) (.agg #[.int .i64 y.tick, .int .i64 y.idx, .int .i64 y.kind, .int .i64 y.val])).run Try.prog w = .ok (.bool (decide (x = y))) w := by
  have u3 := Try.underlying3
  have a3 := Try.isAgg3
  have z3 := Try.sizeOf3
  have hS : Try.prog.underlying 51 = some (.struct (Try.prog.fieldsOf 51)) := by kernel_rfl
  have hp : Try.prog.stoodInHeld 51 = false := by kernel_rfl
  rw [run_eql_struct, show (10000 : Nat) = 9999 + 1 from rfl, run_equalIn_agg w 9999 51 _ _ hS hp]
  simp only [Program.fieldsOf, Try.underlying51]
  go_simp
  obtain ⟨a1, a2, a3, a4⟩ := x
  obtain ⟨b1, b2, b3, b4⟩ := y
  by_cases h1 : a1 = b1 <;> by_cases h2 : a2 = b2 <;> by_cases h3 : a3 = b3 <;> by_cases h4 : a4 = b4 <;> simp [h1, h2, h3, h4]
theorem neq_run (x y : Eff) (w : World) : (binOp .neq 51 (.agg #[.int .i64 x.tick, .int .i64 x.idx, .int .i64 x.kind, .int .i64 x.val]) (.agg #[.int .i64 y.tick, .int .i64 y.idx, .int .i64 y.kind, .int .i64 y.val])).run Try.prog w = .ok (.bool (!decide (x = y))) w := by
  have h := eql_run x y w
  rw [run_eql_struct] at h
  rw [run_neq_struct]
  cases hr : (Op.equalIn 10000 51 (.agg #[.int .i64 x.tick, .int .i64 x.idx, .int .i64 x.kind, .int .i64 x.val]) (.agg #[.int .i64 y.tick, .int .i64 y.idx, .int .i64 y.kind, .int .i64 y.val])).run Try.prog w with
  | ok a w' =>
    rw [hr] at h
    simp only [Result.andThen_ok, Result.ok.injEq, Value.bool.injEq] at h ⊢
    exact ⟨by rw [h.1], h.2⟩
  | halt a w' =>
    rw [hr] at h
    simp [Result.andThen] at h

theorem count_take_succ {l : List Eff} {k : Nat} (h : k < l.length) (x : Eff) : (l.take (k + 1)).count x = (l.take k).count x + if l[k] = x then 1 else 0 := by
  rw [List.take_succ_eq_append_getElem h, List.count_append]
  congr 1
  by_cases he : l[k] = x
  · simp [he]
  · simp [he]

set_option maxHeartbeats 1000000 in
theorem count_calls (v : Value) (l : List Eff) (x : Eff) (w : World) (h : Row effE w v l) (hl : l.length ≤ 140737488355328) :
    Calls Try.prog 27 #[v, x.v] w fun e w' => e = .returned (.int .i64 (l.count x : Nat)) ∧ Below w.heap.size w w' := by
  obtain ⟨A, c, rfl, hc⟩ := h.slice
  obtain ⟨N, hN⟩ : ∃ N, N = l.length := ⟨_, rfl⟩
  rw [← hN] at h hc hl ⊢
  have HN := Lib.hid hN
  clear hN
  unfold Eff.v
  go_enter Try.func27, Try.ntmps27
  go_wp2_with fail
  go_loopg [5, 6] N (fun n cv iv wr => ∃ (k q : Nat), k + n = N ∧ iv = .int .i64 k ∧ cv = .int .i64 ((l.take k).count x : Nat) ∧ wr = (w.alloc (.cells #[.int .i64 x.tick, .int .i64 x.idx, .int .i64 x.kind, .int .i64 x.val] 51)).drewN q)
  case atStart => exact ⟨0, 0, by omega, rfl, by simp, rfl⟩
  case round =>
    obtain ⟨k, q, hk, rfl, rfl, rfl⟩ := hrel
    have HK := Lib.hid hk
    have hkN : k ≤ N := by omega
    clear hk
    by_cases hlt : k < N
    · have hk1 : k < l.length := by rw [← HN.out]; exact hlt
      obtain ⟨g, o, rfl, hg, c0, c1, c2, c3⟩ := h.eff_at hk1
      have hst := Lib.hid (count_take_succ hk1 x)
      generalize l[k] = y at *
      have hq := fun w => eql_run y x w
      have hi0 : (0 : Int) ≤ k := by omega
      have hi1 : (k : Int) < N := by omega
      have hcb := List.count_le_length (a := x) (l := l.take k)
      rw [List.length_take] at hcb
      have hcb2 : ((l.take k).count x : Nat) ≤ 140737488355328 := by omega
      clear hcb
      by_cases he : y = x
      · have hd : decide (y = x) = true := by simpa using he
        rw [hd] at hq
        have hst2 := Lib.hid (hst.out.trans (by rw [if_pos he]) : (l.take (k + 1)).count x = (l.take k).count x + 1)
        clear he hst hd
        go_wp2_with fail
        go_quiet (fail)
        go_wp2_with fail
        have hk := HK.out
        go_roundg (gk - 1)
        case measure => omega
        case rel => exact ⟨k + 1, _, by omega, by go_num, by rw [hst2.out]; go_num, rfl⟩
      · have hd : decide (y = x) = false := by simpa using he
        rw [hd] at hq
        have hst2 := Lib.hid (hst.out.trans (by rw [if_neg he]; rfl) : (l.take (k + 1)).count x = (l.take k).count x)
        clear he hst hd
        go_wp2_with fail
        go_quiet (fail)
        go_wp2_with fail
        have hk := HK.out
        go_roundg (gk - 1)
        case measure => omega
        case rel => exact ⟨k + 1, _, by omega, by go_num, by rw [hst2.out], rfl⟩
    · obtain rfl : k = N := by omega
      have HS := Lib.hid (by rw [List.take_of_length_le (Nat.le_of_eq HN.out.symm)] : (l.take k).count x = l.count x)
      go_wp2_with fail
      go_ret
      exact ⟨by first | rfl | (rw [HS.out]; rfl), below_drewN ((Below.refl _ _).alloc (Nat.le_refl _) _) _⟩
/-- Count in a world that has grown out of one in which the slice reads so. -/
theorem count_any (v : Value) (l : List Eff) (x : Eff) (w W : World) (h : Row effE w v l) (hl : l.length ≤ 140737488355328) (hb : Below w.heap.size w W) :
    Calls Try.prog 27 #[v, .agg #[.int .i64 x.tick, .int .i64 x.idx, .int .i64 x.kind, .int .i64 x.val]] W fun e w' => e = .returned (.int .i64 (l.count x : Nat)) ∧ Below w.heap.size w w' :=
  (count_calls v l x W (h.below' hb) hl).mono fun _ _ ⟨he, hb'⟩ => ⟨he, hb.trans (hb'.mono hb.size)⟩
end Go.Proofs.Ytlmmhgbbfmocaaa
