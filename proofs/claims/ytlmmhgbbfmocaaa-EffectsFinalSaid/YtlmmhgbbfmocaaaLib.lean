/- slices.ContainsFunc, slices.Clone at effects; maps.DeleteFunc at the board's map. -/
import Derived.Test.YtlmmhgbbfmocaaaTake
namespace Go.Proofs.Ytlmmhgbbfmocaaa
open Go.RowKit

theorem other_calls (b : Nat) (tick : Int) (x : Eff) (w : World) (h : w.cell? ⟨b, 0, none⟩ = some (.int .i64 tick)) :
    Calls Try.prog 33 #[.agg #[.int .i64 x.tick, .int .i64 x.idx, .int .i64 x.kind, .int .i64 x.val], .pointer (some ⟨b, 0, none⟩)] w fun e w' => e = .returned (.bool (x.tick != tick)) ∧ Below w.heap.size w w' := by
  have hb := World.block_lt_of_cell? w _ h
  have hb2 : b ≠ w.heap.size := by simp at hb; omega
  go_enter Try.func33, Try.ntmps33
  go_wp2_with fail
  go_ret
  exact ⟨rfl, (Below.refl _ _).alloc (Nat.le_refl _) _⟩

theorem contains_calls (v : Value) (l : List Eff) (b : Nat) (tick : Int) (w : World) (h : Row effE w v l) (hl : l.length ≤ 1000000) (hc : w.cell? ⟨b, 0, none⟩ = some (.int .i64 tick)) :
    Calls Try.prog 32 #[v, .func (.func 33) #[] #[.pointer (some ⟨b, 0, none⟩)]] w fun e w' => e = .returned (.bool (l.any fun x => x.tick != tick)) ∧ Below w.heap.size w w' := by
  have hb := World.block_lt_of_cell? w _ hc
  obtain ⟨A, c, rfl, hlc, hr⟩ := h
  rcases hr with ⟨rfl, rfl⟩ | ⟨g, o, cs, rfl, hbl, hcell⟩
  · go_enter Try.func32, Try.ntmps32
    go_wp2
    refine wp_loop_rounds 1 ?_
    rw [rounds_succ]
    go_wp2
    go_ret
    exact ⟨rfl, Below.refl _ _⟩
  · have hp : PredBelow Try.prog 33 #[.pointer (some ⟨b, 0, none⟩)] (fun x : Eff => .agg (effE.cells x).toArray) (fun x => x.tick != tick) w := by
      intro W x hB
      refine (other_calls b tick x W ((hB.cell (p := ⟨b, 0, none⟩) hb).trans hc)).mono ?_
      rintro e w' ⟨rfl, hb'⟩
      exact ⟨rfl, hB.trans (hb'.mono hB.size)⟩
    have := AnyQ.slices_ContainsFunc Try.containsA 4 Try.isAgg51 Try.sizeOf51 effE.cells effE.len (fun x => x.tick != tick) 33 #[.pointer (some ⟨b, 0, none⟩)]
      (enters_of Try.func33 (by kernel_rfl) rfl) g o l.length c l w hp (Nat.le_refl _) (by omega) hbl.lt (by
        intro j hj i u hu
        rw [getElem!_pos l j hj] at hu
        have := hcell _ u (effE.all_get l j hj i u hu)
        rw [Nat.add_assoc]
        exact (hbl.cell _).trans this)
    rw [List.take_of_length_le (Nat.le_refl _)] at this
    exact this

theorem info_eff : (Try.prog.info? 51).map (fun i => (i.zero, i.size, i.bytes)) = some (some (.agg #[.int .i64 0, .int .i64 0, .int .i64 0, .int .i64 0]), 4, 32) := by kernel_rfl

theorem clone_calls (v : Value) (l : List Eff) (w : World) (h : Row effE w v l) (hl : l.length ≤ 1000000) :
    Calls Try.prog 34 #[v] w fun e w' => ∃ v', e = .returned v' ∧ Own effE w' w.heap.size v' l ∧ Below w.heap.size w w' := by
  obtain ⟨A, c, rfl, hlc, hr⟩ := h
  rcases hr with ⟨rfl, rfl⟩ | ⟨g, o, cs, rfl, hbl, hcell⟩
  · refine (AnyE.slices_Clone_nil Try.cloneA 0 c w).mono ?_
    rintro e w' ⟨rfl, rfl⟩
    exact ⟨_, rfl, Own.nil _ _, Below.refl _ _⟩
  · obtain ⟨i0, hi, hz0, hz1, hz2⟩ := info_parts info_eff
    refine (AnyE.slices_Clone Try.cloneA i0 _ 4 32 hi hz0 hz1 hz2 rfl (by decide) Try.sizeOf51 g o l.length c (effE.all l) w (effE.all_len l) (by unfold maxLen; omega) (by omega)
      (fun j u hu => (hbl.cell _).trans (hcell j u hu)) (effE.all_one_cell l)).mono ?_
    rintro e w' ⟨v', rfl, ho, _, hb⟩
    exact ⟨v', rfl, ho, hb⟩
end Go.Proofs.Ytlmmhgbbfmocaaa
