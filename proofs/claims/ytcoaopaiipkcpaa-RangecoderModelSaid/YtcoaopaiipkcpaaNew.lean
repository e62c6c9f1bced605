/- newCoder. -/
import Derived.Test.YtcoaopaiipkcpaaSplit
import Derived.Test.YtcoaopaiipkcpaaOwn
import Derived.Deep.LoopGhost
namespace Go.Proofs.Ytcoaopaiipkcpaa
open Go.RowKit Rc


/-- A coder in the making: the first n predictions are even. -/
def halfCoder (n : Nat) (f : Value) : Array Value := coderCells ⟨fun i => if i < n then 2048 else 0, 0, 4294967295⟩ f

def zeroCoder (f : Value) : Array Value := (Array.replicate 256 (Value.int .u32 0)) ++ #[.int .u32 0, .int .u32 4294967295, f]
theorem zero_half (f : Value) : zeroCoder f = halfCoder 0 f := by kernel_rfl

theorem half_set (n : Nat) (f : Value) (hn : n < 256) : (halfCoder n f).setIfInBounds n (.int .u32 2048) = halfCoder (n + 1) f := by
  unfold halfCoder
  rw [show Value.int .u32 2048 = Value.int .u32 ((2048 : Nat) : Int) from rfl, coderCells_setp _ _ hn]
  congr 2
  funext i
  simp only [setp]
  by_cases h1 : i = n
  · subst h1; simp
  · simp only [h1, if_false]
    by_cases h2 : i < n
    · simp [h2]; omega
    · simp [h2]; omega

set_option maxHeartbeats 400000 in
theorem reset_calls (c B : Nat) (f : Value) (w : World) (hc : Blk w c 52 (halfCoder 0 f)) (hB : B ≤ c) :
    Calls Try.prog 30 #[.pointer (some ⟨c, 0, none⟩)] w fun e w' => e = .returned (.tuple #[]) ∧ Blk w' c 52 (halfCoder 256 f) ∧ Below B w w' := by
    go_enter Try.func30, Try.ntmps30
    go_wp2_with fail
    go_loopg [3] 256 (fun n i wr => ∃ k : Nat, k + n = 256 ∧ i = .int .i64 k ∧ Blk wr c 52 (halfCoder k f) ∧ Below B w wr)
    case atStart => exact ⟨0, rfl, rfl, hc, Below.refl _ _⟩
    case round =>
      obtain ⟨k, hk, rfl, hcr, hBr⟩ := hrel
      have HK := Lib.hid hk
      by_cases hlt : k < 256
      · clear hk
        obtain ⟨v0, hcell⟩ : ∃ v0, wr.cell? ⟨c, k, none⟩ = some v0 := ⟨_, (hcr.cell k).trans (coderCells_p _ f hlt)⟩
        have hk0 : (0 : Int) ≤ k := by omega
        have hk1 : (k : Int) < 256 := by omega
        have hfr := hcr.frozen k
        go_wp2_with fail
        go_roundg (gk - 1)
        case measure => have := HK.out; omega
        case rel =>
          refine ⟨k + 1, by have := HK.out; omega, by go_num, ?_, hBr.setCell hB _⟩
          have := hcr.put k (.int .u32 2048)
          rwa [half_set k f hlt] at this
      · clear hk
        obtain rfl : k = 256 := by have := HK.out; omega
        go_wp2_with fail
        go_end0
        exact ⟨rfl, hcr, hBr⟩

theorem half_full (f : Value) : halfCoder 256 f = coderCells St.init f := by
  apply Array.ext_getElem?
  intro i
  by_cases hi : i < 256
  · unfold halfCoder
    rw [coderCells_p _ _ hi, coderCells_p _ _ hi]
    simp [hi, St.init]
  · by_cases h2 : i < 259
    · rcases (by omega : i = 256 ∨ i = 257 ∨ i = 258) with rfl | rfl | rfl
      · unfold halfCoder; rw [coderCells_lo, coderCells_lo]; rfl
      · unfold halfCoder; rw [coderCells_hi, coderCells_hi]; rfl
      · unfold halfCoder; rw [coderCells_f, coderCells_f]
    · rw [Array.getElem?_eq_none (by simp [halfCoder, coderCells_size]; omega), Array.getElem?_eq_none (by simp [coderCells_size]; omega)]

set_option maxHeartbeats 400000 in
theorem new_calls (fn : Nat) (caps : Array Value) (w : World) :
    Calls Try.prog 21 #[.func (.func fn) #[] caps] w fun e w' => e = .returned (.pointer (some ⟨w.heap.size, 0, none⟩)) ∧ CoderAt 52 w' w.heap.size St.init (.func (.func fn) #[] caps) ∧ Below w.heap.size w w' := by
    go_enter Try.func21, Try.ntmps21
    go_wp2_with (first
      | (with_reducible refine wpList_by (o := ⟨some 5, _, _, _, _, _⟩) rfl (.agg (zeroCoder (.func (.func fn) #[] caps))) w (by kernel_rfl) ?_)
      | (with_reducible refine wpList_by (o := ⟨some 6, _, _, _, _, _⟩) rfl (.pointer (some ⟨w.heap.size, 0, none⟩)) (w.alloc (.cells (zeroCoder (.func (.func fn) #[] caps)) 52)) (by kernel_rfl) ?_)
      | fail)
    have hnew := heap_alloc_new w (.cells (zeroCoder (.func (.func fn) #[] caps)) 52)
    have hB := (Below.refl w.heap.size w).alloc (Nat.le_refl _) (.cells (zeroCoder (.func (.func fn) #[] caps)) 52)
    rw [zero_half] at *
    refine (reset_calls w.heap.size w.heap.size _ _ hnew (Nat.le_refl _)).mono ?_
    rintro e w1 ⟨rfl, hb1, hB1⟩
    rw [half_full] at hb1
    have hBB := hB.trans hB1
    clear hnew hB hB1
    go_wp2_with fail
    go_ret
    exact ⟨rfl, hb1, hBB⟩
end Go.Proofs.Ytcoaopaiipkcpaa
