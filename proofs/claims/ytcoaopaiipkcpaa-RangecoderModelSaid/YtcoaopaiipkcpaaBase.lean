/- The coder in memory: one block of 259 cells. -/
import Derived.Test.YtcoaopaiipkcpaaMath
import Derived.WalkKit
import Derived.Deep.Draws
namespace Go.Proofs.Ytcoaopaiipkcpaa
open Go.RowKit Rc

/-- Block g is just the cells cs of element type t, none frozen. -/
def Blk (w : World) (g : Nat) (t : TypeId) (cs : Array Value) : Prop := w.heap[g]? = some (.cells cs t (0, 0))

section
variable {w w' : World} {g : Nat} {t : TypeId} {cs : Array Value}
theorem Blk.lt (h : Blk w g t cs) : g < w.heap.size := lt_of_block h
theorem Blk.cell (h : Blk w g t cs) (i : Nat) : w.cell? ⟨g, i, none⟩ = cs[i]? := cell_of_row w g i cs t (0, 0) h
theorem Blk.frozen (h : Blk w g t cs) (i : Nat) : w.frozen? ⟨g, i, none⟩ = false := frozen_of_row w g i cs t h
theorem Blk.drew (h : Blk w g t cs) : Blk w.drew g t cs := h
theorem Blk.drewN (h : Blk w g t cs) (n : Nat) : Blk (w.drewN n) g t cs := h
theorem Blk.alloc (h : Blk w g t cs) (o : Obj) : Blk (w.alloc o) g t cs := (Below.heap_alloc w o g h.lt).trans h
theorem Blk.put (h : Blk w g t cs) (i : Nat) (u : Value) : Blk (w.setCell ⟨g, i, none⟩ u) g t (cs.setIfInBounds i u) := heap_setCell_same w g i cs t u h
theorem Blk.far (h : Blk w g t cs) {p : Addr} (hp : g ≠ p.block) (u : Value) : Blk (w.setCell p u) g t cs := (Below.heap_setCell w p u g hp).trans h
theorem Blk.below {B : Nat} (h : Blk w g t cs) (hb : Below B w w') (hg : g < B) : Blk w' g t cs := (hb.block g hg).trans h
theorem Blk.grown {row : Option Nat} (h : Blk w g t cs) (hb : w.grownBy w' row) (hg : some g ≠ row) : Blk w' g t cs := (hb.block g h.lt hg).trans h
theorem Blk.ne {g' : Nat} {t' : TypeId} {cs' : Array Value} (h : Blk w g t cs) (h' : Blk w g' t' cs') (hne : t ≠ t') : g ≠ g' := by
  rintro rfl
  unfold Blk at h h'
  rw [h] at h'
  injection h' with h'
  injection h' with _ ht
  exact hne ht
end

def coderCells (s : St) (f : Value) : Array Value := ((List.range 256).map fun i => Value.int .u32 (s.p i)).toArray ++ #[.int .u32 s.lo, .int .u32 s.hi, f]

theorem coderCells_p (s : St) (f : Value) {k : Nat} (hk : k < 256) : (coderCells s f)[k]? = some (.int .u32 (s.p k)) := by
  unfold coderCells
  rw [Array.getElem?_append_left (by simpa using hk)]
  simp [hk]
theorem coderCells_lo (s : St) (f : Value) : (coderCells s f)[256]? = some (.int .u32 s.lo) := by
  unfold coderCells
  rw [Array.getElem?_append_right (by simp)]
  simp
theorem coderCells_hi (s : St) (f : Value) : (coderCells s f)[257]? = some (.int .u32 s.hi) := by
  unfold coderCells
  rw [Array.getElem?_append_right (by simp)]
  simp
theorem coderCells_f (s : St) (f : Value) : (coderCells s f)[258]? = some f := by
  unfold coderCells
  rw [Array.getElem?_append_right (by simp)]
  simp
theorem coderCells_size (s : St) (f : Value) : (coderCells s f).size = 259 := by simp [coderCells]

theorem coderCells_setp (s : St) (f : Value) {k : Nat} (hk : k < 256) (v : Nat) : (coderCells s f).setIfInBounds k (.int .u32 (v : Int)) = coderCells { s with p := setp s.p k v } f := by
  apply Array.ext_getElem?
  intro i
  by_cases hi : i < 259
  · rw [Array.getElem?_setIfInBounds]
    by_cases h1 : i < 256
    · rw [coderCells_p _ _ h1, coderCells_p _ _ h1]
      by_cases h2 : k = i
      · subst h2; simp [coderCells_size, setp]; omega
      · simp [h2, setp, Ne.symm h2]
    · rw [if_neg (by omega)]
      rcases (by omega : i = 256 ∨ i = 257 ∨ i = 258) with rfl | rfl | rfl
      · rw [coderCells_lo, coderCells_lo]
      · rw [coderCells_hi, coderCells_hi]
      · rw [coderCells_f, coderCells_f]
  · rw [Array.getElem?_eq_none (by simp [coderCells_size]; omega), Array.getElem?_eq_none (by simp [coderCells_size]; omega)]
theorem coderCells_setlo (s : St) (f : Value) (v : Nat) : (coderCells s f).setIfInBounds 256 (.int .u32 (v : Int)) = coderCells { s with lo := v } f := by
  apply Array.ext_getElem?
  intro i
  by_cases hi : i < 259
  · rw [Array.getElem?_setIfInBounds]
    by_cases h1 : i < 256
    · rw [coderCells_p _ _ h1, coderCells_p _ _ h1, if_neg (by omega)]
    · rcases (by omega : i = 256 ∨ i = 257 ∨ i = 258) with rfl | rfl | rfl
      · rw [if_pos rfl, if_pos (by rw [coderCells_size]; omega), coderCells_lo]
      · rw [coderCells_hi, coderCells_hi, if_neg (by omega)]
      · rw [coderCells_f, coderCells_f, if_neg (by omega)]
  · rw [Array.getElem?_eq_none (by simp [coderCells_size]; omega), Array.getElem?_eq_none (by simp [coderCells_size]; omega)]
theorem coderCells_sethi (s : St) (f : Value) (v : Nat) : (coderCells s f).setIfInBounds 257 (.int .u32 (v : Int)) = coderCells { s with hi := v } f := by
  apply Array.ext_getElem?
  intro i
  by_cases hi : i < 259
  · rw [Array.getElem?_setIfInBounds]
    by_cases h1 : i < 256
    · rw [coderCells_p _ _ h1, coderCells_p _ _ h1, if_neg (by omega)]
    · rcases (by omega : i = 256 ∨ i = 257 ∨ i = 258) with rfl | rfl | rfl
      · rw [coderCells_lo, coderCells_lo, if_neg (by omega)]
      · rw [if_pos rfl, if_pos (by rw [coderCells_size]; omega), coderCells_hi]
      · rw [coderCells_f, coderCells_f, if_neg (by omega)]
  · rw [Array.getElem?_eq_none (by simp [coderCells_size]; omega), Array.getElem?_eq_none (by simp [coderCells_size]; omega)]

/-- The coder lies in block c. -/
def CoderAt (T : TypeId) (w : World) (c : Nat) (s : St) (f : Value) : Prop := Blk w c T (coderCells s f)
section
variable {T : TypeId} {w w' : World} {c : Nat} {s : St} {f : Value}
theorem CoderAt.p_ (h : CoderAt T w c s f) {k : Nat} (hk : k < 256) : w.cell? ⟨c, k, none⟩ = some (.int .u32 (s.p k)) := (Blk.cell h k).trans (coderCells_p s f hk)
theorem CoderAt.lo_ (h : CoderAt T w c s f) : w.cell? ⟨c, 256, none⟩ = some (.int .u32 s.lo) := (Blk.cell h _).trans (coderCells_lo s f)
theorem CoderAt.hi_ (h : CoderAt T w c s f) : w.cell? ⟨c, 257, none⟩ = some (.int .u32 s.hi) := (Blk.cell h _).trans (coderCells_hi s f)
theorem CoderAt.f_ (h : CoderAt T w c s f) : w.cell? ⟨c, 258, none⟩ = some f := (Blk.cell h _).trans (coderCells_f s f)
theorem CoderAt.free (h : CoderAt T w c s f) (k : Nat) : w.frozen? ⟨c, k, none⟩ = false := Blk.frozen h k
theorem CoderAt.setp_ (h : CoderAt T w c s f) {k : Nat} (hk : k < 256) (v : Nat) : CoderAt T (w.setCell ⟨c, k, none⟩ (.int .u32 (v : Int))) c { s with p := setp s.p k v } f := by
  have := Blk.put h k (.int .u32 (v : Int))
  rwa [coderCells_setp s f hk] at this
theorem CoderAt.setlo_ (h : CoderAt T w c s f) (v : Nat) : CoderAt T (w.setCell ⟨c, 256, none⟩ (.int .u32 (v : Int))) c { s with lo := v } f := by
  have := Blk.put h 256 (.int .u32 (v : Int))
  rwa [coderCells_setlo s f] at this
theorem CoderAt.sethi_ (h : CoderAt T w c s f) (v : Nat) : CoderAt T (w.setCell ⟨c, 257, none⟩ (.int .u32 (v : Int))) c { s with hi := v } f := by
  have := Blk.put h 257 (.int .u32 (v : Int))
  rwa [coderCells_sethi s f] at this
end
theorem below_drewN {B : Nat} {a w : World} (h : Below B a w) (n : Nat) : Below B a (w.drewN n) := ⟨h.os, h.tape, h.output, h.size, h.block⟩
theorem CoderAt.drewN {T : TypeId} {w : World} {c : Nat} {s : St} {f : Value} (h : CoderAt T w c s f) (n : Nat) : CoderAt T (w.drewN n) c s f := h
end Go.Proofs.Ytcoaopaiipkcpaa
