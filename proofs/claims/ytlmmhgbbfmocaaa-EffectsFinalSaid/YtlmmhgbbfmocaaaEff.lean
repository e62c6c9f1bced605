/- Effects in memory; a map keyed by effects. -/
import Derived.Test.YtlmmhgbbfmocaaaMem
import Derived.Test.YtlmmhgbbfmocaaaEffMath
import Derived.Test.YtlmmhgbbfmocaaaProg
import Derived.Maps.Own
import Derived.Maps.Views
import Derived.DeepKeys4
import Derived.WalkSpells
import Derived.WalkLawsBesides
import Derived.BigQuiet
import Derived.Deep.QuietTactic
import Derived.Deep.LoopGhost
import Derived.RegionTactic
import Derived.BigRegion
import Derived.Handy
import Derived.IntWalk
import Derived.Deep.RegionHeld3
namespace Go.Proofs.Ytlmmhgbbfmocaaa
open Go.RowKit

def effE : Enc Eff where
  T := 51
  k := 4
  cells x := [.int .i64 x.tick, .int .i64 x.idx, .int .i64 x.kind, .int .i64 x.val]
  len _ := rfl
  pos := by decide
  one a u hu := by
    simp only [List.mem_cons, List.not_mem_nil, or_false] at hu
    rcases hu with rfl | rfl | rfl | rfl <;> rfl
def intE : Enc Int where
  T := 3
  k := 1
  cells x := [.int .i64 x]
  len _ := rfl
  pos := by decide
  one a u hu := by
    simp only [List.mem_cons, List.not_mem_nil, or_false] at hu
    subst hu; rfl
/-- A slice, as it lies in a cell. -/
structure Sl where
  a : Option Addr
  n : Nat
  c : Nat
def Sl.v (s : Sl) : Value := .slice s.a s.n s.c
def slE : Enc Sl where
  T := 30
  k := 1
  cells x := [x.v]
  len _ := rfl
  pos := by decide
  one a u hu := by
    simp only [List.mem_cons, List.not_mem_nil, or_false] at hu
    subst hu; rfl

theorem intE_all (l : List Int) : intE.all l = l.map (Value.int .i64) := by
  induction l with
  | nil => rfl
  | cons a l ih => rw [Enc.all_cons, ih]; rfl
theorem elem_eff : Elem Try.prog 30 effE (.agg #[.int .i64 0, .int .i64 0, .int .i64 0, .int .i64 0]) 32 := ⟨Try.underlying30, by kernel_rfl, rfl⟩
theorem elem_int : Elem Try.prog 22 intE (.int .i64 0) 8 := ⟨Try.underlying22, by kernel_rfl, rfl⟩
theorem elem_sl : Elem Try.prog 25 slE (.slice none 0 0) 24 := ⟨Try.underlying25, by kernel_rfl, rfl⟩

def Eff.v (x : Eff) : Value := .agg #[.int .i64 x.tick, .int .i64 x.idx, .int .i64 x.kind, .int .i64 x.val]

/-! The key's law. -/
theorem key_laidOut : laidOutB Try.prog = true := by kernel_rfl
theorem key_row : (51 : TypeId) < Try.prog.types.size := of_decide_eq_true (by kernel_rfl)
theorem key_wide : (match Try.prog.underlying 51 with | some (.array _ _) | some (.struct _) => true | _ => false) = true := by kernel_rfl
theorem key_law : WideMaps.KeyLaw Try.prog 51 := deep_law_laid key_laidOut (m := 2) (by omega) key_row (by kernel_rfl) key_wide
theorem key_keyed : Maps.Keyed Try.prog 51 := Maps.Keyed.of_law key_law
theorem key_type : Try.prog.keyType 51 = true := by kernel_rfl
theorem key_cells : Try.prog.cellsOf 51 = 4 := by kernel_rfl
theorem key_cells1 : Try.prog.cellsOf 3 = 1 := by kernel_rfl
theorem types_some : ∃ n, Try.prog.types.size = n + 1 := ⟨Try.prog.types.size - 1, (Nat.sub_add_cancel (Nat.lt_of_le_of_lt (Nat.zero_le _) key_row)).symm⟩

def kl (x : Eff) : Lit := .string (keyBytes [.int .i64 x.tick, .int .i64 x.idx, .int .i64 x.kind, .int .i64 x.val])
theorem i64_wf {x : Int} (h : i64 x) : (Lit.int .i64 x).wf = true := by
  obtain ⟨h1, h2⟩ := h
  simp [Lit.wf, IntKind.min, IntKind.max, IntKind.signed, IntKind.bits]
  omega
theorem wf_i64 {x : Int} (h : (Lit.int .i64 x).wf = true) : i64 x := by simpa [Lit.wf, IntKind.min, IntKind.max, IntKind.signed, IntKind.bits, i64] using h
theorem key_lits (d : Nat) {x : Int} (h : i64 x) : Try.prog.keyLits (d + 1) 3 [.int .i64 x] = some [.int .i64 x] := by
  unfold Program.keyLits
  rw [Try.underlying3]
  simp [i64_wf h]
theorem key_of (x : Eff) (h : x.Ok) : keyOf Try.prog 51 x.v = some (kl x) := by
  obtain ⟨n, hn⟩ := types_some
  obtain ⟨h1, h2, h3, h4⟩ := h
  unfold keyOf
  rw [Try.underlying51]
  simp only [key_type, Value.formed, Try.underlying51, Eff.v, key_cells, hn]
  unfold Program.keyLits
  rw [Try.underlying51]
  simp [key_cells, key_cells1, key_lits, h1, h2, h3, h4, Value.cells, kl]
theorem kl_inj {x y : Eff} (hx : x.Ok) (hy : y.Ok) (h : kl x = kl y) : x = y := by
  have := key_law.inj (key_of x hx) (h ▸ key_of y hy)
  simp only [Eff.v, Value.agg.injEq, Array.mk.injEq, List.cons.injEq, Value.int.injEq, true_and, and_true] at this
  cases x; cases y; simp_all
/-- The four cells of an element. -/
theorem Row.eff_at {w : World} {A : Option Addr} {n c : Nat} {l : List Eff} (h : Row effE w (.slice A n c) l) {k : Nat} (hk : k < l.length) :
    ∃ g o, A = some ⟨g, o, none⟩ ∧ g < w.heap.size ∧ w.cell? ⟨g, o + k * 4, none⟩ = some (.int .i64 l[k].tick) ∧ w.cell? ⟨g, o + k * 4 + 1, none⟩ = some (.int .i64 l[k].idx) ∧ w.cell? ⟨g, o + k * 4 + 2, none⟩ = some (.int .i64 l[k].kind) ∧ w.cell? ⟨g, o + k * 4 + 3, none⟩ = some (.int .i64 l[k].val) := by
  obtain ⟨g, o, hA, hg, hc⟩ := h.at_ hk
  exact ⟨g, o, hA, hg, hc 0 _ rfl, hc 1 _ rfl, hc 2 _ rfl, hc 3 _ rfl⟩
theorem Row.int_at {w : World} {A : Option Addr} {n c : Nat} {l : List Int} (h : Row intE w (.slice A n c) l) {k : Nat} (hk : k < l.length) :
    ∃ g o, A = some ⟨g, o, none⟩ ∧ g < w.heap.size ∧ w.cell? ⟨g, o + k, none⟩ = some (.int .i64 l[k]) := by
  obtain ⟨g, o, hA, hg, hc⟩ := h.at_ hk
  refine ⟨g, o, hA, hg, ?_⟩
  have := hc 0 _ rfl
  simpa [intE] using this
theorem Row.sl_at {w : World} {A : Option Addr} {n c : Nat} {l : List Sl} (h : Row slE w (.slice A n c) l) {k : Nat} (hk : k < l.length) :
    ∃ g o, A = some ⟨g, o, none⟩ ∧ g < w.heap.size ∧ w.cell? ⟨g, o + k, none⟩ = some (.slice l[k].a l[k].n l[k].c) := by
  obtain ⟨g, o, hA, hg, hc⟩ := h.at_ hk
  refine ⟨g, o, hA, hg, ?_⟩
  have := hc 0 _ rfl
  simpa [slE, Sl.v] using this
end Go.Proofs.Ytlmmhgbbfmocaaa
