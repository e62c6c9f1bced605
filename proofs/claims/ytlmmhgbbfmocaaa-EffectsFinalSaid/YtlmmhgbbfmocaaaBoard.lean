/- The board in memory: a struct, a map of ticks, the slices in it; the library's functions that it uses. -/
import Derived.Test.YtlmmhgbbfmocaaaDiff
import Derived.Test.YtlmmhgbbfmocaaaShelf
namespace Go.Proofs.Ytlmmhgbbfmocaaa
open Go.RowKit

/-- How an element of the board's map reads: as itself. -/
def rawE (v : Value) : Option (DataW Value × List MemPlace) := some (.held v, [])
abbrev Ent := Value × List Eff
def entD (p : Int × Ent) : Lit × DataW Value := (.int .i64 p.1, .held p.2.1)
def dmap (W : List (Int × Ent)) : DataW Value := .map (W.map entD)

theorem insert_ent (p : Int × Ent) (W : List (Int × Ent)) : DataW.insert (entD p) (W.map entD) = (ins p W).map entD := by
  induction W with
  | nil => rfl
  | cons a W ih =>
    simp only [List.map_cons, DataW.insert, ins]
    have hb : (entD p).1.before (entD a).1 = decide (p.1 < a.1) := rfl
    rw [hb]
    by_cases h : p.1 < a.1
    · simp [h]
    · simp [h, ih]
theorem same_ent (p : Int × Ent) (t : Int) : (entD p).1.sameKey (.int .i64 t) = (p.1 == t) := by
  show decide (IntKind.i64 = IntKind.i64 ∧ p.1 = t) = _
  by_cases h : p.1 = t <;> simp [h]
theorem dmap_put (t : Int) (e : Ent) (W : List (Int × Ent)) : (dmap W).put (.int .i64 t) (.held e.1) = dmap (mput t e W) := by
  unfold dmap mput
  show DataW.map (DataW.insert (entD (t, e)) ((W.map entD).filter fun p => !p.1.sameKey (.int .i64 t))) = _
  have hf : ((fun p : Lit × DataW Value => !p.1.sameKey (.int .i64 t)) ∘ entD) = fun p : Int × Ent => p.1 != t := by
    funext p
    show (!(entD p).1.sameKey (.int .i64 t)) = _
    rw [same_ent]
    rfl
  rw [List.filter_map, insert_ent, hf]
theorem dmap_get (t : Int) (W : List (Int × Ent)) (z : DataW Value) : (dmap W).atKey (.int .i64 t) z = match mget t W with | some e => .held e.1 | none => z := by
  have : ((fun p : Lit × DataW Value => p.1.sameKey (.int .i64 t)) ∘ entD) = fun p : Int × Ent => p.1 == t := by
    funext p
    exact same_ent p t
  unfold dmap mget DataW.atKey
  simp only [List.find?_map, this]
  cases List.find? (fun p : Int × Ent => p.1 == t) W <;> rfl

def old (t : Int) (W : List (Int × Ent)) : Ent := (mget t W).getD (.slice none 0 0, [])

theorem int_key : Maps.Keyed Try.prog 3 := Maps.int_keyed Try.underlying3
theorem int_keyOf {t : Int} (h : i64 t) : keyOf Try.prog 3 (.int .i64 t) = some (.int .i64 t) := Maps.keyOf_int_mk Try.underlying3 (i64_wf h)

/-- Block m is the board's map. -/
def MapAt (w : World) (m : Nat) (W : List (Int × Ent)) : Prop := w.ownsMap Try.prog 3 rawE m W.length (dmap W)

theorem MapAt.of {w : World} {m n : Nat} {W : List (Int × Ent)} (h : w.ownsMap Try.prog 3 rawE m n (dmap W)) : MapAt w m W := by
  obtain ⟨es, clock, hb, F, hs, hD⟩ := h
  refine ⟨es, clock, hb, F, ?_, hD⟩
  have : (W.map entD).length = ((es.toList.map (WideElems.rg Try.prog 3 rawE)).foldr DataW.insert []).length := by
    unfold dmap at hD
    injection hD with hD
    rw [hD]
  rw [length_sorted] at this
  simp at this
  omega
theorem MapAt.lt {w : World} {m : Nat} {W : List (Int × Ent)} (h : MapAt w m W) : m < w.heap.size := World.ownsMap.lt h
theorem MapAt.kept {w w' : World} {m : Nat} {W : List (Int × Ent)} {r : Option Nat} (h : MapAt w m W) (hg : w.grownBy w' r) (hne : some m ≠ r) : MapAt w' m W := World.ownsMap.kept h hg hne
theorem MapAt.below' {w w' : World} {m : Nat} {W : List (Int × Ent)} (h : MapAt w m W) (hb : Below w.heap.size w w') : MapAt w' m W := by
  have hl := h.lt
  obtain ⟨es, clock, hh, r⟩ := h
  exact ⟨es, clock, (hb.block m hl).trans hh, r⟩
theorem MapAt.upd {w w' : World} {m : Nat} {W : List (Int × Ent)} {S : List Nat} (h : MapAt w m W) (hb : Upd S w w') (hm : m ∉ S) : MapAt w' m W := by
  have hl := h.lt
  obtain ⟨es, clock, hh, r⟩ := h
  exact ⟨es, clock, (hb.block m hl hm).trans hh, r⟩
theorem MapAt.drewN {w : World} {m : Nat} {W : List (Int × Ent)} (h : MapAt w m W) (n : Nat) : MapAt (w.drewN n) m W := h
theorem MapAt.ne {w : World} {m : Nat} {W : List (Int × Ent)} (h : MapAt w m W) {g : Nat} {t : TypeId} {cs : Array Value} (hg : Blk w g t cs) : m ≠ g := by
  rintro rfl
  obtain ⟨es, clock, hb, _⟩ := h
  unfold Blk at hg
  rw [hg] at hb
  cases hb
theorem MapAt.apart {α : Type} {E : Enc α} {w : World} {m : Nat} {W : List (Int × Ent)} {v : Value} {l : List α} (h : MapAt w m W) (r : Row E w v l) : v.ownBlock ≠ some m := by
  obtain ⟨A, cp, rfl, hc, hr⟩ := r
  rcases hr with ⟨rfl, _⟩ | ⟨g', o, cs', rfl, hb, _⟩
  · intro e; cases e
  · intro e
    simp only [Value.ownBlock, Option.some.injEq] at e
    exact h.ne hb e.symm
theorem MapAt.look {w : World} {m : Nat} {W : List (Int × Ent)} (h : MapAt w m W) {t : Int} (ht : i64 t) : (Instr.lookup 58 (.map (some m)) (.int .i64 t) false).run Try.prog w = .ok (old t W).1 w := by
  obtain ⟨v, ps, hr, hv⟩ := World.ownsMap.lookup h int_key Try.underlying58 (Try.zeroValue30 w) (rfl : rawE (.slice none 0 0) = some (.held (.slice none 0 0), [])) (int_keyOf ht)
  rw [dmap_get] at hv
  rw [hr]
  unfold rawE at hv
  simp only [Option.some.injEq, Prod.mk.injEq] at hv
  have h1 := hv.1
  unfold old
  cases hg : mget t W with
  | none => rw [hg] at h1; simp only [DataW.held.injEq] at h1; rw [h1]; rfl
  | some e => rw [hg] at h1; simp only [DataW.held.injEq] at h1; rw [h1]; rfl
theorem MapAt.store {w : World} {m : Nat} {W : List (Int × Ent)} (h : MapAt w m W) {t : Int} (ht : i64 t) (e : Ent) (hn : W.length < maxLen) :
    ∃ w', (Instr.mapUpdate 58 (.map (some m)) (.int .i64 t) e.1).run Try.prog w = .ok () w' ∧ MapAt w' m (mput t e W) ∧ w.grownBy w' (some m) := by
  obtain ⟨w', hr, ho, hg⟩ := World.ownsMap.update h int_key Try.underlying58 hn (int_keyOf ht) (rfl : rawE e.1 = some (.held e.1, []))
  rw [dmap_put] at ho
  exact ⟨w', hr, MapAt.of ho, hg⟩
theorem MapAt.made (w : World) : MapAt (w.alloc (.map #[] 0)) w.heap.size [] := MapAt.of (World.ownsMap_made w _ _ _)

/-- The board: block g holds the map's place and the boundary. -/
structure BoardAt (w : World) (g m : Nat) (W : List (Int × Ent)) (bd : Int) : Prop where
  blk : Blk w g 60 #[.map (some m), .int .i64 bd]
  map : MapAt w m W
  sorted : Sorted W
  rows : ∀ p ∈ W, Row effE w p.2.1 p.2.2

section
variable {w w' : World} {g m : Nat} {W : List (Int × Ent)} {bd : Int}
theorem BoardAt.below' (h : BoardAt w g m W bd) (hb : Below w.heap.size w w') : BoardAt w' g m W bd :=
  ⟨h.blk.below' hb, h.map.below' hb, h.sorted, fun p hp => (h.rows p hp).below' hb⟩
theorem BoardAt.upd {S : List Nat} (h : BoardAt w g m W bd) (hb : Upd S w w') (hg : g ∉ S) (hm : m ∉ S) (hr : ∀ p ∈ W, ∀ k, p.2.1.ownBlock = some k → k ∉ S) : BoardAt w' g m W bd :=
  ⟨h.blk.upd hb hg, h.map.upd hb hm, h.sorted, fun p hp => (h.rows p hp).upd hb (hr p hp)⟩
theorem BoardAt.gm (h : BoardAt w g m W bd) : g ≠ m := fun e => h.map.ne h.blk e.symm
theorem BoardAt.drewN (h : BoardAt w g m W bd) (n : Nat) : BoardAt (w.drewN n) g m W bd := ⟨h.blk, h.map, h.sorted, h.rows⟩
theorem BoardAt.old_row (h : BoardAt w g m W bd) (t : Int) : Row effE w (old t W).1 (old t W).2 := by
  unfold old
  cases hg : mget t W with
  | none => exact Row.nil w
  | some e => exact h.rows (t, e) (mget_mem hg)
/-- A slice of effects lies in another block than the struct and the map. -/
theorem BoardAt.apart (h : BoardAt w g m W bd) {v : Value} {l : List Eff} (r : Row effE w v l) : ∀ k, v.ownBlock = some k → k ∉ [g, m] := by
  intro k hk hm
  simp only [List.mem_cons, List.not_mem_nil, or_false] at hm
  rcases hm with rfl | rfl
  · exact r.ne h.blk (by decide) hk
  · exact h.map.apart r hk
end

/-! The library's functions. -/
theorem sortsA (n : Nat) : AnyZI.SortsIn Try.prog Try.sortedA_ren Fence.wide n :=
  ⟨fun blk off cap ss W hH hblk hsz => callsIn_wide.2 (AnyM.slices_Sort_int Try.sortA blk off cap ss W hH hblk hsz),
   fun p cap W => callsIn_wide.2 (AnyM.slices_Sort_int_none Try.sortA p cap W)⟩

theorem keys_calls (mb : Option Nat) (w : World) : Calls Try.prog 37 #[.map mb] w fun e w' =>
    e = .returned (.func (.func 41) #[] #[.pointer (some ⟨w.heap.size, 0, none⟩)]) ∧ w' = w.alloc (.cells #[.map mb] 58) :=
  (callsIn_wide (n := 5)).1 (AnyZI.keys_in Try.keysA Fence.wide 5 trivial rfl mb w)

/-- slices.Sorted of the keys of the board's map. -/
theorem sorted_calls (m : Nat) (W : List (Int × Ent)) (w w1 : World) (h : MapAt w m W) (hS : Sorted W) (hl : W.length ≤ 100000) (hw : w1 = w.alloc (.cells #[.map (some m)] 58)) :
    Calls Try.prog 36 #[.func (.func 41) #[] #[.pointer (some ⟨w.heap.size, 0, none⟩)]] w1 fun e w' =>
      ∃ v, e = .returned v ∧ Own intE w' w1.heap.size v (W.map (·.1)) ∧ Below w1.heap.size w1 w' := by
  subst hw
  refine (callsIn_wide (n := 5)).1 ?_
  have hsize : Maps.size (dmap W) = W.length := by unfold dmap Maps.size; simp
  have hseq : SeqGives Fence.wide 2 Try.prog 41 #[.pointer (some ⟨w.heap.size, 0, none⟩)] encZ (fun ss => ss.Perm (intKeys (dmap W))) (Maps.size (dmap W)) (w.alloc (.cells #[.map (some m)] 58)) :=
    AnyZI.keys_gives (ρ := Try.keysA_ren) { Try.keysA with } Fence.wide _ trivial rfl (by omega) w.heap.size m W.length (dmap W) _ (by simp) (by simp) (World.ownsMap.alloc h _)
  have cS := AnyZI.sorted_in Try.sortedA Fence.wide 5 trivial trivial trivial trivial rfl (by omega) (sortsA _) (enters_of Try.func40 (by kernel_rfl) rfl) 41 #[.pointer (some ⟨w.heap.size, 0, none⟩)] trivial (enters_of Try.func41 (by kernel_rfl) rfl) _ _ (by rw [hsize]; unfold maxLen; omega) (by rw [hsize]; omega) _ hseq
  refine cS.mono ?_
  rintro e w' ⟨v, ss, rfl, hp, hrow, hnil, hb⟩
  refine ⟨v, rfl, ?_, hb⟩
  have hk : intKeys (dmap W) = W.map (·.1) := by
    unfold dmap intKeys
    simp [entD, Go.intOf, Function.comp_def]
  rw [hk] at hp
  have hms : ss.mergeSort (fun x y => decide (x ≤ y)) = W.map (·.1) := by
    have h1 : ss.mergeSort leI = (W.map (·.1)).mergeSort leI := mergeSort_of_perm_i hp
    have h2 : (W.map (·.1)).mergeSort leI = W.map (·.1) := by
      apply List.mergeSort_of_pairwise
      rw [List.pairwise_map]
      exact hS.imp (fun h => by simp only [leI, decide_eq_true_eq]; omega)
    exact h1.trans h2
  rw [hms] at hrow
  unfold Own
  rw [← hp.length_eq]
  rw [intE_all]
  exact hrow
end Go.Proofs.Ytlmmhgbbfmocaaa
