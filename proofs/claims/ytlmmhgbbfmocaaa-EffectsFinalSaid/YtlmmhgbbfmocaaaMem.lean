/- Memory: blocks known whole, slices that read as a list, slices of the call's own; over any program. -/
import Derived.WalkKit
import Derived.Deep.Draws
import Derived.Maps.AppendAt
import Derived.Deep.AppendLies
import Derived.Lib.Hide
namespace Go.Proofs.Ytlmmhgbbfmocaaa
open Go.RowKit

/-- Block g is just the cells cs of element type t, none frozen. -/
def Blk (w : World) (g : Nat) (t : TypeId) (cs : Array Value) : Prop := w.heap[g]? = some (.cells cs t (0, 0))

/-- Only the blocks on the list S have turned; others are new. -/
structure Upd (S : List Nat) (w w' : World) : Prop where
  os : w'.os = w.os
  tape : w'.tape = w.tape
  output : w'.output = w.output
  size : w.heap.size ≤ w'.heap.size
  block : ∀ k, k < w.heap.size → k ∉ S → w'.heap[k]? = w.heap[k]?

section
variable {w w' w'' : World} {S S' : List Nat}
theorem Upd.refl (S : List Nat) (w : World) : Upd S w w := ⟨rfl, rfl, rfl, Nat.le_refl _, fun _ _ _ => rfl⟩
theorem Upd.trans' (h : Upd S w w') (k : Upd S' w' w'') (hs : ∀ i ∈ S', i ∈ S ∨ w.heap.size ≤ i) : Upd S w w'' :=
  ⟨k.os.trans h.os, k.tape.trans h.tape, k.output.trans h.output, Nat.le_trans h.size k.size, fun i hi hn =>
    (k.block i (Nat.lt_of_lt_of_le hi h.size) (fun hm => (hs i hm).elim hn (fun h2 => by omega))).trans (h.block i hi hn)⟩
theorem Upd.trans (h : Upd S w w') (k : Upd S w' w'') : Upd S w w'' := h.trans' k fun _ hi => .inl hi
theorem Upd.mono (h : Upd S w w') (hs : ∀ i ∈ S, i ∈ S' ∨ w.heap.size ≤ i) : Upd S' w w' := (Upd.refl S' w).trans' h hs
theorem Upd.of_below (h : Below w.heap.size w w') : Upd [] w w' := ⟨h.os, h.tape, h.output, h.size, fun k hk _ => h.block k hk⟩
theorem Upd.below (h : Upd S w w') {B : Nat} (hB : B ≤ w.heap.size) (hs : ∀ i ∈ S, B ≤ i) : Below B w w' :=
  ⟨h.os, h.tape, h.output, h.size, fun k hk => h.block k (by omega) (fun hm => by have := hs k hm; omega)⟩
theorem Upd.of_grown {b : Nat} (h : w.grownBy w' (some b)) : Upd [b] w w' := ⟨h.os, h.tape, h.output, h.size, fun k hk hn => h.block k hk (fun e => hn (by cases e; simp))⟩
theorem Upd.of_grown' {r : Option Nat} (h : w.grownBy w' r) (hr : ∀ k, r = some k → k ∈ S) : Upd S w w' := ⟨h.os, h.tape, h.output, h.size, fun k hk hn => h.block k hk (fun e => hn (hr k e.symm))⟩
theorem Upd.new (h : Upd S w w') (hb : Below w'.heap.size w' w'') : Upd S w w'' := h.trans' (Upd.of_below hb) (fun _ hi => by cases hi)
theorem Upd.alloc (h : Upd S w w') (o : Obj) : Upd S w (w'.alloc o) := h.new ((Below.refl _ _).alloc (Nat.le_refl _) o)
theorem Upd.setCell (h : Upd S w w') {p : Addr} (hp : p.block ∈ S ∨ w.heap.size ≤ p.block) (u : Value) : Upd S w (w'.setCell p u) :=
  h.trans' (S' := [p.block]) ⟨rfl, rfl, rfl, by simp [World.setCell], fun k _ hn => Below.heap_setCell _ _ _ _ (by simpa using hn)⟩ (fun i hi => by simp at hi; subst hi; exact hp)
theorem Upd.drewN (h : Upd S w w') (n : Nat) : Upd S w (w'.drewN n) := ⟨h.os, h.tape, h.output, h.size, h.block⟩
theorem Upd.drew (h : Upd S w w') : Upd S w w'.drew := ⟨h.os, h.tape, h.output, h.size, h.block⟩
theorem Upd.cell (h : Upd S w w') {p : Addr} (hl : p.block < w.heap.size) (hn : p.block ∉ S) : w'.cell? p = w.cell? p := World.cell?_of_block (h.block _ hl hn)
theorem below_drewN {B : Nat} {a w : World} (h : Below B a w) (n : Nat) : Below B a (w.drewN n) := ⟨h.os, h.tape, h.output, h.size, h.block⟩
end

section
variable {w w' : World} {g : Nat} {t : TypeId} {cs : Array Value}
theorem Blk.lt (h : Blk w g t cs) : g < w.heap.size := lt_of_block h
theorem Blk.cell (h : Blk w g t cs) (i : Nat) : w.cell? ⟨g, i, none⟩ = cs[i]? := cell_of_row w g i cs t (0, 0) h
theorem Blk.frozen (h : Blk w g t cs) (i : Nat) : w.frozen? ⟨g, i, none⟩ = false := frozen_of_row w g i cs t h
theorem Blk.new (w : World) (t : TypeId) (cs : Array Value) : Blk (w.alloc (.cells cs t)) w.heap.size t cs := (MapKept.heap_alloc w _).1
theorem Blk.new1 (w : World) (o : Obj) (t : TypeId) (cs : Array Value) : Blk ((w.alloc o).alloc (.cells cs t)) (w.heap.size + 1) t cs := by
  have := Blk.new (w.alloc o) t cs
  rwa [show (w.alloc o).heap.size = w.heap.size + 1 from by simp] at this
theorem Blk.drew (h : Blk w g t cs) : Blk w.drew g t cs := h
theorem Blk.drewN (h : Blk w g t cs) (n : Nat) : Blk (w.drewN n) g t cs := h
theorem Blk.alloc (h : Blk w g t cs) (o : Obj) : Blk (w.alloc o) g t cs := (Below.heap_alloc w o g h.lt).trans h
theorem Blk.put (h : Blk w g t cs) (i : Nat) (u : Value) : Blk (w.setCell ⟨g, i, none⟩ u) g t (cs.setIfInBounds i u) := heap_setCell_same w g i cs t u h
theorem Blk.far (h : Blk w g t cs) {p : Addr} (hp : g ≠ p.block) (u : Value) : Blk (w.setCell p u) g t cs := (Below.heap_setCell w p u g hp).trans h
theorem Blk.below {B : Nat} (h : Blk w g t cs) (hb : Below B w w') (hg : g < B) : Blk w' g t cs := (hb.block g hg).trans h
theorem Blk.below' (h : Blk w g t cs) (hb : Below w.heap.size w w') : Blk w' g t cs := h.below hb h.lt
theorem Blk.upd {S : List Nat} (h : Blk w g t cs) (hu : Upd S w w') (hg : g ∉ S) : Blk w' g t cs := (hu.block g h.lt hg).trans h
theorem Blk.grown {row : Option Nat} (h : Blk w g t cs) (hb : w.grownBy w' row) (hg : some g ≠ row) : Blk w' g t cs := (hb.block g h.lt hg).trans h
theorem Blk.ne {g' : Nat} {t' : TypeId} {cs' : Array Value} (h : Blk w g t cs) (h' : Blk w g' t' cs') (hne : t ≠ t') : g ≠ g' := by
  rintro rfl
  unfold Blk at h h'
  rw [h] at h'
  injection h' with h'
  injection h' with _ ht
  exact hne ht
end

/-- How the elements of a slice lie in cells. -/
structure Enc (α : Type) where
  T : TypeId
  k : Nat
  cells : α → List Value
  len : ∀ a, (cells a).length = k
  pos : 0 < k
  one : ∀ a, ∀ u ∈ cells a, u.oneCell' = true

section
variable {α : Type} (E : Enc α)
def Enc.all (l : List α) : List Value := l.flatMap E.cells
theorem Enc.all_nil : E.all [] = [] := rfl
theorem Enc.all_cons (a : α) (l : List α) : E.all (a :: l) = E.cells a ++ E.all l := rfl
theorem Enc.all_append (a b : List α) : E.all (a ++ b) = E.all a ++ E.all b := by simp [Enc.all]
theorem Enc.all_one (a : α) : E.all [a] = E.cells a := by simp [Enc.all]
theorem Enc.all_len (l : List α) : (E.all l).length = l.length * E.k := by
  induction l with
  | nil => simp [Enc.all]
  | cons a l ih => rw [Enc.all_cons, List.length_append, E.len, ih, List.length_cons, Nat.add_mul, Nat.one_mul, Nat.add_comm]
theorem Enc.all_take (l : List α) (n : Nat) : E.all (l.take n) = (E.all l).take (n * E.k) := by
  induction l generalizing n with
  | nil => simp [Enc.all]
  | cons a l ih =>
    cases n with
    | zero => simp [Enc.all]
    | succ n =>
      rw [List.take_succ_cons, Enc.all_cons, Enc.all_cons, ih, List.take_append, E.len, Nat.add_mul, Nat.one_mul, Nat.add_sub_cancel, List.take_of_length_le (l := E.cells a) (by rw [E.len]; omega)]
theorem Enc.all_drop (l : List α) (n : Nat) : E.all (l.drop n) = (E.all l).drop (n * E.k) := by
  induction l generalizing n with
  | nil => simp [Enc.all]
  | cons a l ih =>
    cases n with
    | zero => simp [Enc.all]
    | succ n =>
      rw [List.drop_succ_cons, Enc.all_cons, ih, List.drop_append, E.len, Nat.add_mul, Nat.one_mul, Nat.add_sub_cancel, List.drop_of_length_le (l := E.cells a) (by rw [E.len]; omega), List.nil_append]
theorem Enc.all_get (l : List α) (j : Nat) (h : j < l.length) (i : Nat) (u : Value) (hu : (E.cells l[j])[i]? = some u) : (E.all l)[j * E.k + i]? = some u := by
  have h1 : (E.all (l.drop j))[i]? = some u := by
    rw [List.drop_eq_getElem_cons h, Enc.all_cons, List.getElem?_append_left (List.getElem?_eq_some_iff.1 hu).1]
    exact hu
  rw [Enc.all_drop, List.getElem?_drop] at h1
  exact h1
theorem Enc.all_one_cell (l : List α) : ∀ u ∈ E.all l, u.oneCell' = true := by
  intro u hu
  obtain ⟨a, _, h⟩ := List.mem_flatMap.1 hu
  exact E.one a u h

/-- v is a slice that reads as l. -/
def Row (w : World) (v : Value) (l : List α) : Prop :=
  ∃ A c, v = .slice A l.length c ∧ l.length ≤ c ∧ ((A = none ∧ l = []) ∨ ∃ g o cs, A = some ⟨g, o, none⟩ ∧ Blk w g E.T cs ∧ ∀ j u, (E.all l)[j]? = some u → cs[o + j]? = some u)

/-- v is a slice of the call's own, from block 'base' on, that holds l. -/
def Own (w : World) (base : Nat) (v : Value) (l : List α) : Prop := w.ownsRow base E.T E.k v l.length (E.all l)
end

section
variable {α : Type} {E : Enc α} {w w' : World} {v : Value} {l : List α}
theorem Row.slice (h : Row E w v l) : ∃ A c, v = .slice A l.length c ∧ l.length ≤ c := by
  obtain ⟨A, c, hv, hc, _⟩ := h
  exact ⟨A, c, hv, hc⟩
theorem Row.lt (h : Row E w v l) : ∀ k, v.ownBlock = some k → k < w.heap.size := by
  obtain ⟨A, c, rfl, hc, h⟩ := h
  rintro k hk
  rcases h with ⟨rfl, _⟩ | ⟨g, o, cs, rfl, hb, _⟩
  · cases hk
  · simp only [Value.ownBlock, Option.some.injEq] at hk
    rw [← hk]
    exact hb.lt
theorem Row.keep (h : Row E w v l) (hk : ∀ k cs, v.ownBlock = some k → Blk w k E.T cs → Blk w' k E.T cs) : Row E w' v l := by
  obtain ⟨A, c, rfl, hc, h⟩ := h
  refine ⟨A, c, rfl, hc, ?_⟩
  rcases h with h | ⟨g, o, cs, rfl, hb, hr⟩
  · exact .inl h
  · exact .inr ⟨g, o, cs, rfl, hk g cs rfl hb, hr⟩
theorem Row.below {B : Nat} (h : Row E w v l) (hb : Below B w w') (hB : ∀ k, v.ownBlock = some k → k < B) : Row E w' v l := h.keep fun k _ hk hbl => hbl.below hb (hB k hk)
theorem Row.below' (h : Row E w v l) (hb : Below w.heap.size w w') : Row E w' v l := h.below hb h.lt
theorem Row.upd {S : List Nat} (h : Row E w v l) (hu : Upd S w w') (hS : ∀ k, v.ownBlock = some k → k ∉ S) : Row E w' v l := h.keep fun k _ hk hbl => hbl.upd hu (hS k hk)
theorem Row.grown {r : Option Nat} (h : Row E w v l) (hu : w.grownBy w' r) (hS : ∀ k, v.ownBlock = some k → some k ≠ r) : Row E w' v l := h.keep fun k _ hk hbl => hbl.grown hu (hS k hk)
theorem Row.alloc (h : Row E w v l) (o : Obj) : Row E (w.alloc o) v l := h.below' ((Below.refl _ _).alloc (Nat.le_refl _) o)
theorem Row.drewN (h : Row E w v l) (n : Nat) : Row E (w.drewN n) v l := h
theorem Row.drew (h : Row E w v l) : Row E w.drew v l := h
theorem Row.far (h : Row E w v l) {p : Addr} (hp : v.ownBlock ≠ some p.block) (u : Value) : Row E (w.setCell p u) v l := h.keep fun k _ hk hbl => hbl.far (fun e => hp (by rw [hk, e])) u
/-- A block of another element type is another block. -/
theorem Row.ne (h : Row E w v l) {g : Nat} {t : TypeId} {cs : Array Value} (hg : Blk w g t cs) (hne : E.T ≠ t) : v.ownBlock ≠ some g := by
  obtain ⟨A, c, rfl, hc, h⟩ := h
  rcases h with ⟨rfl, _⟩ | ⟨g', o, cs', rfl, hb, _⟩
  · simp [Value.ownBlock]
  · intro he
    have : g' = g := by simpa [Value.ownBlock] using he
    subst this
    exact hb.ne hg hne rfl
theorem Row.nil (w : World) : Row E w (.slice none 0 0) [] := ⟨none, 0, rfl, Nat.le_refl _, .inl ⟨rfl, rfl⟩⟩
theorem Row.nil' (w : World) (c : Nat) : Row E w (.slice none 0 c) [] := ⟨none, c, rfl, Nat.zero_le _, .inl ⟨rfl, rfl⟩⟩
theorem Row.take {A : Option Addr} {n c : Nat} (h : Row E w (.slice A n c) l) (k : Nat) (hk : k ≤ l.length) : Row E w (.slice A k c) (l.take k) := by
  obtain ⟨A', c', hv, hc, hr⟩ := h
  injection hv with e1 e2 e3
  subst e1 e3
  have hl : (l.take k).length = k := by rw [List.length_take]; omega
  refine ⟨A, c, by rw [hl], by omega, ?_⟩
  rcases hr with ⟨h1, rfl⟩ | ⟨g, o, cs, hA, hb, hr⟩
  · exact .inl ⟨h1, by simp⟩
  · refine .inr ⟨g, o, cs, hA, hb, fun j u hu => hr j u ?_⟩
    rw [E.all_take, List.getElem?_take] at hu
    split at hu
    · exact hu
    · cases hu
theorem Row.drop {g o n c : Nat} (h : Row E w (.slice (some ⟨g, o, none⟩) n c) l) (k : Nat) (hk : k ≤ l.length) : Row E w (.slice (some ⟨g, o + k * E.k, none⟩) (l.length - k) (c - k)) (l.drop k) := by
  obtain ⟨A', c', hv, hc, hr⟩ := h
  injection hv with e1 e2 e3
  subst e1 e3
  have hl : (l.drop k).length = l.length - k := List.length_drop
  refine ⟨_, c - k, by rw [hl], by omega, ?_⟩
  rcases hr with ⟨h1, rfl⟩ | ⟨g', o', cs, hA, hb, hr⟩
  · cases h1
  · injection hA with e
    injection e with e1 e2 _
    subst e1 e2
    refine .inr ⟨g, _, cs, rfl, hb, fun j u hu => ?_⟩
    rw [E.all_drop, List.getElem?_drop] at hu
    have := hr _ u hu
    rw [← this, Nat.add_assoc]
/-- The cells of an element. -/
theorem Row.at_ {A : Option Addr} {n c : Nat} (h : Row E w (.slice A n c) l) {j : Nat} (hj : j < l.length) :
    ∃ g o, A = some ⟨g, o, none⟩ ∧ g < w.heap.size ∧ ∀ i u, (E.cells l[j])[i]? = some u → w.cell? ⟨g, o + (j * E.k + i), none⟩ = some u := by
  obtain ⟨A', c', hv, hc, hr⟩ := h
  injection hv with e1 e2 e3
  subst e1 e3
  rcases hr with ⟨_, rfl⟩ | ⟨g, o, cs, hA, hb, hr⟩
  · cases hj
  · exact ⟨g, o, hA, hb.lt, fun i u hu => (hb.cell _).trans (hr _ u (E.all_get l j hj i u hu))⟩

theorem Own.row {base : Nat} (h : Own E w base v l) : Row E w v l := by
  rcases h.2 with ⟨rfl, hn⟩ | ⟨g, cap, cur, rfl, hb, hh, hnc, hcm, hcs, htake⟩
  · have : l = [] := List.eq_nil_of_length_eq_zero hn
    subst this
    exact Row.nil w
  · refine ⟨_, cap, rfl, hnc, .inr ⟨g, 0, cur, rfl, hh, fun j u hu => ?_⟩⟩
    rw [Nat.zero_add, ← Array.getElem?_toList]
    rw [← htake, List.getElem?_take] at hu
    split at hu
    · exact hu
    · cases hu
theorem Own.nil (w : World) (base : Nat) : Own E w base (.slice none 0 0) [] := World.ownsRow_nil w base E.T E.k
theorem Own.slice {base : Nat} (h : Own E w base v l) : ∃ A c, v = .slice A l.length c ∧ l.length ≤ c := h.row.slice
theorem Own.lt {base : Nat} (h : Own E w base v l) : ∀ k, v.ownBlock = some k → k < w.heap.size := h.row.lt
theorem Own.ge {base : Nat} (h : Own E w base v l) : ∀ k, v.ownBlock = some k → base ≤ k := fun k hk => (World.ownsRow.lt h k hk).1
theorem Own.keep {base : Nat} (h : Own E w base v l) (hk : ∀ k cs, v.ownBlock = some k → Blk w k E.T cs → Blk w' k E.T cs) : Own E w' base v l := by
  refine ⟨h.1, ?_⟩
  rcases h.2 with h2 | ⟨g, cap, cur, rfl, hg, hh, r⟩
  · exact .inl h2
  · exact .inr ⟨g, cap, cur, rfl, hg, hk g cur rfl hh, r⟩
theorem Own.below {base B : Nat} (h : Own E w base v l) (hb : Below B w w') (hB : ∀ k, v.ownBlock = some k → k < B) : Own E w' base v l := h.keep fun k _ hk hbl => hbl.below hb (hB k hk)
theorem Own.below' {base : Nat} (h : Own E w base v l) (hb : Below w.heap.size w w') : Own E w' base v l := h.below hb h.lt
theorem Own.upd {base : Nat} {S : List Nat} (h : Own E w base v l) (hu : Upd S w w') (hS : ∀ k, v.ownBlock = some k → k ∉ S) : Own E w' base v l := h.keep fun k _ hk hbl => hbl.upd hu (hS k hk)
theorem Own.grown {base : Nat} {r : Option Nat} (h : Own E w base v l) (hu : w.grownBy w' r) (hS : ∀ k, v.ownBlock = some k → some k ≠ r) : Own E w' base v l := h.keep fun k _ hk hbl => hbl.grown hu (hS k hk)
theorem Own.alloc {base : Nat} (h : Own E w base v l) (o : Obj) : Own E (w.alloc o) base v l := h.below' ((Below.refl _ _).alloc (Nat.le_refl _) o)
theorem Own.drewN {base : Nat} (h : Own E w base v l) (n : Nat) : Own E (w.drewN n) base v l := h
theorem Own.drew {base : Nat} (h : Own E w base v l) : Own E w.drew base v l := h
theorem Own.far {base : Nat} (h : Own E w base v l) {p : Addr} (hp : v.ownBlock ≠ some p.block) (u : Value) : Own E (w.setCell p u) base v l := h.keep fun k _ hk hbl => hbl.far (fun e => hp (by rw [hk, e])) u
theorem Own.mono {base base' : Nat} (h : Own E w base v l) (hb : base' ≤ base) : Own E w base' v l := by
  refine ⟨h.1, ?_⟩
  rcases h.2 with h2 | ⟨g, cap, cur, rfl, hg, r⟩
  · exact .inl h2
  · exact .inr ⟨g, cap, cur, rfl, by omega, r⟩
theorem Own.ne {base : Nat} (h : Own E w base v l) {g : Nat} {t : TypeId} {cs : Array Value} (hg : Blk w g t cs) (hne : E.T ≠ t) : v.ownBlock ≠ some g := h.row.ne hg hne
end

/-- What the append law asks of a slice's type: its element's row of the table. -/
structure Elem {α : Type} (P : Program) (t : TypeId) (E : Enc α) (z : Value) (bytes : Nat) : Prop where
  under : P.underlying t = some (.slice E.T)
  info : (P.info? E.T).map (fun i => (i.zero, i.size, i.bytes)) = some (some z, E.k, bytes)
  zsize : z.cells.size = E.k

section
variable {α : Type} {E : Enc α} {P : Program} {w : World}

theorem run_push {t ty : TypeId} {z : Value} {bytes : Nat} (El : Elem P t E z bytes) (base : Nat) (v : Value) (l : List α) (hown : Own E w base v l) (g : Nat) (y : α) (hb : Blk w g E.T (E.cells y).toArray)
    (hn : (l.length + 1) * bytes ≤ 140737488355328) (hn2 : l.length + 1 ≤ 140737488355328) (hbase : base ≤ w.heap.size) :
    ∃ v' w', (Builtin.append_ #[t, t] ty #[v, .slice (some ⟨g, 0, none⟩) 1 1]).run P w = .ok v' w' ∧ Own E w' base v' (l ++ [y]) ∧ w.grownBy w' v.ownBlock ∧ (v'.ownBlock = v.ownBlock ∨ v'.ownBlock = some w.heap.size) := by
  obtain ⟨i, hi, hz0, hz1, hz2⟩ := info_parts El.info
  obtain ⟨v', w', hr, h2, h3, _, h5⟩ := run_append_own_at (P := P) w base t ty E.T i z E.k bytes El.under hi hz0 hz1 hz2 El.zsize E.pos v l.length (E.all l) hown ⟨g, 0, none⟩ 1 1 (E.cells y) (by rw [E.len, Nat.one_mul]) (by
    intro j u hj
    have : w.cell? ⟨g, j, none⟩ = some u := by rw [hb.cell, List.getElem?_toArray]; exact hj
    cases j with
    | zero => simpa [Addr.add] using this
    | succ j => simpa [Addr.add] using this) (E.one y) (by unfold maxLen; omega) hn hbase
  refine ⟨v', w', hr, ?_, h3, h5⟩
  unfold Own
  rw [E.all_append, E.all_one, List.length_append]
  exact h2

/-- append of one element onto a slice of the call's own. -/
theorem wpList_push {ops : Array Oper} {rest : List Oper} {o : Oper} {a : Act} {Q : Exit → Act → World → Prop} {t : TypeId} {z : Value} {bytes : Nat} (El : Elem P t E z bytes) (hgd : o.guard = none) (s x : Operand)
    (ho : o.op = .call { callee := .builtin .append, args := #[s, x], argTypes := #[t, t] })
    (base : Nat) (v : Value) (l : List α) (hs : a.eval s = v) (hown : Own E w base v l)
    (g : Nat) (y : α) (hx : a.eval x = .slice (some ⟨g, 0, none⟩) 1 1) (hb : Blk w g E.T (E.cells y).toArray)
    (hn : (l.length + 1) * bytes ≤ 140737488355328) (hn2 : l.length + 1 ≤ 140737488355328) (hbase : base ≤ w.heap.size)
    (k : ∀ v' w', Own E w' base v' (l ++ [y]) → w.grownBy w' v.ownBlock → (v'.ownBlock = v.ownBlock ∨ v'.ownBlock = some w.heap.size) → wpList P ops Q rest (a.put o.dst v') w') : wpList P ops Q (o :: rest) a w := by
  refine wpList_plain hgd fun K hK => ?_
  obtain ⟨v', w', hr, h2, h3, h5⟩ := run_push (ty := o.type) El base v l hown g y hb hn hn2 hbase
  unfold Oper.wp execOp
  simp only [ho, resolve, invoke, builtin, Sem.run_bind, Sem.run_pure, Result.andThen_ok, List.map_toArray, List.map_cons, List.map_nil, hs, hx, hr]
  exact hK _ _ (k v' w' h2 h3 h5)

/-- The same as a step of a region that draws its order. -/
theorem step_push {ops : Array Oper} {o : Oper} {a : Act} {K : Act → World → Prop} {Q : Exit → Act → World → Prop} {E0 : Prop} {t : TypeId} {z : Value} {bytes : Nat} (El : Elem P t E z bytes) (hgd : o.guard = none) (s x : Operand)
    (ho : o.op = .call { callee := .builtin .append, args := #[s, x], argTypes := #[t, t] })
    (base : Nat) (v : Value) (l : List α) (hs : a.eval s = v) (hown : Own E w base v l)
    (g : Nat) (y : α) (hx : a.eval x = .slice (some ⟨g, 0, none⟩) 1 1) (hb : Blk w g E.T (E.cells y).toArray)
    (hn : (l.length + 1) * bytes ≤ 140737488355328) (hn2 : l.length + 1 ≤ 140737488355328) (hbase : base ≤ w.heap.size)
    (k : ∀ v' w', Own E w' base v' (l ++ [y]) → w.grownBy w' v.ownBlock → (v'.ownBlock = v.ownBlock ∨ v'.ownBlock = some w.heap.size) → K (a.put o.dst v') w') :
    if Region.wanted o (yielded ops a.tmps) = true then Oper.wp P o a w K Q else E0 := by
  have hw : Region.wanted o (yielded ops a.tmps) = true := by simp [Region.wanted, hgd]
  rw [if_pos hw]
  obtain ⟨v', w', hr, h2, h3, h5⟩ := run_push (ty := o.type) El base v l hown g y hb hn hn2 hbase
  unfold Oper.wp execOp
  simp only [ho, resolve, invoke, builtin, Sem.run_bind, Sem.run_pure, Result.andThen_ok, List.map_toArray, List.map_cons, List.map_nil, hs, hx, hr]
  exact k v' w' h2 h3 h5

theorem run_append_of_nil (base : Nat) (t ty e : TypeId) (i : TypeInfo) (size : Nat) (ht : P.underlying t = some (.slice e)) (hi : P.info? e = some i)
    (v : Value) (n : Nat) (xs : List Value) (hown : w.ownsRow base e size v n xs) (c : Nat) : (Builtin.append_ #[t, t] ty #[v, .slice none 0 c]).run P w = .ok v w := by
  rcases hown.2 with ⟨rfl, rfl⟩ | ⟨g, cap, cur, rfl, _, _, hnc, _⟩
  · simp [Builtin.append_, run_underlying ht, sizeOf, typeInfo, hi, Builtin.lenOf, Builtin.firstCells]
  · simp [Builtin.append_, run_underlying ht, sizeOf, typeInfo, hi, Builtin.lenOf, Builtin.firstCells, hnc, storeCells]

theorem run_appends {t : TypeId} {z : Value} {bytes : Nat} (El : Elem P t E z bytes) (ty : TypeId) (base : Nat) (v : Value) (l : List α) (hown : Own E w base v l)
    (v2 : Value) (news : List α) (hr : Row E w v2 news)
    (hn : (l.length + news.length) * bytes ≤ 140737488355328) (hn2 : l.length + news.length ≤ 140737488355328) (hbase : base ≤ w.heap.size) :
    ∃ v' w', (Builtin.append_ #[t, t] ty #[v, v2]).run P w = .ok v' w' ∧ Own E w' base v' (l ++ news) ∧ w.grownBy w' v.ownBlock ∧ (v'.ownBlock = v.ownBlock ∨ v'.ownBlock = some w.heap.size) := by
  obtain ⟨i, hi, hz0, hz1, hz2⟩ := info_parts El.info
  obtain ⟨A, c, rfl, hc, hr⟩ := hr
  rcases hr with ⟨rfl, rfl⟩ | ⟨g, o, cs, rfl, hb, hcell⟩
  · exact ⟨v, w, run_append_of_nil base t ty E.T i E.k El.under hi v l.length (E.all l) hown c, by simpa using hown, World.grownBy.refl w _, .inl rfl⟩
  · obtain ⟨v', w', hr, h2, h3, _, h5⟩ := run_append_own_at (P := P) w base t ty E.T i z E.k bytes El.under hi hz0 hz1 hz2 El.zsize E.pos v l.length (E.all l) hown ⟨g, o, none⟩ news.length c (E.all news) (E.all_len news) (by
      intro j u hj
      have : w.cell? ⟨g, o + j, none⟩ = some u := (hb.cell _).trans (hcell j u hj)
      cases j with
      | zero => simpa [Addr.add] using this
      | succ j => simpa [Addr.add] using this) (E.all_one_cell news) (by unfold maxLen; omega) hn hbase
    refine ⟨v', w', hr, ?_, h3, h5⟩
    unfold Own
    rw [E.all_append, List.length_append]
    exact h2

/-- append of a slice that reads as a list onto a slice of the call's own. -/
theorem wpList_appends {ops : Array Oper} {rest : List Oper} {o : Oper} {a : Act} {Q : Exit → Act → World → Prop} {t : TypeId} {z : Value} {bytes : Nat} (El : Elem P t E z bytes) (hgd : o.guard = none) (s x : Operand)
    (ho : o.op = .call { callee := .builtin .append, args := #[s, x], argTypes := #[t, t] })
    (base : Nat) (v : Value) (l : List α) (hs : a.eval s = v) (hown : Own E w base v l)
    (v2 : Value) (news : List α) (hx : a.eval x = v2) (hr : Row E w v2 news)
    (hn : (l.length + news.length) * bytes ≤ 140737488355328) (hn2 : l.length + news.length ≤ 140737488355328) (hbase : base ≤ w.heap.size)
    (k : ∀ v' w', Own E w' base v' (l ++ news) → w.grownBy w' v.ownBlock → (v'.ownBlock = v.ownBlock ∨ v'.ownBlock = some w.heap.size) → wpList P ops Q rest (a.put o.dst v') w') : wpList P ops Q (o :: rest) a w := by
  refine wpList_plain hgd fun K hK => ?_
  obtain ⟨v', w', hr, h2, h3, h5⟩ := run_appends El o.type base v l hown v2 news hr hn hn2 hbase
  unfold Oper.wp execOp
  simp only [ho, resolve, invoke, builtin, Sem.run_bind, Sem.run_pure, Result.andThen_ok, List.map_toArray, List.map_cons, List.map_nil, hs, hx, hr]
  exact hK _ _ (k v' w' h2 h3 h5)
end
end Go.Proofs.Ytlmmhgbbfmocaaa
