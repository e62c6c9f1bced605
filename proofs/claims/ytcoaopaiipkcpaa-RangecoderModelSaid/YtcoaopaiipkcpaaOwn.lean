/- Slices of the call's own: words and laws over any program. -/
import Derived.Test.YtcoaopaiipkcpaaBase
import Derived.Maps.AppendAt
import Derived.Deep.AppendLies
namespace Go.Proofs.Ytcoaopaiipkcpaa
open Go.RowKit

/-- An operation whose outcome is known outright. -/
theorem wpList_by {P : Program} {ops : Array Oper} {rest : List Oper} {o : Oper} {a : Act} {w : World} {Q : Exit → Act → World → Prop} (hgd : o.guard = none) (v : Value) (w' : World)
    (h : (execOp a.eval o).run P w = .ok (.value v) w') (k : wpList P ops Q rest (a.put o.dst v) w') : wpList P ops Q (o :: rest) a w :=
  wpList_plain hgd fun _ hK => by
    unfold Oper.wp
    rw [h]
    exact hK _ _ k

/-- What the append law asks of a slice's type: its element's row of the table. -/
structure Elem (P : Program) (t e : TypeId) (z : Value) (size bytes : Nat) : Prop where
  under : P.underlying t = some (.slice e)
  info : (P.info? e).map (fun i => (i.zero, i.size, i.bytes)) = some (some z, size, bytes)
  zsize : z.cells.size = size
  pos : 0 < size

theorem own_blk_ne {w : World} {g base : Nat} {t e : TypeId} {cs : Array Value} {size n : Nat} {v : Value} {xs : List Value} (h : w.ownsRow base e size v n xs) (hg : Blk w g t cs) (hne : e ≠ t) : v.ownBlock ≠ some g := by
  rcases h.2 with ⟨rfl, _⟩ | ⟨g', cap, cur, rfl, _, hh, _⟩
  · simp [Value.ownBlock]
  · intro he
    have : g' = g := by simpa [Value.ownBlock] using he
    subst this
    exact Blk.ne (t := e) hh hg hne rfl

/-- A slice of the call's own is written as a slice. -/
theorem own_slice {w : World} {base : Nat} {e : TypeId} {size n : Nat} {v : Value} {xs : List Value} (h : w.ownsRow base e size v n xs) : ∃ A cap, v = .slice A n cap := by
  rcases h.2 with ⟨rfl, rfl⟩ | ⟨g', cap, cur, rfl, _⟩
  · exact ⟨none, 0, rfl⟩
  · exact ⟨_, _, rfl⟩

/-- append of one element of one cell onto a slice of the call's own. -/
theorem wpList_push {P : Program} {ops : Array Oper} {rest : List Oper} {o : Oper} {a : Act} {w : World} {Q : Exit → Act → World → Prop} {t e : TypeId} {z : Value} {bytes : Nat} (E : Elem P t e z 1 bytes) (hgd : o.guard = none) (s x : Operand)
    (ho : o.op = .call { callee := .builtin .append, args := #[s, x], argTypes := #[t, t] })
    (base : Nat) (v : Value) (n : Nat) (xs : List Value) (hs : a.eval s = v) (hown : w.ownsRow base e 1 v n xs)
    (g : Nat) (u : Value) (hx : a.eval x = .slice (some ⟨g, 0, none⟩) 1 1) (hu : w.cell? ⟨g, 0, none⟩ = some u) (h1 : u.oneCell' = true)
    (hn : (n + 1) * bytes ≤ 140737488355328) (hn2 : n + 1 ≤ 140737488355328) (hbase : base ≤ w.heap.size)
    (k : ∀ v' w', w'.ownsRow base e 1 v' (n + 1) (xs ++ [u]) → w.grownBy w' v.ownBlock → (v'.ownBlock = v.ownBlock ∨ v'.ownBlock = some w.heap.size) → wpList P ops Q rest (a.put o.dst v') w') : wpList P ops Q (o :: rest) a w := by
  obtain ⟨i, hi, hz0, hz1, hz2⟩ := info_parts E.info
  refine wpList_append_own_at w hgd s x t ho base e i z 1 bytes E.under hi hz0 hz1 hz2 E.zsize E.pos v n xs hs hown ⟨g, 0, none⟩ 1 1 [u] hx rfl ?_ ?_ (by unfold maxLen; omega) hn hbase (fun v' w' h2 h3 _ h5 => k v' w' h2 h3 h5)
  · intro j u' hj
    match j, hj with
    | 0, hj => simp at hj; subst hj; simpa [Addr.add] using hu
  · intro u' hu'
    simp at hu'
    subst hu'
    exact h1

/-- The same as a step of a region that draws its order. -/
theorem step_push {P : Program} {ops : Array Oper} {o : Oper} {a : Act} {w : World} {K : Act → World → Prop} {Q : Exit → Act → World → Prop} {E0 : Prop} {t e : TypeId} {z : Value} {bytes : Nat} (E : Elem P t e z 1 bytes) (hgd : o.guard = none) (s x : Operand)
    (ho : o.op = .call { callee := .builtin .append, args := #[s, x], argTypes := #[t, t] })
    (base : Nat) (v : Value) (n : Nat) (xs : List Value) (hs : a.eval s = v) (hown : w.ownsRow base e 1 v n xs)
    (g : Nat) (u : Value) (hx : a.eval x = .slice (some ⟨g, 0, none⟩) 1 1) (hu : w.cell? ⟨g, 0, none⟩ = some u) (h1 : u.oneCell' = true)
    (hn : (n + 1) * bytes ≤ 140737488355328) (hn2 : n + 1 ≤ 140737488355328) (hbase : base ≤ w.heap.size)
    (k : ∀ v' w', w'.ownsRow base e 1 v' (n + 1) (xs ++ [u]) → w.grownBy w' v.ownBlock → (v'.ownBlock = v.ownBlock ∨ v'.ownBlock = some w.heap.size) → K (a.put o.dst v') w') :
    if Region.wanted o (yielded ops a.tmps) = true then Oper.wp P o a w K Q else E0 := by
  have hw : Region.wanted o (yielded ops a.tmps) = true := by simp [Region.wanted, hgd]
  rw [if_pos hw]
  obtain ⟨i, hi, hz0, hz1, hz2⟩ := info_parts E.info
  obtain ⟨v', w', hr, h2, h3, _, h5⟩ := run_append_own_at (P := P) w base t o.type e i z 1 bytes E.under hi hz0 hz1 hz2 E.zsize E.pos v n xs hown ⟨g, 0, none⟩ 1 1 [u] rfl (by
    intro j u' hj
    match j, hj with
    | 0, hj => simp at hj; subst hj; simpa [Addr.add] using hu) (by
    intro u' hu'
    simp at hu'
    subst hu'
    exact h1) (by unfold maxLen; omega) hn hbase
  unfold Oper.wp execOp
  simp only [ho, resolve, invoke, builtin, Sem.run_bind, Sem.run_pure, Result.andThen_ok, List.map_toArray, List.map_cons, List.map_nil, hs, hx, hr]
  exact k v' w' h2 h3 h5

def u8s (l : List Nat) : List Value := l.map fun (b : Nat) => Value.int .u8 (b : Int)
theorem u8s_append (a b : List Nat) : u8s (a ++ b) = u8s a ++ u8s b := by simp [u8s]
theorem u8s_length (a : List Nat) : (u8s a).length = a.length := by simp [u8s]
theorem u8s_get (a : List Nat) (j : Nat) (h : j < a.length) : (u8s a)[j]? = some (.int .u8 (a[j] : Int)) := by simp [u8s, h]

/-- A slice of bytes of the call's own. -/
def OwnB (T : TypeId) (w : World) (base : Nat) (v : Value) (l : List Nat) : Prop := w.ownsRow base T 1 v l.length (u8s l)

section
variable {T : TypeId} {w w' : World} {base : Nat} {v : Value} {l : List Nat}
theorem OwnB.nil (w : World) (base : Nat) : OwnB T w base (.slice none 0 0) [] := World.ownsRow_nil w base T 1
theorem OwnB.drewN (h : OwnB T w base v l) (n : Nat) : OwnB T (w.drewN n) base v l := h
theorem OwnB.alloc (h : OwnB T w base v l) (o : Obj) : OwnB T (w.alloc o) base v l := World.ownsRow.alloc h o
theorem OwnB.far (h : OwnB T w base v l) {p : Addr} (hp : v.ownBlock ≠ some p.block) (u : Value) : OwnB T (w.setCell p u) base v l := ownsRow_setCell_other h hp u
theorem OwnB.below (h : OwnB T w base v l) {B : Nat} (hb : Below B w w') (hB : ∀ k, v.ownBlock = some k → k < B) : OwnB T w' base v l := by
  refine ⟨h.1, ?_⟩
  rcases h.2 with h2 | ⟨g, cap, cur, rfl, hg, hh, r⟩
  · exact .inl h2
  · exact .inr ⟨g, cap, cur, rfl, hg, (hb.block g (hB g rfl)).trans hh, r⟩
theorem OwnB.lt (h : OwnB T w base v l) : ∀ k, v.ownBlock = some k → k < w.heap.size := fun k hk => (World.ownsRow.lt h k hk).2
theorem OwnB.below' (h : OwnB T w base v l) (hb : Below w.heap.size w w') : OwnB T w' base v l := h.below hb h.lt
end

theorem below_grown_own {B : Nat} {a w w' : World} {row : Option Nat} (h : Below B a w) (hg : w.grownBy w' row) (hB : B ≤ w.heap.size) (hr : ∀ k, row = some k → B ≤ k) : Below B a w' := h.grown hg hB hr

/-- A slice that reads as a list of cells; nil is let in. -/
def Reads (w : World) (v : Value) (xs : List Value) : Prop :=
  ∃ A c, v = .slice A xs.length c ∧ xs.length ≤ c ∧ (0 < xs.length → ∃ g o, A = some ⟨g, o, none⟩ ∧ g < w.heap.size ∧ ∀ j u, xs[j]? = some u → w.cell? ⟨g, o + j, none⟩ = some u)

section
variable {w w' : World} {v : Value} {xs : List Value}
theorem Reads.keep (h : Reads w v xs) (hs : w.heap.size ≤ w'.heap.size) (hk : ∀ g o, g < w.heap.size → w'.cell? ⟨g, o, none⟩ = w.cell? ⟨g, o, none⟩) : Reads w' v xs := by
  obtain ⟨A, c, hv, hc, h⟩ := h
  refine ⟨A, c, hv, hc, fun hn => ?_⟩
  obtain ⟨g, o, hA, hg, hcell⟩ := h hn
  exact ⟨g, o, hA, by omega, fun j u hu => (hk _ _ hg).trans (hcell j u hu)⟩
theorem Reads.below (h : Reads w v xs) (hb : Below w.heap.size w w') : Reads w' v xs := h.keep hb.size fun g o hg => hb.cell (p := ⟨g, o, none⟩) hg
theorem Reads.drewN (h : Reads w v xs) (n : Nat) : Reads (w.drewN n) v xs := h
theorem Reads.of_own {base : Nat} {e : TypeId} {n : Nat} (h : w.ownsRow base e 1 v n xs) : Reads w v xs := by
  have hl : xs.length = n := by simpa using h.1
  rcases h.2 with ⟨rfl, hn⟩ | ⟨g, cap, cur, rfl, hb, hh, hnc, hcm, hcs, htake⟩
  · have : xs = [] := List.eq_nil_of_length_eq_zero (by omega)
    subst this
    exact ⟨none, 0, rfl, Nat.le_refl _, fun h => absurd h (by simp)⟩
  · refine ⟨some ⟨g, 0, none⟩, cap, by rw [hl], by omega, fun _ => ⟨g, 0, rfl, lt_of_block hh, fun j u hu => ?_⟩⟩
    rw [cell_of_row w g (0 + j) cur e (0, 0) hh, Nat.zero_add, ← Array.getElem?_toList]
    have : (cur.toList.take (n * 1))[j]? = some u := by rw [htake]; exact hu
    rw [List.getElem?_take] at this
    split at this
    · exact this
    · cases this
end

theorem run_append_of_nil {P : Program} (w : World) (base : Nat) (t ty e : TypeId) (i : TypeInfo) (size : Nat) (ht : P.underlying t = some (.slice e)) (hi : P.info? e = some i)
    (v : Value) (n : Nat) (xs : List Value) (hown : w.ownsRow base e size v n xs) (c : Nat) : (Builtin.append_ #[t, t] ty #[v, .slice none 0 c]).run P w = .ok v w := by
  rcases hown.2 with ⟨rfl, rfl⟩ | ⟨g, cap, cur, rfl, _, _, hnc, _⟩
  · simp [Builtin.append_, run_underlying ht, sizeOf, typeInfo, hi, Builtin.lenOf, Builtin.firstCells]
  · simp [Builtin.append_, run_underlying ht, sizeOf, typeInfo, hi, Builtin.lenOf, Builtin.firstCells, hnc, storeCells]

theorem run_appends {P : Program} {w : World} {t e : TypeId} {z : Value} {bytes : Nat} (E : Elem P t e z 1 bytes) (ty : TypeId) (base : Nat) (v : Value) (n : Nat) (xs : List Value) (hown : w.ownsRow base e 1 v n xs)
    (v2 : Value) (news : List Value) (hr : Reads w v2 news) (h1 : ∀ u ∈ news, u.oneCell' = true)
    (hn : (n + news.length) * bytes ≤ 140737488355328) (hn2 : n + news.length ≤ 140737488355328) (hbase : base ≤ w.heap.size) :
    ∃ v' w', (Builtin.append_ #[t, t] ty #[v, v2]).run P w = .ok v' w' ∧ w'.ownsRow base e 1 v' (n + news.length) (xs ++ news) ∧ w.grownBy w' v.ownBlock ∧ (v'.ownBlock = v.ownBlock ∨ v'.ownBlock = some w.heap.size) := by
  obtain ⟨i, hi, hz0, hz1, hz2⟩ := info_parts E.info
  obtain ⟨A, c, rfl, hc, hr⟩ := hr
  cases A with
  | none =>
    have h0 : news = [] := by
      cases news with
      | nil => rfl
      | cons a l =>
        obtain ⟨g, o, hA, _⟩ := hr (by simp)
        cases hA
    subst h0
    exact ⟨v, w, run_append_of_nil w base t ty e i 1 E.under hi v n xs hown c, by simpa using hown, World.grownBy.refl w _, .inl rfl⟩
  | some ad =>
    obtain ⟨v', w', hr, h2, h3, _, h5⟩ := run_append_own_at (P := P) w base t ty e i z 1 bytes E.under hi hz0 hz1 hz2 E.zsize E.pos v n xs hown ad news.length c news (by simp) (by
      intro j u hj
      have hlt : j < news.length := by
        rcases Nat.lt_or_ge j news.length with h | h
        · exact h
        · rw [List.getElem?_eq_none h] at hj; cases hj
      obtain ⟨g, o, hA, _, hcell⟩ := hr (by omega)
      injection hA with hA
      subst hA
      have := hcell j u hj
      unfold Addr.add
      split
      · rename_i h0
        subst h0
        exact this
      · exact this) h1 (by unfold maxLen; omega) hn hbase
    exact ⟨v', w', hr, h2, h3, h5⟩

/-- append of a slice that reads as a list onto a slice of the call's own. -/
theorem wpList_appends {P : Program} {ops : Array Oper} {rest : List Oper} {o : Oper} {a : Act} {w : World} {Q : Exit → Act → World → Prop} {t e : TypeId} {z : Value} {bytes : Nat} (E : Elem P t e z 1 bytes) (hgd : o.guard = none) (s x : Operand)
    (ho : o.op = .call { callee := .builtin .append, args := #[s, x], argTypes := #[t, t] })
    (base : Nat) (v : Value) (n : Nat) (xs : List Value) (hs : a.eval s = v) (hown : w.ownsRow base e 1 v n xs)
    (v2 : Value) (news : List Value) (hx : a.eval x = v2) (hr : Reads w v2 news) (h1 : ∀ u ∈ news, u.oneCell' = true)
    (hn : (n + news.length) * bytes ≤ 140737488355328) (hn2 : n + news.length ≤ 140737488355328) (hbase : base ≤ w.heap.size)
    (k : ∀ v' w', w'.ownsRow base e 1 v' (n + news.length) (xs ++ news) → w.grownBy w' v.ownBlock → (v'.ownBlock = v.ownBlock ∨ v'.ownBlock = some w.heap.size) → wpList P ops Q rest (a.put o.dst v') w') : wpList P ops Q (o :: rest) a w := by
  refine wpList_plain hgd fun K hK => ?_
  obtain ⟨v', w', hr, h2, h3, h5⟩ := run_appends E o.type base v n xs hown v2 news hr h1 hn hn2 hbase
  unfold Oper.wp execOp
  simp only [ho, resolve, invoke, builtin, Sem.run_bind, Sem.run_pure, Result.andThen_ok, List.map_toArray, List.map_cons, List.map_nil, hs, hx, hr]
  exact hK _ _ (k v' w' h2 h3 h5)

theorem u8s_one (l : List Nat) : ∀ u ∈ u8s l, u.oneCell' = true := by
  intro u hu
  simp only [u8s, List.mem_map] at hu
  obtain ⟨b, _, rfl⟩ := hu
  rfl

theorem Reads.take {w : World} {A : Option Addr} {n c : Nat} {xs : List Value} (h : Reads w (.slice A n c) xs) (k : Nat) (hk : k ≤ xs.length) : Reads w (.slice A k c) (xs.take k) := by
  obtain ⟨A', c', hv, hc, hr⟩ := h
  injection hv with e1 e2 e3
  subst e1 e3
  have hl : (xs.take k).length = k := by simp; omega
  refine ⟨A, c, by rw [hl], by omega, fun h0 => ?_⟩
  obtain ⟨g, o, hA, hg, hcell⟩ := hr (by omega)
  refine ⟨g, o, hA, hg, fun j u hu => hcell j u ?_⟩
  rw [List.getElem?_take] at hu
  split at hu
  · exact hu
  · cases hu

/-- make of so many elements of one cell. -/
theorem wpList_makes {P : Program} {ops : Array Oper} {rest : List Oper} {o : Oper} {a : Act} {w : World} {Q : Exit → Act → World → Prop} {t e : TypeId} {z : Value} {bytes : Nat} (E : Elem P t e z 1 bytes) (hzc : z.cells = #[z]) (hgd : o.guard = none) (l c : Operand)
    (ho : o.op = Op.makeSlice t l c) (base : Nat) (kl kc : IntKind) (L C : Int) (n : Nat) (hl : a.eval l = .int kl L) (hc : a.eval c = .int kc C) (hL : L = (n : Int)) (hC : C = (n : Int))
    (hn : bytes * n ≤ 281474976710656) (hn2 : n ≤ 140737488355328) (hbase : base ≤ w.heap.size)
    (k : ∀ w', w'.ownsRow base e 1 (.slice (some ⟨w.heap.size, 0, none⟩) n n) n (List.replicate n z) → w.grownBy w' none → wpList P ops Q rest (a.put o.dst (.slice (some ⟨w.heap.size, 0, none⟩) n n)) w') : wpList P ops Q (o :: rest) a w := by
  obtain ⟨i, hi, hz0, hz1, hz2⟩ := info_parts E.info
  refine wpList_make_full w hgd l c t ho base e i z 1 E.under hi hz0 hz1 kl kc L C n hl hc hL hC (by rw [hz2]; exact hn) (by unfold maxLen; omega) hbase (fun w' h1 h2 => k w' ?_ h2)
  rw [hzc, Nat.mul_one, toList_madeCells_one] at h1
  exact h1

theorem u8s_replicate (n x : Nat) : List.replicate n (Value.int .u8 (x : Int)) = u8s (List.replicate n x) := by simp [u8s]
theorem u8s_set (l : List Nat) (j x : Nat) : (u8s l).set j (.int .u8 (x : Int)) = u8s (l.set j x) := by simp [u8s, List.map_set]
end Go.Proofs.Ytcoaopaiipkcpaa
