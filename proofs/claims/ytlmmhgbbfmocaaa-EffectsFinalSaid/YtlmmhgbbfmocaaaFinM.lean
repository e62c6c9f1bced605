/- EffectsFinal: its two slices of slices beside the board. -/
import Derived.Test.YtlmmhgbbfmocaaaFinP
import Derived.Deep.CutBlock
import Derived.Deep.OwnRows
namespace Go.Proofs.Ytlmmhgbbfmocaaa
open Go.RowKit

abbrev nilV : Value := .slice none 0 0
theorem info_sls : (Try.prog.info? 30).map (fun i => (i.zero, i.size, i.bytes)) = some (some nilV, 1, 24) := by kernel_rfl
theorem mk8 (w : World) : (Instr.makeSlice 25 (.int .i64 8) (.int .i64 8)).run Try.prog w = .ok (.slice (some ⟨w.heap.size, 0, none⟩) 8 8) (w.alloc (.cells #[nilV, nilV, nilV, nilV, nilV, nilV, nilV, nilV] 30)) :=
  by
  have h := run_make_row' (P := Try.prog) 25 30 nilV 24 Try.underlying25 info_sls rfl .i64 .i64 8 (by omega) (by omega) w
  have e : madeCells #[nilV] 8 = #[nilV, nilV, nilV, nilV, nilV, nilV, nilV, nilV] := by apply Array.toList_inj.1; rw [toList_madeCells_one]; rfl
  rw [e] at h
  exact h
theorem wpList_mk8 (w : World) {ops : Array Oper} {rest : List Oper} {o : Oper} {a : Act} {Q : Exit → Act → World → Prop} (hg : o.guard = none) (hop : o.op = Op.makeSlice 25 (.const (.int .i64 8)) (.const (.int .i64 8)))
    (hK : wpList Try.prog ops Q rest (a.put o.dst (.slice (some ⟨w.heap.size, 0, none⟩) 8 8)) (w.alloc (.cells #[nilV, nilV, nilV, nilV, nilV, nilV, nilV, nilV] 30))) : wpList Try.prog ops Q (o :: rest) a w := by
  refine wpList_plain hg fun K hK' => ?_
  have hrun := mk8 w
  unfold Oper.wp
  simp [execOp, hop, Act.eval, hrun, Result.andThen]
  exact hK' _ _ hK

theorem getD_setV (l : List Value) (t u : Nat) (x : Value) (h : t < l.length) : (l.set t x).getD u nilV = if u = t then x else l.getD u nilV := getD_set l t u x nilV h

/-- The law's two slices of slices beside the board. -/
structure FinAt (w2 w : World) (m mL mG M : Nat) (Lv Gv : List Value) (L G : List (List Eff)) (W : List (Int × Ent)) (bd : Int) : Prop where
  brd : BoardAt w (m + 1) m W bd
  bL : Blk w mL 30 Lv.toArray
  bG : Blk w mG 30 Gv.toArray
  lens : Lv.length = 8 ∧ Gv.length = 8 ∧ L.length = 8 ∧ G.length = 8
  rowL : ∀ t : Nat, t < 8 → Row effE w (Lv.getD t nilV) (L.getD t []) ∧ ∀ k, (Lv.getD t nilV).ownBlock = some k → k < M
  ownG : ∀ t : Nat, t < 8 → Own effE w M (Gv.getD t nilV) (G.getD t [])
  sep : ∀ t u : Nat, t < 8 → u < 8 → t ≠ u → ∀ k, (Gv.getD t nilV).ownBlock = some k → some k ≠ (Gv.getD u nilV).ownBlock
  apart : ∀ p ∈ W, ∀ u : Nat, u < 8 → ∀ k, p.2.1.ownBlock = some k → some k ≠ (Gv.getD u nilV).ownBlock
  upd : Upd [m + 1, m, mL, mG] w2 w
  ord : m + 1 < mL ∧ mL < mG ∧ mG < M
  size : M = w2.heap.size

section
variable {w2 w w' : World} {m mL mG M : Nat} {Lv Gv : List Value} {L G : List (List Eff)} {W W' : List (Int × Ent)} {bd bd' : Int}
theorem FinAt.new (h : FinAt w2 w m mL mG M Lv Gv L G W bd) (hb : Below w.heap.size w w') : FinAt w2 w' m mL mG M Lv Gv L G W bd :=
  ⟨h.brd.below' hb, h.bL.below' hb, h.bG.below' hb, h.lens, fun t ht => ⟨(h.rowL t ht).1.below' hb, (h.rowL t ht).2⟩, fun t ht => (h.ownG t ht).below' hb, h.sep, h.apart, h.upd.new hb, h.ord, h.size⟩
theorem FinAt.free (h : FinAt w2 w m mL mG M Lv Gv L G W bd) {α : Type} {E : Enc α} {v : Value} {l : List α} (r : Row E w v l) (hT : E.T = effE.T) : ∀ k, v.ownBlock = some k → k ∉ [m + 1, m, mL, mG] := by
  intro k hk hi
  simp only [List.mem_cons, List.not_mem_nil, or_false] at hi
  rcases hi with rfl | rfl | rfl | rfl
  · exact r.ne h.brd.blk (by rw [hT]; decide) hk
  · exact h.brd.map.apart r hk
  · exact r.ne h.bL (by rw [hT]; decide) hk
  · exact r.ne h.bG (by rw [hT]; decide) hk
theorem FinAt.big (h : FinAt w2 w m mL mG M Lv Gv L G W bd) {t : Nat} (ht : t < 8) : ∀ k, (Gv.getD t nilV).ownBlock = some k → M ≤ k := (h.ownG t ht).ge
theorem FinAt.le (h : FinAt w2 w m mL mG M Lv Gv L G W bd) : M ≤ w.heap.size := by rw [h.size]; exact h.upd.size
/-- A call on the board. -/
theorem FinAt.board (h : FinAt w2 w m mL mG M Lv Gv L G W bd) {S : List Nat} (k : BoardAt w' (m + 1) m W' bd') (u : Upd S w w') (hS : ∀ i ∈ S, i ∈ [m + 1, m])
    (hW : ∀ p ∈ W', p ∈ W ∨ ∀ k, p.2.1.ownBlock = some k → w.heap.size ≤ k) : FinAt w2 w' m mL mG M Lv Gv L G W' bd' := by
  have ho := h.ord
  have fr : ∀ {v : Value} {l : List Eff}, Row effE w v l → ∀ k, v.ownBlock = some k → k ∉ S := fun r k hk hi => by
    have h1 := h.free r rfl k hk
    have h2 := hS k hi
    simp at h1 h2
    omega
  refine ⟨k, h.bL.upd u (fun hi => by have := hS _ hi; simp at this; omega), h.bG.upd u (fun hi => by have := hS _ hi; simp at this; omega), h.lens, fun t ht => ⟨(h.rowL t ht).1.upd u (fr (h.rowL t ht).1), (h.rowL t ht).2⟩,
    fun t ht => (h.ownG t ht).upd u (fr (h.ownG t ht).row), h.sep, fun p hp v hv j hj => ?_, h.upd.trans' u (fun i hi => .inl (by have := hS i hi; simp at this ⊢; omega)), h.ord, h.size⟩
  rcases hW p hp with h1 | h1
  · exact h.apart p h1 v hv j hj
  · intro e
    have := (h.ownG v hv).lt j e.symm
    have := h1 j hj
    omega
/-- A store into what was shown last. -/
theorem FinAt.setL (h : FinAt w2 w m mL mG M Lv Gv L G W bd) {t : Nat} (ht : t < 8) {v : Value} {l : List Eff} (r : Row effE w v l) (hv : ∀ k, v.ownBlock = some k → k < M) :
    FinAt w2 (w.setCell ⟨mL, t, none⟩ v) m mL mG M (Lv.set t v) Gv (L.set t l) G W bd := by
  have ho := h.ord
  have u : Upd [mL] w (w.setCell ⟨mL, t, none⟩ v) := (Upd.refl [mL] w).setCell (.inl (by simp)) _
  have fr : ∀ {v : Value} {l : List Eff}, Row effE w v l → ∀ k, v.ownBlock = some k → k ∉ [mL] := fun r k hk hi => by
    have h1 := h.free r rfl k hk
    simp at h1 hi
    omega
  have hp := h.bL.put t v
  rw [List.setIfInBounds_toArray] at hp
  refine ⟨h.brd.upd u (by simp; omega) (by simp; omega) (fun p hp => fr (h.brd.rows p hp)), hp, h.bG.far (by show mG ≠ mL; omega) _, ⟨by rw [List.length_set]; exact h.lens.1, h.lens.2.1, by rw [List.length_set]; exact h.lens.2.2.1, h.lens.2.2.2⟩, fun s hs => ?_,
    fun s hs => (h.ownG s hs).upd u (fr (h.ownG s hs).row), h.sep, h.apart, h.upd.trans' u (fun i hi => .inl (by simp at hi ⊢; omega)), h.ord, h.size⟩
  rw [getD_setV _ _ _ _ (by rw [h.lens.1]; exact ht), getD_set _ _ _ _ _ (by rw [h.lens.2.2.1]; exact ht)]
  by_cases e : s = t
  · subst e
    rw [if_pos rfl, if_pos rfl]
    exact ⟨r.upd u (fr r), hv⟩
  · rw [if_neg e, if_neg e]
    exact ⟨(h.rowL s hs).1.upd u (fr (h.rowL s hs).1), (h.rowL s hs).2⟩
/-- An append to what was confirmed for a tick: behind the append, ahead of the store. -/
theorem FinAt.keepRow (h : FinAt w2 w m mL mG M Lv Gv L G W bd) {t : Nat} (ht : t < 8) {v' : Value} (g : w.grownBy w' (Gv.getD t nilV).ownBlock) {x : Value}
    {v : Value} {l : List Eff} (r : Row effE w v l) (hr : ∀ k, v.ownBlock = some k → some k ≠ (Gv.getD t nilV).ownBlock) : Row effE (w'.setCell ⟨mG, t, none⟩ x) v l := by
  have r1 := r.grown g hr
  refine r1.far (fun e => ?_) _
  exact r.ne h.bG (by decide) e
theorem FinAt.push (h : FinAt w2 w m mL mG M Lv Gv L G W bd) {t : Nat} (ht : t < 8) {v' : Value} {y : Eff} (o : Own effE w' M v' (G.getD t [] ++ [y])) (g : w.grownBy w' (Gv.getD t nilV).ownBlock)
    (l : v'.ownBlock = (Gv.getD t nilV).ownBlock ∨ v'.ownBlock = some w.heap.size) :
    FinAt w2 (w'.setCell ⟨mG, t, none⟩ v') m mL mG M Lv (Gv.set t v') L (G.set t (G.getD t [] ++ [y])) W bd := by
  have ho := h.ord
  have hle := h.le
  have hb : ∀ i, i < M → some i ≠ (Gv.getD t nilV).ownBlock := fun i hi e => by have := h.big ht i e.symm; omega
  have u1 : Upd [m + 1, m, mL, mG] w2 w' := h.upd.trans' (Upd.of_grown' (S := (Gv.getD t nilV).ownBlock.toList) g (fun k hk => Option.mem_toList.2 hk)) (fun i hi => .inr (by have := h.big ht i (Option.mem_toList.1 hi); have := h.size; omega))
  have u2 : Upd [m + 1, m, mL, mG] w2 (w'.setCell ⟨mG, t, none⟩ v') := u1.setCell (.inl (by simp)) _
  have hbG : Blk w' mG 30 Gv.toArray := h.bG.grown g (hb _ (by omega))
  have hp := hbG.put t v'
  rw [List.setIfInBounds_toArray] at hp
  have us : Upd [mG] w' (w'.setCell ⟨mG, t, none⟩ v') := (Upd.refl [mG] w').setCell (.inl (by simp)) _
  have brd1 : BoardAt w' (m + 1) m W bd := h.brd.grown g (Ne.symm (hb _ (by omega))) (Ne.symm (hb _ (by omega))) (fun p hp => h.apart p hp t ht)
  refine ⟨brd1.upd us (by simp; omega) (by simp; omega) (fun p hp k hk hi => ?_), (h.bL.grown g (hb _ (by omega))).far (by show mL ≠ mG; omega) _, hp, ⟨h.lens.1, by rw [List.length_set]; exact h.lens.2.1, h.lens.2.2.1, by rw [List.length_set]; exact h.lens.2.2.2⟩,
    fun s hs => ⟨?_, (h.rowL s hs).2⟩, fun s hs => ?_, fun a b ha hb' hab k hk e => ?_, fun p hp a ha k hk e => ?_, u2, h.ord, h.size⟩
  · have := h.free (h.brd.rows p hp) rfl k hk
    simp at this hi
    omega
  · exact h.keepRow ht (v' := v') g (h.rowL s hs).1 (fun k hk => hb k ((h.rowL s hs).2 k hk))
  · rw [getD_setV _ _ _ _ (by rw [h.lens.2.1]; exact ht), getD_set _ _ _ _ _ (by rw [h.lens.2.2.2]; exact ht)]
    by_cases e : s = t
    · subst e
      rw [if_pos rfl, if_pos rfl]
      exact o.far (fun e => o.row.ne hbG (by decide) e) _
    · rw [if_neg e, if_neg e]
      have o1 := (h.ownG s hs).grown g (h.sep s t hs ht e)
      exact o1.far (fun e => (h.ownG s hs).row.ne h.bG (by decide) e) _
  · rw [getD_setV _ _ _ _ (by rw [h.lens.2.1]; exact ht)] at hk e
    by_cases e1 : a = t
    · rw [if_pos e1] at hk
      by_cases e2 : b = t
      · omega
      · rw [if_neg e2] at e
        rcases l with l | l
        · rw [l] at hk
          exact h.sep t b ht hb' (Ne.symm e2) k hk e
        · rw [l] at hk
          cases hk
          have := (h.ownG b hb').lt _ e.symm
          omega
    · rw [if_neg e1] at hk
      by_cases e2 : b = t
      · rw [if_pos e2] at e
        rcases l with l | l
        · rw [l] at e
          exact h.sep a t ha ht e1 k hk e
        · rw [l] at e
          have := (h.ownG a ha).lt k hk
          cases e
          omega
      · rw [if_neg e2] at e
        exact h.sep a b ha hb' hab k hk e
  · rw [getD_setV _ _ _ _ (by rw [h.lens.2.1]; exact ht)] at e
    by_cases e1 : a = t
    · rw [if_pos e1] at e
      rcases l with l | l
      · rw [l] at e
        exact h.apart p hp t ht k hk e
      · rw [l] at e
        have := (h.brd.rows p hp).lt k hk
        cases e
        omega
    · rw [if_neg e1] at e
      exact h.apart p hp a ha k hk e
end

/-- Confirm: what it returns is new. -/
theorem confirm_fresh (g m : Nat) (W : List (Int × Ent)) (bd tick : Int) (w : World) (h : BoardAt w g m W bd) (hW : WOk W) (ht : i64 tick) :
    Calls Try.prog 15 #[.pointer (some ⟨g, 0, none⟩), .int .i64 tick] w fun e w' => ∃ A c q W' bd', e = .returned (.slice A q.length c) ∧ BoardAt w' g m W' bd' ∧ Row effE w' (.slice A q.length c) q ∧ Upd [g, m] w w' ∧ Confd W bd tick q W' bd' ∧ ∀ k, (Value.slice A q.length c).ownBlock = some k → w.heap.size ≤ k := by
  by_cases hb : tick ≤ bd
  · refine (confirm_late g m W bd tick w h hb).mono ?_
    rintro e w' ⟨rfl, b⟩
    exact ⟨none, 0, [], W, bd, rfl, h.below' b, Row.nil _, (Upd.of_below b).mono (fun i hi => by cases hi), ⟨fun _ => ⟨rfl, rfl, rfl⟩, fun hc => absurd hb (by omega)⟩, fun k hk => by cases hk⟩
  · refine (confirm_calls g m W bd tick w h hW ht (by omega)).mono ?_
    rintro e w' ⟨v, rfl, o, k, u⟩
    obtain ⟨A, c, rfl, _⟩ := o.slice
    exact ⟨A, c, _, _, _, rfl, k, o.row, u, ⟨fun hc => absurd hc hb, fun _ => ⟨rfl, rfl, rfl⟩⟩, o.ge⟩

/-- Within the loop over what was confirmed. -/
structure InAt (w2 w : World) (m mL mG M : Nat) (Lv Gv : List Value) (L G : List (List Eff)) (W : List (Int × Ent)) (bd : Int) (A : Option Addr) (c : Nat) (q : List Eff) (cb : Nat) (cells : Array Value) : Prop where
  fin : FinAt w2 w m mL mG M Lv Gv L G W bd
  out : Row effE w (.slice A q.length c) q
  far : ∀ u : Nat, u < 8 → ∀ k, (Value.slice A q.length c).ownBlock = some k → some k ≠ (Gv.getD u nilV).ownBlock
  call : Blk w cb 32 cells
theorem InAt.push {w2 w w' : World} {m mL mG M : Nat} {Lv Gv : List Value} {L G : List (List Eff)} {W : List (Int × Ent)} {bd : Int} {A : Option Addr} {c : Nat} {q : List Eff} {cb : Nat} {cells : Array Value}
    (h : InAt w2 w m mL mG M Lv Gv L G W bd A c q cb cells) (ob : Obj) {t : Nat} (ht : t < 8) {v' : Value} {y : Eff} (o : Own effE w' M v' (G.getD t [] ++ [y])) (g : (w.alloc ob).grownBy w' (Gv.getD t nilV).ownBlock)
    (l : v'.ownBlock = (Gv.getD t nilV).ownBlock ∨ v'.ownBlock = some (w.alloc ob).heap.size) :
    InAt w2 (w'.setCell ⟨mG, t, none⟩ v') m mL mG M Lv (Gv.set t v') L (G.set t (G.getD t [] ++ [y])) W bd A c q cb cells := by
  have hb := (Below.refl w.heap.size w).alloc (Nat.le_refl _) ob
  have f1 := h.fin.new hb
  have hne : some cb ≠ (Gv.getD t nilV).ownBlock := fun e => (f1.ownG t ht).row.ne (h.call.below' hb) (by decide) e.symm
  refine ⟨f1.push ht o g l, f1.keepRow ht (v' := v') g (h.out.below' hb) (h.far t ht), fun u hu k hk e => ?_, ((h.call.below' hb).grown g hne).far (fun e => ?_) _⟩
  · rw [getD_setV _ _ _ _ (by rw [h.fin.lens.2.1]; exact ht)] at e
    by_cases e1 : u = t
    · rw [if_pos e1] at e
      rcases l with l | l
      · rw [l] at e
        exact h.far t ht k hk e
      · rw [l] at e
        have := h.out.lt k hk
        cases e
        simp at this
        omega
    · rw [if_neg e1] at e
      exact h.far u hu k hk e
  · exact h.call.ne h.fin.bG (by decide) e
theorem InAt.new {w2 w w' : World} {m mL mG M : Nat} {Lv Gv : List Value} {L G : List (List Eff)} {W : List (Int × Ent)} {bd : Int} {A : Option Addr} {c : Nat} {q : List Eff} {cb : Nat} {cells : Array Value}
    (h : InAt w2 w m mL mG M Lv Gv L G W bd A c q cb cells) (hb : Below w.heap.size w w') : InAt w2 w' m mL mG M Lv Gv L G W bd A c q cb cells :=
  ⟨h.fin.new hb, h.out.below' hb, h.far, h.call.below' hb⟩
theorem FinAt.cellG {w2 w : World} {m mL mG M : Nat} {Lv Gv : List Value} {L G : List (List Eff)} {W : List (Int × Ent)} {bd : Int} (h : FinAt w2 w m mL mG M Lv Gv L G W bd) {t : Nat} (ht : t < 8) :
    w.cell? ⟨mG, t, none⟩ = some (Gv.getD t nilV) := by
  rw [h.bG.cell, List.getElem?_toArray, List.getD_eq_getElem?_getD, List.getElem?_eq_getElem (by rw [h.lens.2.1]; exact ht)]
  rfl
theorem FinAt.cellL {w2 w : World} {m mL mG M : Nat} {Lv Gv : List Value} {L G : List (List Eff)} {W : List (Int × Ent)} {bd : Int} (h : FinAt w2 w m mL mG M Lv Gv L G W bd) {t : Nat} (ht : t < 8) :
    w.cell? ⟨mL, t, none⟩ = some (Lv.getD t nilV) := by
  rw [h.bL.cell, List.getElem?_toArray, List.getD_eq_getElem?_getD, List.getElem?_eq_getElem (by rw [h.lens.1]; exact ht)]
  rfl
theorem FinAt.heldG {w2 w w' : World} {m mL mG M : Nat} {Lv Gv : List Value} {L G : List (List Eff)} {W : List (Int × Ent)} {bd : Int} (h : FinAt w2 w m mL mG M Lv Gv L G W bd) (ob : Obj) {t : Nat} (ht : t < 8) (g : (w.alloc ob).grownBy w' (Gv.getD t nilV).ownBlock) :
    w'.cell? ⟨mG, t, none⟩ = some (Gv.getD t nilV) ∧ w'.frozen? ⟨mG, t, none⟩ = false := by
  have hb := (Below.refl w.heap.size w).alloc (Nat.le_refl _) ob
  have f1 := h.new hb
  have ho := h.ord
  have hk := f1.bG.grown g (fun e => by have := h.big ht _ e.symm; omega)
  refine ⟨?_, hk.frozen _⟩
  rw [hk.cell, ← f1.bG.cell]
  exact f1.cellG ht
end Go.Proofs.Ytlmmhgbbfmocaaa
