/- Two boards side by side; what a board holds without the slices' addresses; Shows of different ticks commute. -/
import Derived.Test.YtlmmhgbbfmocaaaSeq
namespace Go.Proofs.Ytlmmhgbbfmocaaa
open Go.RowKit

def strip (W : List (Int × Ent)) : List (Int × List Eff) := W.map fun q => (q.1, q.2.2)
def oldS (t : Int) (M : List (Int × List Eff)) : List Eff := (mget t M).getD []
def showS (bd t : Int) (l : List Eff) (M : List (Int × List Eff)) : List (Int × List Eff) := if t < bd then M else mput t l M
def newS (bd t : Int) (l : List Eff) (M : List (Int × List Eff)) : List Eff := if t < bd then [] else diff l (oldS t M)
def gone (bd t : Int) (l : List Eff) (M : List (Int × List Eff)) : List Eff := if t < bd then [] else diff (oldS t M) l
def restS (t : Int) (M : List (Int × List Eff)) : List (Int × List Eff) := M.filter fun p => !decide (p.1 < t)
def confS (bd t : Int) (M : List (Int × List Eff)) : List (Int × List Eff) := if t ≤ bd then M else restS t M
def takeS (lim : Int) : List (Int × List Eff) → List Eff
  | [] => []
  | p :: M => if p.1 < lim then p.2 ++ takeS lim M else takeS lim M
theorem old_strip (t : Int) (W : List (Int × Ent)) : (old t W).2 = oldS t (strip W) := by
  unfold old oldS strip
  rw [mget_map (fun e : Ent => e.2)]
  cases mget t W <;> rfl
theorem takeL_strip (lim : Int) (W : List (Int × Ent)) : takeL lim W = takeS lim (strip W) := by
  induction W with
  | nil => rfl
  | cons p W ih =>
    show (if p.1 < lim then _ else _ : List Eff) = (if p.1 < lim then _ else _ : List Eff)
    rw [ih]
    rfl
theorem rest_strip (t : Int) (W : List (Int × Ent)) : strip (rest t W) = restS t (strip W) := by
  unfold strip rest restS
  rw [List.filter_map]
  rfl
theorem mput_strip (t : Int) (e : Ent) (W : List (Int × Ent)) : strip (mput t e W) = mput t e.2 (strip W) := mput_map (fun e : Ent => e.2) t e W
theorem Sorted.strip {W : List (Int × Ent)} (h : Sorted W) : Sorted (strip W) := by
  unfold Sorted Go.Proofs.Ytlmmhgbbfmocaaa.strip
  rw [List.pairwise_map]
  exact h
theorem Shown.sx {W W' : List (Int × Ent)} {bd tick : Int} {l d1 d2 : List Eff} {n : Nat} {vc : Value} (s : Shown W bd tick l d1 d2 W' n vc) : d1 = newS bd tick l (strip W) ∧ d2 = gone bd tick l (strip W) ∧ strip W' = showS bd tick l (strip W) := by
  by_cases hb : tick < bd
  · obtain ⟨rfl, rfl, rfl⟩ := s.late hb
    unfold newS gone showS
    rw [if_pos hb, if_pos hb, if_pos hb]
    exact ⟨rfl, rfl, rfl⟩
  · obtain ⟨rfl, rfl, rfl⟩ := s.okk (by omega)
    unfold newS gone showS
    rw [if_neg hb, if_neg hb, if_neg hb, mput_strip, old_strip]
    exact ⟨rfl, rfl, rfl⟩
theorem Confd.sx {W W' : List (Int × Ent)} {bd bd' tick : Int} {q : List Eff} (s : Confd W bd tick q W' bd') : strip W' = confS bd tick (strip W) ∧ bd' = if tick ≤ bd then bd else tick := by
  by_cases hb : tick ≤ bd
  · obtain ⟨_, rfl, rfl⟩ := s.late hb
    unfold confS
    rw [if_pos hb, if_pos hb]
    exact ⟨rfl, rfl⟩
  · obtain ⟨_, hW, hd⟩ := s.okk (by omega)
    unfold confS
    rw [if_neg hb, if_neg hb, hW, rest_strip]
    exact ⟨rfl, hd⟩
theorem Sorted.ext {β : Type} : ∀ {M1 M2 : List (Int × β)}, Sorted M1 → Sorted M2 → (∀ q, q ∈ M1 ↔ q ∈ M2) → M1 = M2
  | [], [], _, _, _ => rfl
  | [], q :: _, _, _, h => absurd ((h q).2 List.mem_cons_self) (by simp)
  | p :: _, [], _, _, h => absurd ((h p).1 List.mem_cons_self) (by simp)
  | p :: M1, q :: M2, h1, h2, h => by
    have l1 := (List.pairwise_cons.1 h1).1
    have l2 := (List.pairwise_cons.1 h2).1
    have hpq : p = q := by
      rcases List.mem_cons.1 ((h p).1 List.mem_cons_self) with e | e
      · exact e
      · rcases List.mem_cons.1 ((h q).2 List.mem_cons_self) with e2 | e2
        · exact e2.symm
        · have := l1 q e2; have := l2 p e; omega
    subst hpq
    rw [Sorted.ext (List.pairwise_cons.1 h1).2 (List.pairwise_cons.1 h2).2 (fun r => ?_)]
    constructor
    · intro hr
      rcases List.mem_cons.1 ((h r).1 (List.mem_cons_of_mem _ hr)) with e | e
      · subst e; have := l1 _ hr; omega
      · exact e
    · intro hr
      rcases List.mem_cons.1 ((h r).2 (List.mem_cons_of_mem _ hr)) with e | e
      · subst e; have := l2 _ hr; omega
      · exact e
theorem mput_comm {β : Type} {a b : Int} (hab : a ≠ b) (x y : β) {M : List (Int × β)} (h : Sorted M) : mput b y (mput a x M) = mput a x (mput b y M) := by
  refine Sorted.ext ((h.mput a x).mput b y) ((h.mput b y).mput a x) (fun q => ?_)
  simp only [mem_mput]
  constructor
  · rintro (rfl | ⟨rfl | ⟨h1, h2⟩, h3⟩)
    · exact .inr ⟨.inl rfl, fun e => hab e.symm⟩
    · exact .inl rfl
    · exact .inr ⟨.inr ⟨h1, h3⟩, h2⟩
  · rintro (rfl | ⟨rfl | ⟨h1, h2⟩, h3⟩)
    · exact .inr ⟨.inl rfl, hab⟩
    · exact .inl rfl
    · exact .inr ⟨.inr ⟨h1, h3⟩, h2⟩
theorem oldS_mput {a b : Int} (hab : a ≠ b) (x : List Eff) {M : List (Int × List Eff)} (h : Sorted M) : oldS b (mput a x M) = oldS b M := by
  unfold oldS
  cases hg : mget b M with
  | some y =>
    rw [(h.mput a x).get ((mem_mput _ _ _ _).2 (.inr ⟨mget_mem hg, fun e => hab e.symm⟩))]
  | none =>
    cases hg2 : mget b (mput a x M) with
    | none => rfl
    | some y =>
      rcases (mem_mput _ _ _ _).1 (mget_mem hg2) with e | ⟨e, _⟩
      · exact absurd (congrArg Prod.fst e).symm hab
      · exact absurd rfl (mget_none hg _ e)
theorem Sorted.showS {bd t : Int} {l : List Eff} {M : List (Int × List Eff)} (h : Sorted M) : Sorted (showS bd t l M) := by
  unfold Go.Proofs.Ytlmmhgbbfmocaaa.showS
  split
  · exact h
  · exact h.mput _ _
theorem newS_show {bd a b : Int} (hab : a ≠ b) (x l : List Eff) {M : List (Int × List Eff)} (h : Sorted M) : newS bd b l (showS bd a x M) = newS bd b l M ∧ gone bd b l (showS bd a x M) = gone bd b l M := by
  unfold newS gone showS
  by_cases ha : a < bd
  · rw [if_pos ha]; exact ⟨rfl, rfl⟩
  · rw [if_neg ha, oldS_mput hab x h]; exact ⟨rfl, rfl⟩
theorem showS_comm {bd a b : Int} (hab : a ≠ b) (x y : List Eff) {M : List (Int × List Eff)} (h : Sorted M) : showS bd b y (showS bd a x M) = showS bd a x (showS bd b y M) := by
  unfold showS
  by_cases ha : a < bd
  · rw [if_pos ha, if_pos ha]
  · by_cases hb : b < bd
    · rw [if_pos hb, if_pos hb]
    · rw [if_neg ha, if_neg ha, if_neg hb, if_neg hb]
      exact mput_comm hab x y h

/-- What is done to a board leaves another. -/
theorem BoardAt.beside {w w' : World} {g m g' m' : Nat} {W W' : List (Int × Ent)} {bd bd' : Int} {S : List Nat} (h : BoardAt w g m W bd) (k : BoardAt w g' m' W' bd') (u : Upd S w w') (hS : ∀ i ∈ S, i ∈ [g, m]) (hg : g' ∉ [g, m]) (hm : m' ∉ [g, m]) : BoardAt w' g' m' W' bd' :=
  k.upd u (fun hi => hg (hS _ hi)) (fun hi => hm (hS _ hi)) (fun p hp j hj hi => h.apart (k.rows p hp) j hj (hS _ hi))

structure TwoAt (w2 w : World) (mx my : Nat) (Wx Wy : List (Int × Ent)) (bd : Int) : Prop where
  x : BoardAt w (mx + 1) mx Wx bd
  y : BoardAt w (my + 1) my Wy bd
  lt : mx + 1 < my
  st : strip Wx = strip Wy
  ox : WOk Wx
  oy : WOk Wy
  upd : Upd [mx + 1, mx, my + 1, my] w2 w
theorem TwoAt.new {w2 w w' : World} {mx my : Nat} {Wx Wy : List (Int × Ent)} {bd : Int} (h : TwoAt w2 w mx my Wx Wy bd) (hb : Below w.heap.size w w') : TwoAt w2 w' mx my Wx Wy bd :=
  ⟨h.x.below' hb, h.y.below' hb, h.lt, h.st, h.ox, h.oy, h.upd.new hb⟩
/-- A call on the one, then on the other. -/
theorem TwoAt.both {w2 w w1 w' : World} {mx my : Nat} {Wx Wy Wx' Wy' : List (Int × Ent)} {bd bd' : Int} {S S' : List Nat} (h : TwoAt w2 w mx my Wx Wy bd)
    (kx : BoardAt w1 (mx + 1) mx Wx' bd') (u : Upd S w w1) (hS : ∀ i ∈ S, i ∈ [mx + 1, mx])
    (ky : BoardAt w' (my + 1) my Wy' bd') (u' : Upd S' w1 w') (hS' : ∀ i ∈ S', i ∈ [my + 1, my])
    (st : strip Wx' = strip Wy') (ox : WOk Wx') (oy : WOk Wy') : TwoAt w2 w' mx my Wx' Wy' bd' := by
  have hl := h.lt
  have hy1 : BoardAt w1 (my + 1) my Wy bd := h.x.beside h.y u hS (by simp; omega) (by simp; omega)
  exact ⟨hy1.beside kx u' hS' (by simp; omega) (by simp; omega), ky, h.lt, st, ox, oy, (h.upd.trans' u (fun i hi => .inl (by have := hS i hi; simp at this ⊢; omega))).trans' u' (fun i hi => .inl (by have := hS' i hi; simp at this ⊢; omega))⟩
theorem TwoAt.y1 {w2 w w1 : World} {mx my : Nat} {Wx Wy : List (Int × Ent)} {bd : Int} {S : List Nat} (h : TwoAt w2 w mx my Wx Wy bd) (u : Upd S w w1) (hS : ∀ i ∈ S, i ∈ [mx + 1, mx]) : BoardAt w1 (my + 1) my Wy bd := by
  have hl := h.lt
  exact h.x.beside h.y u hS (by simp; omega) (by simp; omega)
end Go.Proofs.Ytlmmhgbbfmocaaa
