/- The plain side of EffectsFinal: what was shown last for each tick is what is confirmed for it. -/
import Derived.Test.YtlmmhgbbfmocaaaModelP
namespace Go.Proofs.Ytlmmhgbbfmocaaa
open Go.RowKit

theorem mget_ins_self {β : Type} (t : Int) (x : β) (M : List (Int × β)) (h : ∀ q ∈ M, q.1 ≠ t) : mget t (ins (t, x) M) = some x := by
  induction M with
  | nil => simp [ins, mget]
  | cons q M ih =>
    unfold ins
    split
    · simp [mget]
    · have h1 := h q (by simp)
      have h2 := ih (fun r hr => h r (by simp [hr]))
      unfold mget at h2 ⊢
      rw [List.find?_cons_of_neg (by simpa using h1)]
      exact h2
theorem mget_ins_ne {β : Type} {t u : Int} (x : β) (M : List (Int × β)) (h : u ≠ t) : mget u (ins (t, x) M) = mget u M := by
  induction M with
  | nil => simp [ins, mget, Ne.symm h]
  | cons q M ih =>
    unfold ins
    split
    · unfold mget
      rw [List.find?_cons_of_neg (by simp; omega)]
    · unfold mget at ih ⊢
      by_cases hq : q.1 = u
      · rw [List.find?_cons_of_pos (by simp [hq]), List.find?_cons_of_pos (by simp [hq])]
      · rw [List.find?_cons_of_neg (by simp [hq]), List.find?_cons_of_neg (by simp [hq])]
        exact ih
theorem mget_filter_ne {β : Type} {t u : Int} (M : List (Int × β)) (h : u ≠ t) : mget u (M.filter fun p => p.1 != t) = mget u M := by
  induction M with
  | nil => rfl
  | cons q M ih =>
    unfold mget at ih ⊢
    by_cases hq : q.1 = t
    · rw [List.filter_cons_of_neg (by simp [hq]), List.find?_cons_of_neg (by simp; omega)]
      exact ih
    · rw [List.filter_cons_of_pos (by simp [hq])]
      by_cases hu : q.1 = u
      · rw [List.find?_cons_of_pos (by simp [hu]), List.find?_cons_of_pos (by simp [hu])]
      · rw [List.find?_cons_of_neg (by simp [hu]), List.find?_cons_of_neg (by simp [hu])]
        exact ih
theorem mget_mput_self {β : Type} (t : Int) (x : β) (M : List (Int × β)) : mget t (mput t x M) = some x :=
  mget_ins_self t x _ (fun q hq => by simpa using (List.mem_filter.1 hq).2)
theorem mget_mput_ne {β : Type} {t u : Int} (x : β) (M : List (Int × β)) (h : u ≠ t) : mget u (mput t x M) = mget u M := by
  unfold mput
  rw [mget_ins_ne x _ h, mget_filter_ne M h]

theorem takeS_nil_filter {c t : Int} {M : List (Int × List Eff)} (hk : ∀ p ∈ M, p.1 ≠ t ∧ ∀ e ∈ p.2, e.tick = p.1) : (takeS c M).filter (fun e => e.tick == t) = [] := by
  induction M with
  | nil => rfl
  | cons p M ih =>
    have h1 := hk p (by simp)
    have h2 := ih (fun q hq => hk q (by simp [hq]))
    show List.filter _ (if p.1 < c then _ else _) = _
    split
    · rw [List.filter_append, h2, List.append_nil, List.filter_eq_nil_iff]
      intro e he
      have := h1.2 e he
      simp
      omega
    · exact h2
theorem takeS_filter {c t : Int} {M : List (Int × List Eff)} (hs : Sorted M) (hk : ∀ p ∈ M, ∀ e ∈ p.2, e.tick = p.1) : (takeS c M).filter (fun e => e.tick == t) = if t < c then oldS t M else [] := by
  induction M with
  | nil => simp [takeS, oldS, mget]
  | cons p M ih =>
    have hs2 : Sorted M := List.Pairwise.of_cons hs
    have hlt := (List.pairwise_cons.1 hs).1
    have h1 := hk p (by simp)
    have hk2 : ∀ q ∈ M, ∀ e ∈ q.2, e.tick = q.1 := fun q hq => hk q (by simp [hq])
    by_cases hp : p.1 = t
    · have e1 : oldS t (p :: M) = p.2 := by simp [oldS, mget, hp]
      have e2 : (takeS c M).filter (fun e => e.tick == t) = [] := takeS_nil_filter (fun q hq => ⟨by have := hlt q hq; omega, hk2 q hq⟩)
      rw [e1]
      show List.filter _ (if p.1 < c then p.2 ++ takeS c M else takeS c M) = _
      by_cases hc : p.1 < c
      · rw [if_pos hc, if_pos (by omega), List.filter_append, e2, List.append_nil, List.filter_eq_self]
        intro e he
        have := h1 e he
        simp
        omega
      · rw [if_neg hc, if_neg (by omega), e2]
    · have e1 : oldS t (p :: M) = oldS t M := by
        unfold oldS mget
        rw [List.find?_cons_of_neg (by simp [hp])]
      rw [e1, ← ih hs2 hk2]
      show List.filter _ (if p.1 < c then p.2 ++ takeS c M else takeS c M) = _
      by_cases hc : p.1 < c
      · rw [if_pos hc, List.filter_append]
        have : p.2.filter (fun e => e.tick == t) = [] := by
          rw [List.filter_eq_nil_iff]
          intro e he
          have := h1 e he
          simp
          omega
        rw [this, List.nil_append]
      · rw [if_neg hc]
theorem takeS_mem {c : Int} {M : List (Int × List Eff)} {e : Eff} (he : e ∈ takeS c M) : ∃ p ∈ M, p.1 < c ∧ e ∈ p.2 := by
  induction M with
  | nil => cases he
  | cons p M ih =>
    have he' : e ∈ (if p.1 < c then p.2 ++ takeS c M else takeS c M) := he
    by_cases hc : p.1 < c
    · rw [if_pos hc] at he'
      rcases List.mem_append.1 he' with h | h
      · exact ⟨p, by simp, hc, h⟩
      · obtain ⟨q, hq, h1, h2⟩ := ih h
        exact ⟨q, by simp [hq], h1, h2⟩
    · rw [if_neg hc] at he'
      obtain ⟨q, hq, h1, h2⟩ := ih he'
      exact ⟨q, by simp [hq], h1, h2⟩

/-- What the law knows of its two lists: L what was shown last, G what was confirmed, by tick. -/
structure FinP (M : List (Int × List Eff)) (bd : Int) (L G : List (List Eff)) : Prop where
  sorted : Sorted M
  bd0 : 0 ≤ bd
  keys : ∀ p ∈ M, bd ≤ p.1 ∧ p.1 ≤ 7 ∧ ∀ e ∈ p.2, e.tick = p.1
  low : ∀ t : Nat, t < 8 → (t : Int) < bd → G.getD t [] = L.getD t []
  high : ∀ t : Nat, t < 8 → bd ≤ (t : Int) → G.getD t [] = [] ∧ L.getD t [] = oldS t M
theorem getD_set {α : Type} (l : List α) (t u : Nat) (x d : α) (h : t < l.length) : (l.set t x).getD u d = if u = t then x else l.getD u d := by
  rw [List.getD_eq_getElem?_getD, List.getD_eq_getElem?_getD, List.getElem?_set]
  by_cases hu : u = t
  · subst hu; simp [h]
  · simp [hu, Ne.symm hu]
theorem FinP.nil : FinP [] 0 (List.replicate 8 []) (List.replicate 8 []) := by
  refine ⟨List.Pairwise.nil, Int.le_refl _, fun p hp => (by cases hp), fun t ht hb => by omega, fun t ht _ => ?_⟩
  have : (List.replicate 8 ([] : List Eff)).getD t [] = [] := by rw [List.getD_eq_getElem?_getD, List.getElem?_replicate, if_pos ht]; rfl
  rw [this]
  exact ⟨rfl, rfl⟩
theorem FinP.show {M : List (Int × List Eff)} {bd : Int} {L G : List (List Eff)} (h : FinP M bd L G) (hl : L.length = 8) {t : Nat} (ht : t < 8) (hb : bd ≤ (t : Int)) {l : List Eff} (he : ∀ e ∈ l, e.tick = t) : FinP (mput (t : Int) l M) bd (L.set t l) G := by
  refine ⟨h.sorted.mput _ _, h.bd0, fun p hp => ?_, fun u hu hub => ?_, fun u hu hub => ?_⟩
  · rcases (mem_mput _ _ _ _).1 hp with rfl | ⟨hp, _⟩
    · exact ⟨hb, by simp only; omega, he⟩
    · exact h.keys p hp
  · rw [getD_set L t u l [] (by omega), if_neg (by omega)]
    exact h.low u hu hub
  · rw [getD_set L t u l [] (by omega)]
    by_cases e : u = t
    · subst e
      rw [if_pos rfl]
      refine ⟨(h.high u hu hub).1, ?_⟩
      unfold oldS
      rw [mget_mput_self]
      rfl
    · rw [if_neg e]
      refine ⟨(h.high u hu hub).1, ?_⟩
      unfold oldS
      rw [mget_mput_ne l M (by omega)]
      exact (h.high u hu hub).2
theorem FinP.conf {M : List (Int × List Eff)} {bd c : Int} {L G G' : List (List Eff)} (h : FinP M bd L G) (hc : bd < c)
    (hG : ∀ t : Nat, t < 8 → G'.getD t [] = G.getD t [] ++ (takeS c M).filter (fun e => e.tick == (t : Int))) : FinP (restS c M) c L G' := by
  have hk : ∀ p ∈ M, ∀ e ∈ p.2, e.tick = p.1 := fun p hp => (h.keys p hp).2.2
  refine ⟨h.sorted.filter _, by have := h.bd0; omega, fun p hp => ?_, fun t ht htc => ?_, fun t ht htc => ?_⟩
  · have := mem_restS.1 hp
    have h2 := h.keys p this.1
    exact ⟨by omega, h2.2⟩
  · rw [hG t ht, takeS_filter h.sorted hk, if_pos htc]
    by_cases hb : (t : Int) < bd
    · have : oldS t M = [] := by
        unfold oldS
        cases hg : mget (t : Int) M with
        | none => rfl
        | some x => have := (h.keys _ (mget_mem hg)).1; simp only at this; omega
      rw [this, List.append_nil]
      exact h.low t ht hb
    · rw [(h.high t ht (by omega)).1, (h.high t ht (by omega)).2, List.nil_append]
  · rw [hG t ht, takeS_filter h.sorted hk, if_neg (by omega), List.append_nil]
    refine ⟨(h.high t ht (by omega)).1, ?_⟩
    rw [(h.high t ht (by omega)).2]
    unfold oldS
    rw [mget_rest htc]
theorem FinP.congr {M : List (Int × List Eff)} {bd : Int} {L G G' : List (List Eff)} (h : FinP M bd L G) (hG : ∀ t : Nat, t < 8 → G'.getD t [] = G.getD t []) : FinP M bd L G' :=
  ⟨h.sorted, h.bd0, h.keys, fun t ht hb => by rw [hG t ht]; exact h.low t ht hb, fun t ht hb => by rw [hG t ht]; exact h.high t ht hb⟩
theorem FinP.done {M : List (Int × List Eff)} {bd : Int} {L G : List (List Eff)} (h : FinP M bd L G) (hb : 8 ≤ bd) : M = [] ∧ ∀ t : Nat, t < 8 → G.getD t [] = L.getD t [] := by
  refine ⟨?_, fun t ht => h.low t ht (by omega)⟩
  cases M with
  | nil => rfl
  | cons p M => have := h.keys p (by simp); omega
/-- A list dealt out by its ticks, one more. -/
theorem dealt_succ {G0 G : List (List Eff)} {q : List Eff} {k : Nat} (hk : k < q.length) (hl : G.length = 8) {t : Nat} (ht : t < 8) (htk : q[k].tick = t)
    (h : ∀ u : Nat, u < 8 → G.getD u [] = G0.getD u [] ++ (q.take k).filter (fun e => e.tick == (u : Int))) :
    ∀ u : Nat, u < 8 → (G.set t (G.getD t [] ++ [q[k]])).getD u [] = G0.getD u [] ++ (q.take (k + 1)).filter (fun e => e.tick == (u : Int)) := by
  intro u hu
  rw [getD_set _ _ _ _ _ (by omega), List.take_succ_eq_append_getElem hk, List.filter_append]
  by_cases e : u = t
  · subst e
    rw [if_pos rfl, h u hu, List.append_assoc]
    congr 1
    rw [List.filter_cons_of_pos (by simp [htk])]
    rfl
  · rw [if_neg e, h u hu, List.filter_cons_of_neg (by rw [htk]; simp; omega)]
    simp
end Go.Proofs.Ytlmmhgbbfmocaaa
