/- The plain side of EffectsModel: the reference's board holds what the board holds, and what is confirmed. -/
import Derived.Test.YtlmmhgbbfmocaaaTwo
namespace Go.Proofs.Ytlmmhgbbfmocaaa
open Go.RowKit

def rstrip (R : List REnt) : List (Int × List Eff) := R.map fun q => (q.1, q.2.2)
theorem between_strip (a z : Int) (R : List REnt) : betweenL a z R = takeS z (restS a (rstrip R)) := by
  induction R with
  | nil => rfl
  | cons p R ih =>
    have e : rstrip (p :: R) = (p.1, p.2.2) :: rstrip R := rfl
    rw [e]
    unfold betweenL
    by_cases h : p.1 < a
    · have e2 : restS a ((p.1, p.2.2) :: rstrip R) = restS a (rstrip R) := by unfold restS; rw [List.filter_cons_of_neg (by simp [h])]
      rw [if_neg (by omega), e2, ih]
    · have e2 : restS a ((p.1, p.2.2) :: rstrip R) = (p.1, p.2.2) :: restS a (rstrip R) := by unfold restS; rw [List.filter_cons_of_pos (by simp [h])]
      rw [e2]
      show _ = (if p.1 < z then _ else _ : List Eff)
      by_cases hz : p.1 < z
      · rw [if_pos ⟨by omega, hz⟩, if_pos hz, ih]
      · rw [if_neg (by omega), if_neg hz, ih]
theorem mget_rest {bd t : Int} (h : bd ≤ t) (M : List (Int × List Eff)) : mget t (restS bd M) = mget t M := by
  induction M with
  | nil => rfl
  | cons p M ih =>
    unfold restS mget at *
    by_cases hp : p.1 < bd
    · rw [List.filter_cons_of_neg (by simp [hp]), ih, List.find?_cons_of_neg (by simp; omega)]
    · rw [List.filter_cons_of_pos (by simp [hp])]
      by_cases he : p.1 = t
      · rw [List.find?_cons_of_pos (by simp [he]), List.find?_cons_of_pos (by simp [he])]
      · rw [List.find?_cons_of_neg (by simp [he]), List.find?_cons_of_neg (by simp [he]), ih]
theorem Sorted.rest {bd : Int} {M : List (Int × List Eff)} (h : Sorted M) : Sorted (restS bd M) := h.filter _
theorem mem_restS {bd : Int} {M : List (Int × List Eff)} {q : Int × List Eff} : q ∈ restS bd M ↔ q ∈ M ∧ ¬ q.1 < bd := by
  unfold restS
  rw [List.mem_filter]
  simp
theorem rest_mput {bd t : Int} (h : bd ≤ t) (l : List Eff) {M : List (Int × List Eff)} (hs : Sorted M) : mput t l (restS bd M) = restS bd (mput t l M) := by
  refine Sorted.ext (hs.rest.mput t l) (hs.mput t l).rest (fun q => ?_)
  simp only [mem_mput, mem_restS]
  constructor
  · rintro (rfl | ⟨⟨h1, h2⟩, h3⟩)
    · exact ⟨.inl rfl, by simp only; omega⟩
    · exact ⟨.inr ⟨h1, h3⟩, h2⟩
  · rintro ⟨rfl | ⟨h1, h3⟩, h2⟩
    · exact .inl rfl
    · exact .inr ⟨⟨h1, h2⟩, h3⟩
theorem rest_rest {a b : Int} (h : a ≤ b) (M : List (Int × List Eff)) : restS b (restS a M) = restS b M := by
  unfold restS
  rw [List.filter_filter]
  congr 1
  funext p
  by_cases hp : p.1 < b
  · simp [hp]
  · have : ¬ p.1 < a := by omega
    simp [hp, this]

/-- The board and its reference agree. -/
structure Rel (R : List REnt) (W : List (Int × Ent)) (bd : Int) : Prop where
  sorted : Sorted R
  rok : ROk R
  wok : WOk W
  same : strip W = restS bd (rstrip R)
theorem Sorted.rstrip {R : List REnt} (h : Sorted R) : Sorted (rstrip R) := by
  unfold Sorted Go.Proofs.Ytlmmhgbbfmocaaa.rstrip
  rw [List.pairwise_map]
  exact h
theorem mput_rstrip (t : Int) (e : Sl × List Eff) (R : List REnt) : rstrip (mput t e R) = mput t e.2 (rstrip R) := mput_map (fun e : Sl × List Eff => e.2) t e R
theorem Rel.nil : Rel [] [] 0 := ⟨List.Pairwise.nil, ⟨by simp, fun p hp => by cases hp⟩, WOk.nil, rfl⟩
theorem Rel.take {R : List REnt} {W : List (Int × Ent)} {bd : Int} (h : Rel R W bd) (z : Int) : betweenL bd z R = takeL z W := by
  rw [between_strip, takeL_strip, h.same]
theorem Rel.conf {R : List REnt} {W W' : List (Int × Ent)} {bd bd' t : Int} {q : List Eff} (h : Rel R W bd) (s : Confd W bd t q W' bd') : Rel R W' bd' := by
  refine ⟨h.sorted, h.rok, (s.wok h.wok).1, ?_⟩
  obtain ⟨h1, h2⟩ := s.sx
  rw [h1, h2]
  unfold confS
  by_cases hb : t ≤ bd
  · rw [if_pos hb, if_pos hb, h.same]
  · rw [if_neg hb, if_neg hb, h.same, rest_rest (by omega)]
theorem Rel.show {R : List REnt} {W W' : List (Int × Ent)} {bd t : Int} {l d1 d2 : List Eff} {n : Nat} {vc : Value} {u : Sl} (h : Rel R W bd) (hb : bd ≤ t) (hl : R.length ≤ 900) (hl2 : W.length ≤ 900) (h1 : l.length ≤ 40) (h2 : OkAll l) (h3 : i64 t) (s : Shown W bd t l d1 d2 W' n vc) : Rel (showF t (u, l) false R) W' bd := by
  rw [showF_mput h.sorted]
  refine ⟨h.sorted.mput _ _, ⟨by have := length_mput t (u, l) R; omega, fun p hp => ?_⟩, (s.wok h.wok hl2 h1 h2 h3).1, ?_⟩
  · rcases (mem_mput _ _ _ _).1 hp with rfl | ⟨hp, _⟩
    · exact ⟨h1, h2, h3⟩
    · exact h.rok.each p hp
  · rw [s.sx.2.2, mput_rstrip]
    unfold showS
    rw [if_neg (by omega), h.same, rest_mput hb _ h.sorted.rstrip]
theorem Rel.old {R : List REnt} {W : List (Int × Ent)} {bd t : Int} (h : Rel R W bd) (hb : bd ≤ t) : (rold t R).2 = (old t W).2 := by
  rw [old_strip, h.same]
  unfold oldS
  rw [mget_rest hb]
  unfold rold rstrip
  rw [mget_map (fun e : Sl × List Eff => e.2)]
  cases mget t R <;> rfl
end Go.Proofs.Ytlmmhgbbfmocaaa
