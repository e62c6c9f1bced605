/- Lengths alone. -/
import Derived.Test.YtcoaopaiipkcpaaLaw
namespace Go.Proofs.Ytcoaopaiipkcpaa.Rc

theorem parse_short (f : Nat) (l : List Nat) (h : ∀ x ∈ l, 128 ≤ x) : ∀ i n sc, (parseF f l i n sc).1 = 7 := by
  induction f with
  | zero => intro i n sc; rfl
  | succ f ih =>
    intro i n sc
    rw [parseF]
    split
    · rename_i hi
      have hm : 128 ≤ l.getD i 0 := by rw [List.getD_eq_getElem?_getD, List.getElem?_eq_getElem hi]; exact h _ (List.getElem_mem hi)
      rw [if_pos hm]; exact ih _ _ _
    · rfl

theorem parse_surplus (f : Nat) (p : List Nat) (h : ∀ x ∈ p, 128 ≤ x) (hp : 1 ≤ p.length) : ∀ i n sc, i ≤ p.length → (parseF f (p ++ [0]) i n sc).1 = if p.length < f + i then 8 else 7 := by
  induction f with
  | zero => intro i n sc hi; rw [if_neg (by omega)]; rfl
  | succ f ih =>
    intro i n sc hi
    rw [parseF, if_pos (by rw [List.length_append]; simp; omega)]
    by_cases he : i = p.length
    · subst he
      have h0 : (p ++ [0]).getD p.length 0 = 0 := by simp
      rw [h0, if_neg (by omega), if_pos ⟨rfl, by omega⟩, if_pos (by omega)]
    · have hm : 128 ≤ (p ++ [0]).getD i 0 := by
        rw [List.getD_eq_getElem?_getD, List.getElem?_append_left (by omega), List.getElem?_eq_getElem (by omega)]
        exact h _ (List.getElem_mem _)
      rw [if_pos hm, ih _ _ _ (by omega), show f + (i + 1) = f + 1 + i by omega]

theorem lenF_digits (k : Nat) : ∀ (n : Nat), n < 128 ^ (k + 1) → ∃ ds d, lenF k n = ds ++ [d] ∧ (∀ x ∈ ds, 128 ≤ x ∧ x < 256) ∧ d < 128 := by
  induction k with
  | zero => intro n hn; exact ⟨[], n, rfl, by simp, by simpa using hn⟩
  | succ k ih =>
    intro n hn
    rw [lenF]
    split
    · obtain ⟨ds, d, h1, h2, h3⟩ := ih (n / 128) (by rw [Nat.pow_succ] at hn; exact Nat.div_lt_of_lt_mul (by rw [Nat.mul_comm]; exact hn))
      refine ⟨(n % 128 + 128) :: ds, d, by rw [h1]; rfl, ?_, h3⟩
      intro x hx
      simp only [List.mem_cons] at hx
      rcases hx with rfl | hx
      · omega
      · exact h2 x hx
    · exact ⟨[], n, rfl, by simp, by omega⟩

theorem len_digits {n : Nat} (hn : n < 34359738368) : ∃ ds d, len n = ds ++ [d] ∧ (∀ x ∈ ds, 128 ≤ x ∧ x < 256) ∧ d < 128 := lenF_digits 20 n (by omega)

theorem dec_short {l : List Nat} (h : ∀ x ∈ l, 128 ≤ x) : decodeR l = (7, []) := by
  have h7 : (parse l).1 = 7 := parse_short 5 l h 0 0 1
  unfold decodeR
  rw [if_pos (by rw [h7]; omega), h7]

theorem dec_surplus {p : List Nat} (h : ∀ x ∈ p, 128 ≤ x) (hp : 1 ≤ p.length) : decodeR (p ++ [0]) = (if p.length < 5 then 8 else 7, []) := by
  have h7 : (parse (p ++ [0])).1 = if p.length < 5 then 8 else 7 := parse_surplus 5 p h hp 0 0 1 (by omega)
  unfold decodeR
  rw [if_pos (by rw [h7]; split <;> omega), h7]

theorem dec_length {k : Nat} (hk : k < 34359738368) : (decodeR (len k)).1 = if k = 0 then 0 else if 4000 < k then 2 else 8 := by
  have hp := parse_len hk []
  rw [List.append_nil] at hp
  by_cases h0 : k = 0
  · subst h0; rfl
  · rw [if_neg h0]
    by_cases h4 : 4000 < k
    · rw [if_pos h4]
      rw [if_neg (by omega)] at hp
      unfold decodeR
      rw [hp]; rfl
    · rw [if_neg h4]
      rw [if_pos (by omega)] at hp
      unfold decodeR
      rw [if_neg (by rw [hp]; simp), if_neg]
      intro he
      have hl := decOut_len (len k)
      rw [hp] at hl
      have := congrArg List.length he
      unfold enc at this
      rw [hl, List.length_append] at this
      have hb : body (decOut (len k)) ≠ [] := by
        unfold body
        rw [if_neg (by intro h; rw [h] at hl; simp at hl; omega)]
        simp [flush]
      have : (body (decOut (len k))).length = 0 := by simp only at this; omega
      exact hb (List.eq_nil_of_length_eq_zero this)
end Go.Proofs.Ytcoaopaiipkcpaa.Rc
