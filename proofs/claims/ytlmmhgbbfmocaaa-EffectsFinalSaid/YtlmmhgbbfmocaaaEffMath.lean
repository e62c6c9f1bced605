/- Effects as plain lists: the difference of two lists as multisets, the board as a sorted list of ticks. No program. -/
namespace Go.Proofs.Ytlmmhgbbfmocaaa

structure Eff where
  tick : Int
  idx : Int
  kind : Int
  val : Int

instance : DecidableEq Eff := fun a b =>
  decidable_of_iff (a.tick = b.tick ∧ a.idx = b.idx ∧ a.kind = b.kind ∧ a.val = b.val) ⟨fun h => by cases a; cases b; simp_all, fun h => by subst h; exact ⟨rfl, rfl, rfl, rfl⟩⟩
instance : Inhabited Eff := ⟨⟨0, 0, 0, 0⟩⟩

def i64 (x : Int) : Prop := -9223372036854775808 ≤ x ∧ x ≤ 9223372036854775807
def Eff.Ok (x : Eff) : Prop := i64 x.tick ∧ i64 x.idx ∧ i64 x.kind ∧ i64 x.val
def OkAll (l : List Eff) : Prop := ∀ x ∈ l, x.Ok
theorem OkAll.nil : OkAll [] := fun _ h => by cases h
theorem OkAll.cons {x : Eff} {l : List Eff} (h : x.Ok) (hl : OkAll l) : OkAll (x :: l) := fun y hy => by
  rcases List.mem_cons.1 hy with rfl | h2
  · exact h
  · exact hl y h2
theorem OkAll.append {a b : List Eff} (h : OkAll a) (hl : OkAll b) : OkAll (a ++ b) := fun y hy => (List.mem_append.1 hy).elim (h y) (hl y)
theorem OkAll.sub {a b : List Eff} (h : OkAll a) (hs : ∀ x ∈ b, x ∈ a) : OkAll b := fun y hy => h y (hs y hy)

/-- One less at x. -/
def dec (c : Eff → Nat) (x : Eff) : Eff → Nat := fun y => if y = x then c y - 1 else c y
def inc (c : Eff → Nat) (x : Eff) : Eff → Nat := fun y => if y = x then c y + 1 else c y

/-- The elements of a list, where each is passed over as often as c says. -/
def diffA : (Eff → Nat) → List Eff → List Eff
  | _, [] => []
  | c, x :: l => if 0 < c x then diffA (dec c x) l else x :: diffA c l

def diff (a b : List Eff) : List Eff := diffA (fun x => b.count x) a

theorem diffA_sub (c : Eff → Nat) (l : List Eff) : ∀ x ∈ diffA c l, x ∈ l := by
  induction l generalizing c with
  | nil => simp [diffA]
  | cons a l ih =>
    intro x hx
    unfold diffA at hx
    split at hx
    · exact List.mem_cons_of_mem _ (ih _ x hx)
    · rcases List.mem_cons.1 hx with rfl | h
      · exact List.mem_cons_self
      · exact List.mem_cons_of_mem _ (ih _ x h)
theorem diffA_len (c : Eff → Nat) (l : List Eff) : (diffA c l).length ≤ l.length := by
  induction l generalizing c with
  | nil => simp [diffA]
  | cons a l ih =>
    unfold diffA
    split
    · have := ih (dec c a); simp; omega
    · have := ih c; simp; omega
theorem diff_sub (a b : List Eff) : ∀ x ∈ diff a b, x ∈ a := diffA_sub _ _
theorem diff_len (a b : List Eff) : (diff a b).length ≤ a.length := diffA_len _ _

theorem count_diffA (c : Eff → Nat) (l : List Eff) (x : Eff) : (diffA c l).count x = l.count x - c x := by
  induction l generalizing c with
  | nil => simp [diffA]
  | cons a l ih =>
    unfold diffA
    split
    · rename_i h
      rw [ih]
      by_cases hx : x = a
      · subst hx
        simp only [dec, if_pos, List.count_cons_self]
        omega
      · simp only [dec, if_neg hx]
        rw [List.count_cons_of_ne (fun e => hx e.symm)]
    · rename_i h
      by_cases hx : x = a
      · subst hx
        rw [List.count_cons_self, List.count_cons_self, ih]
        omega
      · rw [List.count_cons_of_ne (fun e => hx e.symm), List.count_cons_of_ne (fun e => hx e.symm), ih]
theorem count_diff (a b : List Eff) (x : Eff) : (diff a b).count x = a.count x - b.count x := count_diffA _ _ _

/-- The reference's difference: an element is taken where as many like it stand ahead of it as the other list has. -/
def diffR (b : List Eff) : List Eff → List Eff → List Eff
  | _, [] => []
  | p, x :: l => if b.count x ≤ p.count x then x :: diffR b (p ++ [x]) l else diffR b (p ++ [x]) l

theorem count_snoc (p : List Eff) (a x : Eff) : (p ++ [a]).count x = if x = a then p.count x + 1 else p.count x := by
  rw [List.count_append]
  split
  · rename_i h; subst h; simp
  · rename_i h; rw [show List.count x [a] = 0 from List.count_eq_zero.2 (by simpa using h)]; rfl

theorem dec_zero {c : Eff → Nat} {x : Eff} (h : c x = 0) : dec c x = c := by
  funext y
  unfold dec
  split
  · rename_i e; subst e; omega
  · rfl
theorem diffR_diffA (b p l : List Eff) (c : Eff → Nat) (hc : ∀ x, c x = b.count x - p.count x) : diffR b p l = diffA c l := by
  induction l generalizing p c with
  | nil => rfl
  | cons a l ih =>
    have h2 : ∀ x, dec c a x = b.count x - (p ++ [a]).count x := by
      intro x
      rw [count_snoc]
      unfold dec
      have := hc x
      split
      · omega
      · exact this
    have ha := hc a
    unfold diffR diffA
    rw [ih (p ++ [a]) (dec c a) h2]
    by_cases h : b.count a ≤ p.count a
    · rw [if_pos h, if_neg (by omega), dec_zero (by omega)]
    · rw [if_neg h, if_pos (by omega)]
theorem diffR_diff (a b : List Eff) : diffR b [] a = diff a b := by
  exact diffR_diffA b [] a _ (fun x => by simp)

section
variable {β : Type}
/-- Put in order of the key. -/
def ins (p : Int × β) : List (Int × β) → List (Int × β)
  | [] => [p]
  | q :: r => if p.1 < q.1 then p :: q :: r else q :: ins p r
def mput (t : Int) (x : β) (M : List (Int × β)) : List (Int × β) := ins (t, x) (M.filter fun p => p.1 != t)
def mget (t : Int) (M : List (Int × β)) : Option β := (M.find? fun p => p.1 == t).map (·.2)
def Sorted (M : List (Int × β)) : Prop := M.Pairwise fun p q => p.1 < q.1

theorem mem_ins (p q : Int × β) (M : List (Int × β)) : q ∈ ins p M ↔ q = p ∨ q ∈ M := by
  induction M with
  | nil => simp [ins]
  | cons a M ih =>
    unfold ins
    split
    · simp
    · simp only [List.mem_cons, ih]
      constructor
      · rintro (h | h | h)
        · exact .inr (.inl h)
        · exact .inl h
        · exact .inr (.inr h)
      · rintro (h | h | h)
        · exact .inr (.inl h)
        · exact .inl h
        · exact .inr (.inr h)
theorem mem_mput (t : Int) (x : β) (M : List (Int × β)) (q : Int × β) : q ∈ mput t x M ↔ q = (t, x) ∨ (q ∈ M ∧ q.1 ≠ t) := by
  unfold mput
  rw [mem_ins, List.mem_filter]
  simp
theorem Sorted.ins {M : List (Int × β)} (h : Sorted M) (p : Int × β) (hp : ∀ q ∈ M, q.1 ≠ p.1) : Sorted (ins p M) := by
  induction M with
  | nil => simp [Sorted, Go.Proofs.Ytlmmhgbbfmocaaa.ins]
  | cons a M ih =>
    obtain ⟨h1, h2⟩ := List.pairwise_cons.1 h
    unfold Go.Proofs.Ytlmmhgbbfmocaaa.ins
    split
    · rename_i hlt
      refine List.pairwise_cons.2 ⟨fun q hq => ?_, h⟩
      rcases List.mem_cons.1 hq with rfl | hq
      · exact hlt
      · have := h1 q hq; omega
    · rename_i hlt
      refine List.pairwise_cons.2 ⟨fun q hq => ?_, ih h2 (fun q hq => hp q (List.mem_cons_of_mem _ hq))⟩
      rcases (mem_ins p q M).1 hq with rfl | hq
      · have := hp a List.mem_cons_self; omega
      · exact h1 q hq
theorem Sorted.filter {M : List (Int × β)} (h : Sorted M) (f : Int × β → Bool) : Sorted (M.filter f) := List.Pairwise.filter f h
theorem Sorted.mput {M : List (Int × β)} (h : Sorted M) (t : Int) (x : β) : Sorted (mput t x M) :=
  (h.filter _).ins (t, x) (fun q hq => by have := (List.mem_filter.1 hq).2; simpa using this)
theorem Sorted.nil : Sorted ([] : List (Int × β)) := List.Pairwise.nil
theorem length_ins (p : Int × β) (M : List (Int × β)) : (ins p M).length = M.length + 1 := by
  induction M with
  | nil => rfl
  | cons a M ih => unfold ins; split <;> simp [ih]
theorem length_mput (t : Int) (x : β) (M : List (Int × β)) : (mput t x M).length ≤ M.length + 1 := by
  unfold mput
  rw [length_ins]
  have := List.length_filter_le (fun p : Int × β => p.1 != t) M
  omega
theorem ins_map {γ : Type} (f : β → γ) (p : Int × β) (M : List (Int × β)) : (ins p M).map (fun q => (q.1, f q.2)) = ins (p.1, f p.2) (M.map fun q => (q.1, f q.2)) := by
  induction M with
  | nil => rfl
  | cons a M ih =>
    unfold ins
    simp only [List.map_cons]
    split
    · simp
    · simp [ih]
theorem mput_map {γ : Type} (f : β → γ) (t : Int) (x : β) (M : List (Int × β)) : (mput t x M).map (fun q => (q.1, f q.2)) = mput t (f x) (M.map fun q => (q.1, f q.2)) := by
  unfold mput
  rw [ins_map, List.filter_map]
  rfl
theorem mget_mem {t : Int} {x : β} {M : List (Int × β)} (h : mget t M = some x) : (t, x) ∈ M := by
  unfold mget at h
  rw [Option.map_eq_some_iff] at h
  obtain ⟨p, hp, rfl⟩ := h
  have h1 := List.mem_of_find?_eq_some hp
  have h2 := List.find?_some hp
  have : p.1 = t := by simpa using h2
  rw [← this]
  exact h1
theorem mget_none {t : Int} {M : List (Int × β)} (h : mget t M = none) : ∀ q ∈ M, q.1 ≠ t := by
  unfold mget at h
  rw [Option.map_eq_none_iff, List.find?_eq_none] at h
  intro q hq
  simpa using h q hq
theorem Sorted.uniq {M : List (Int × β)} (h : Sorted M) {t : Int} {x y : β} (hx : (t, x) ∈ M) (hy : (t, y) ∈ M) : x = y := by
  induction M with
  | nil => cases hx
  | cons a M ih =>
    obtain ⟨h1, h2⟩ := List.pairwise_cons.1 h
    rcases List.mem_cons.1 hx with e | hx'
    · rcases List.mem_cons.1 hy with e' | hy'
      · rw [← e] at e'; injection e' with _ e2; exact e2.symm
      · have := h1 _ hy'; rw [← e] at this; simp at this
    · rcases List.mem_cons.1 hy with e' | hy'
      · have := h1 _ hx'; rw [← e'] at this; simp at this
      · exact ih h2 hx' hy'
theorem Sorted.get {M : List (Int × β)} (h : Sorted M) {t : Int} {x : β} (hx : (t, x) ∈ M) : mget t M = some x := by
  cases hg : mget t M with
  | none => exact absurd rfl (mget_none hg _ hx)
  | some y => rw [h.uniq (mget_mem hg) hx]
theorem mget_map {γ : Type} (f : β → γ) (t : Int) (M : List (Int × β)) : mget t (M.map fun q => (q.1, f q.2)) = (mget t M).map f := by
  unfold mget
  rw [List.find?_map]
  have : ((fun p : Int × γ => p.1 == t) ∘ fun q : Int × β => (q.1, f q.2)) = fun p : Int × β => p.1 == t := rfl
  rw [this]
  cases List.find? (fun p : Int × β => p.1 == t) M <;> rfl
end
end Go.Proofs.Ytlmmhgbbfmocaaa
