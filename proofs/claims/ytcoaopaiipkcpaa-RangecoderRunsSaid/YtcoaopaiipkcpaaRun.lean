/- How long the encoding of equal bytes is: reckoned by the kernel. -/
import Derived.Test.YtcoaopaiipkcpaaLaw
namespace Go.Proofs.Ytcoaopaiipkcpaa.Rc

/-- f at x, x reckoned first. -/
def force {α : Type} (x : Nat) (f : Nat → α) : α := Nat.rec (f 0) (fun n _ => f (n + 1)) x
theorem force_eq {α : Type} (x : Nat) (f : Nat → α) : force x f = f x := by cases x <;> rfl

theorem beq_t {a b : Nat} (h : a = b) : Nat.beq a b = true := by subst h; simp
theorem beq_f {a b : Nat} (h : ¬ a = b) : Nat.beq a b = false := by
  cases hb : Nat.beq a b with
  | false => rfl
  | true => exact absurd (Nat.eq_of_beq_eq_true hb) h

def normK : Nat → Nat → Nat → Nat → (Nat → Nat → Nat → Bool) → Bool
  | 0, lo, hi, c, k => k lo hi c
  | n + 1, lo, hi, c, k => bif Nat.beq (lo / 16777216) (hi / 16777216) then force (lo * 256 % 4294967296) (fun l => force (hi * 256 % 4294967296 + 255) (fun h => force (c + 1) (fun e => normK n l h e k))) else k lo hi c

theorem normK_eq (n : Nat) : ∀ lo hi c k, normK n lo hi c k = k (norm n lo hi).2.1 (norm n lo hi).2.2 (c + (norm n lo hi).1.length) := by
  induction n with
  | zero => intro lo hi c k; rfl
  | succ n ih =>
    intro lo hi c k
    rw [normK, norm]
    by_cases h : lo / 16777216 = hi / 16777216
    · rw [if_pos h, beq_t h]
      simp only [cond_true, force_eq, ih, List.length_cons]
      rw [Nat.add_assoc, Nat.add_comm 1]
    · rw [if_neg h, beq_f h]
      simp

/-- The same; the recursion is not begun where nothing is settled. -/
def normQ (lo hi e : Nat) (k : Nat → Nat → Nat → Bool) : Bool := bif Nat.beq (lo / 16777216) (hi / 16777216) then normK 4 lo hi e k else k lo hi e
theorem normQ_eq (lo hi e : Nat) (k : Nat → Nat → Nat → Bool) : normQ lo hi e k = k (norm 4 lo hi).2.1 (norm 4 lo hi).2.2 (e + (norm 4 lo hi).1.length) := by
  unfold normQ
  by_cases h : lo / 16777216 = hi / 16777216
  · rw [beq_t h, cond_true, normK_eq]
  · rw [beq_f h, cond_false, norm_stop h]; rfl

def bitsK : Nat → Nat → Nat → Nat → Nat → Nat → Nat → (Nat → Nat → Nat → Bool) → Bool
  | 0, _, _, _, lo, hi, e, k => k lo hi e
  | i + 1, c, u, d, lo, hi, e, k =>
    bif Nat.beq (c / 2 ^ i % 2) 1 then force (lo + (hi - lo) / 4096 * u) (fun m => normQ lo m e (fun l h e' => bitsK i c u d l h e' k))
    else force (lo + (hi - lo) / 4096 * d + 1) (fun m => normQ m hi e (fun l h e' => bitsK i c u d l h e' k))

def bytesK : Nat → Nat → Nat → Nat → Nat → Nat → Nat → Bool
  | 0, _, _, _, _, _, e => Nat.ble e 58
  | n + 1, c, u, d, lo, hi, e => bitsK 8 c u d lo hi e (fun l h e' => force (u + (4096 - u) / 16) (fun u' => force (d - d / 16) (fun d' => bytesK n c u' d' l h e')))

/-- The predictions along a byte's own path. -/
def Path (i c u d : Nat) (s : St) : Prop := ∀ j, j < i → s.p ((256 + c) / 2 ^ (j + 1)) = if c / 2 ^ j % 2 = 1 then u else d

theorem path_next (c i : Nat) (hc : c < 256) (hi : i < 8) : 2 * ((256 + c) / 2 ^ (i + 1)) + c / 2 ^ i % 2 = (256 + c) / 2 ^ i := by
  rcases (by omega : i = 0 ∨ i = 1 ∨ i = 2 ∨ i = 3 ∨ i = 4 ∨ i = 5 ∨ i = 6 ∨ i = 7) with rfl | rfl | rfl | rfl | rfl | rfl | rfl | rfl <;> omega

theorem path_ne (c i j : Nat) (hj : j < i) (hi : i < 8) : (256 + c) / 2 ^ (j + 1) ≠ (256 + c) / 2 ^ (i + 1) := by
  obtain ⟨m, rfl⟩ : ∃ m, i = j + 1 + m := ⟨i - (j + 1), by omega⟩
  have h1 : (256 + c) / 2 ^ (j + 1 + m + 1) = (256 + c) / 2 ^ (j + 1) / 2 ^ (m + 1) := by
    rw [Nat.div_div_eq_div_mul, ← Nat.pow_add]; congr 2
  have h2 : 0 < (256 + c) / 2 ^ (j + 1) := by
    have : 2 ^ (j + 1) ≤ 2 ^ 8 := Nat.pow_le_pow_right (by omega) (by omega)
    exact Nat.div_pos (by omega) (Nat.two_pow_pos _)
  have h3 : 1 < 2 ^ (m + 1) := by
    have : 2 ^ 1 ≤ 2 ^ (m + 1) := Nat.pow_le_pow_right (by omega) (by omega)
    omega
  rw [h1]
  exact Nat.ne_of_gt (Nat.div_lt_self h2 h3)

theorem step_p (s : St) (q m b r : Nat) : (s.step q m b).2.p r = if r = q then upd (s.p q) b else s.p r := rfl

theorem bits_p (i : Nat) : ∀ c s, c < 256 → i ≤ 8 →
    (∀ q, (∀ j, j < i → q ≠ (256 + c) / 2 ^ (j + 1)) → (encBits i ((256 + c) / 2 ^ i) c s).2.p q = s.p q) ∧
    (∀ j, j < i → (encBits i ((256 + c) / 2 ^ i) c s).2.p ((256 + c) / 2 ^ (j + 1)) = upd (s.p ((256 + c) / 2 ^ (j + 1))) (c / 2 ^ j % 2)) := by
  induction i with
  | zero => intro c s _ _; exact ⟨fun _ _ => rfl, fun j hj => absurd hj (by omega)⟩
  | succ i ih =>
    intro c s hc hi
    rw [encBits_succ, path_next c i hc (by omega)]
    obtain ⟨A, B⟩ := ih c (s.step ((256 + c) / 2 ^ (i + 1)) (s.mid ((256 + c) / 2 ^ (i + 1))) (c / 2 ^ i % 2)).2 hc (by omega)
    refine ⟨fun q hq => ?_, fun j hj => ?_⟩
    · show (encBits i _ c _).2.p q = s.p q
      rw [A q (fun j hj => hq j (by omega)), step_p, if_neg (hq i (by omega))]
    · show (encBits i _ c _).2.p _ = _
      by_cases he : j = i
      · subst he
        rw [A _ (fun j' hj' => (path_ne c j j' hj' (by omega)).symm), step_p, if_pos rfl]
      · rw [B j (by omega), step_p, if_neg (path_ne c i j (by omega) (by omega))]

theorem path_step {i c u d : Nat} {s : St} (h : Path (i + 1) c u d s) (hi : i < 8) (m b : Nat) : Path i c u d (s.step ((256 + c) / 2 ^ (i + 1)) m b).2 := fun j hj => by
  rw [step_p, if_neg (path_ne c i j hj hi)]
  exact h j (by omega)

theorem bitsK_eq (i : Nat) : ∀ c u d s e k, c < 256 → i ≤ 8 → Path i c u d s →
    bitsK i c u d s.lo s.hi e k = k (encBits i ((256 + c) / 2 ^ i) c s).2.lo (encBits i ((256 + c) / 2 ^ i) c s).2.hi (e + (encBits i ((256 + c) / 2 ^ i) c s).1.length) := by
  induction i with
  | zero => intro c u d s e k _ _ _; rfl
  | succ i ih =>
    intro c u d s e k hc hi hP
    have hp := hP i (by omega)
    have key : ∀ b, c / 2 ^ i % 2 = b → bitsK (i + 1) c u d s.lo s.hi e k = bitsK i c u d (s.step ((256 + c) / 2 ^ (i + 1)) (s.mid ((256 + c) / 2 ^ (i + 1))) b).2.lo (s.step ((256 + c) / 2 ^ (i + 1)) (s.mid ((256 + c) / 2 ^ (i + 1))) b).2.hi (e + (s.step ((256 + c) / 2 ^ (i + 1)) (s.mid ((256 + c) / 2 ^ (i + 1))) b).1.length) k := by
      intro b hb
      rw [bitsK]
      by_cases h1 : c / 2 ^ i % 2 = 1
      · obtain rfl : b = 1 := by omega
        rw [if_pos h1] at hp
        rw [beq_t h1]
        simp only [cond_true, force_eq, normQ_eq, St.step, St.mid, hp, nlo, nhi, if_true]
      · obtain rfl : b = 0 := by omega
        rw [if_neg h1] at hp
        rw [beq_f h1]
        simp only [cond_false, force_eq, normQ_eq, St.step, St.mid, hp, nlo, nhi, if_neg (show ¬ (0 : Nat) = 1 by omega)]
    rw [key _ rfl, ih _ _ _ _ _ _ hc (by omega) (path_step hP (by omega) _ _), encBits_succ, path_next c i hc (by omega)]
    simp only [List.length_append, Nat.add_assoc]

theorem path_byte {c u d : Nat} {s : St} (hc : c < 256) (h : Path 8 c u d s) : Path 8 c (u + (4096 - u) / 16) (d - d / 16) (encBits 8 1 c s).2 := fun j hj => by
  have h1 := (bits_p 8 c s hc (by omega)).2 j hj
  have e : (256 + c) / 2 ^ 8 = 1 := by omega
  rw [e] at h1
  rw [h1, h j hj]
  by_cases hb : c / 2 ^ j % 2 = 1
  · rw [if_pos hb, if_pos hb, hb]; rfl
  · rw [if_neg hb, if_neg hb, show c / 2 ^ j % 2 = 0 by omega]; rfl

theorem bytesK_eq (n : Nat) : ∀ c u d s e, c < 256 → Path 8 c u d s → bytesK n c u d s.lo s.hi e = Nat.ble (e + (encBytes (List.replicate n c) s).1.length) 58 := by
  induction n with
  | zero => intro c u d s e _ _; rfl
  | succ n ih =>
    intro c u d s e hc hP
    have e1 : (256 + c) / 2 ^ 8 = 1 := by omega
    rw [bytesK, bitsK_eq 8 c u d s e _ hc (by omega) hP, e1]
    simp only [force_eq]
    rw [ih _ _ _ _ _ hc (path_byte hc hP)]
    simp only [List.replicate_succ, encBytes, List.length_append, Nat.add_assoc]

theorem encBytes_app (a b : List Nat) : ∀ s, (encBytes a s).1.length ≤ (encBytes (a ++ b) s).1.length := by
  induction a with
  | nil => intro s; simp [encBytes]
  | cons x a ih =>
    intro s
    simp only [encBytes, List.cons_append, List.length_append]
    have := ih (encBits 8 1 x s).2
    omega

/-! ### The same, for the kernel's speed -/
def forceB {α : Type} (b : Bool) (f : Bool → α) : α := bif b then f true else f false
theorem forceB_eq {α : Type} (b : Bool) (f : Bool → α) : forceB b f = f b := by cases b <;> rfl

def normF (lo hi e : Nat) (k : Nat → Nat → Nat → Bool) : Bool :=
  bif Nat.beq (Nat.div lo (nat_lit 16777216)) (Nat.div hi (nat_lit 16777216)) then normK 4 lo hi e k else k lo hi e
theorem normF_eq (lo hi e : Nat) (k : Nat → Nat → Nat → Bool) : normF lo hi e k = normQ lo hi e k := rfl

def bitF (b : Bool) (u d lo hi e : Nat) (k : Nat → Nat → Nat → Bool) : Bool :=
  bif b then force (Nat.add lo (Nat.mul (Nat.div (Nat.sub hi lo) (nat_lit 4096)) u)) (fun m => normF lo m e k)
  else force (Nat.add (Nat.add lo (Nat.mul (Nat.div (Nat.sub hi lo) (nat_lit 4096)) d)) (nat_lit 1)) (fun m => normF m hi e k)

def bt (c i : Nat) : Bool := Nat.beq (c / 2 ^ i % 2) 1

theorem bitsK_succ (i c u d lo hi e : Nat) (k : Nat → Nat → Nat → Bool) : bitsK (i + 1) c u d lo hi e k = bitF (bt c i) u d lo hi e (fun l h e' => bitsK i c u d l h e' k) := by
  rw [bitsK]
  show (bif bt c i then _ else _) = (bif bt c i then _ else _)
  cases bt c i
  · simp only [cond_false, force_eq, normF_eq]; rfl
  · simp only [cond_true, force_eq, normF_eq]; rfl
theorem bitsK_zero (c u d lo hi e : Nat) (k : Nat → Nat → Nat → Bool) : bitsK 0 c u d lo hi e k = k lo hi e := rfl

def bytesF : Nat → Bool → Bool → Bool → Bool → Bool → Bool → Bool → Bool → Nat → Nat → Nat → Nat → Nat → Bool
  | 0, _, _, _, _, _, _, _, _, _, _, _, _, e => Nat.ble e 58
  | n + 1, b7, b6, b5, b4, b3, b2, b1, b0, u, d, lo, hi, e =>
    bitF b7 u d lo hi e (fun lo hi e => bitF b6 u d lo hi e (fun lo hi e => bitF b5 u d lo hi e (fun lo hi e => bitF b4 u d lo hi e (fun lo hi e =>
    bitF b3 u d lo hi e (fun lo hi e => bitF b2 u d lo hi e (fun lo hi e => bitF b1 u d lo hi e (fun lo hi e => bitF b0 u d lo hi e (fun lo hi e =>
    force (u + (4096 - u) / 16) (fun u' => force (d - d / 16) (fun d' => bytesF n b7 b6 b5 b4 b3 b2 b1 b0 u' d' lo hi e))))))))))

theorem bytesF_eq (c n : Nat) : ∀ u d lo hi e, bytesF n (bt c 7) (bt c 6) (bt c 5) (bt c 4) (bt c 3) (bt c 2) (bt c 1) (bt c 0) u d lo hi e = bytesK n c u d lo hi e := by
  induction n with
  | zero => intro u d lo hi e; rfl
  | succ n ih =>
    intro u d lo hi e
    rw [bytesF, bytesK]
    simp only [bitsK_succ, bitsK_zero, ih]

def runF (c : Nat) : Bool :=
  forceB (bt c 7) fun b7 => forceB (bt c 6) fun b6 => forceB (bt c 5) fun b5 => forceB (bt c 4) fun b4 => forceB (bt c 3) fun b3 => forceB (bt c 2) fun b2 => forceB (bt c 1) fun b1 => forceB (bt c 0) fun b0 =>
  bytesF 1000 b7 b6 b5 b4 b3 b2 b1 b0 2048 2048 0 4294967295 0
theorem runF_eq (c : Nat) : runF c = bytesK 1000 c 2048 2048 0 4294967295 0 := by
  unfold runF
  simp only [forceB_eq]
  exact bytesF_eq c 1000 _ _ _ _ _

def allF (a n : Nat) : Bool := Nat.rec true (fun i r => bif runF (a + i) then r else false) n
theorem allF_spec (a n : Nat) (h : allF a n = true) : ∀ i, i < n → runF (a + i) = true := by
  induction n with
  | zero => intro i hi; omega
  | succ n ih =>
    have h' : (bif runF (a + n) then allF a n else false) = true := h
    cases hb : runF (a + n) with
    | false => rw [hb] at h'; cases h'
    | true =>
      rw [hb] at h'
      intro i hi
      rcases (by omega : i = n ∨ i < n) with rfl | h1
      · exact hb
      · exact ih h' i h1

theorem len_two {n : Nat} (h : n < 16384) : (len n).length ≤ 2 := by
  unfold len
  rw [lenF]
  split
  · rw [lenF, if_neg (by omega)]; simp
  · simp

theorem runs_len {c n : Nat} (hc : c < 256) (hn : n ≤ 1000) (h : runF c = true) : (enc (List.replicate n c)).length ≤ 64 + n / 8 := by
  have h1 : Path 8 c 2048 2048 St.init := fun j _ => by show (2048 : Nat) = _; split <;> rfl
  have h2 := bytesK_eq 1000 c 2048 2048 St.init 0 hc h1
  have h3 : (encBytes (List.replicate 1000 c) St.init).1.length ≤ 58 := by
    have h4 : Nat.ble (0 + (encBytes (List.replicate 1000 c) St.init).1.length) 58 = true := by rw [← h2]; exact (runF_eq c).symm.trans h
    have := Nat.le_of_ble_eq_true h4
    omega
  have h5 := encBytes_app (List.replicate n c) (List.replicate (1000 - n) c) St.init
  rw [List.replicate_append_replicate, show n + (1000 - n) = 1000 by omega] at h5
  have h6 : (body (List.replicate n c)).length ≤ 62 := by
    unfold body
    split
    · simp
    · rw [List.length_append]
      simp only [flush, List.length_cons, List.length_nil]
      omega
  have h7 := len_two (n := (List.replicate n c).length) (by rw [List.length_replicate]; omega)
  unfold enc
  rw [List.length_append]
  omega
end Go.Proofs.Ytcoaopaiipkcpaa.Rc
