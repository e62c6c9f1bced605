/- The range coder's laws, in plain Lean: what is encoded is decoded; no encoding is the beginning of another's. -/
import Derived.Test.YtcoaopaiipkcpaaMath
namespace Go.Proofs.Ytcoaopaiipkcpaa.Rc

/-- The stream r reads o from place p on. -/
def Pre (r : Nat → Nat) (p : Nat) (o : List Nat) : Prop := ∀ i, i < o.length → r (p + i) = o.getD i 0
theorem Pre.nil (r : Nat → Nat) (p : Nat) : Pre r p [] := fun i h => absurd h (by simp)
theorem Pre.left {r : Nat → Nat} {p : Nat} {a b : List Nat} (h : Pre r p (a ++ b)) : Pre r p a := fun i hi => by
  rw [h i (by simp; omega), List.getD_eq_getElem?_getD, List.getD_eq_getElem?_getD, List.getElem?_append_left hi]
theorem Pre.right {r : Nat → Nat} {p : Nat} {a b : List Nat} (h : Pre r p (a ++ b)) : Pre r (p + a.length) b := fun i hi => by
  rw [Nat.add_assoc, h (a.length + i) (by simp; omega), List.getD_eq_getElem?_getD, List.getD_eq_getElem?_getD, List.getElem?_append_right (by omega)]
  simp
theorem Pre.head {r : Nat → Nat} {p x : Nat} {l : List Nat} (h : Pre r p (x :: l)) : r p = x := by simpa using h 0 (by simp)
theorem Pre.tail {r : Nat → Nat} {p x : Nat} {l : List Nat} (h : Pre r p (x :: l)) : Pre r (p + 1) l := Pre.right (a := [x]) h
theorem Pre.stream (a b : List Nat) : Pre (stream (a ++ b)) 0 a := fun i hi => by
  simp only [Rc.stream, Nat.zero_add, List.getD_eq_getElem?_getD]
  rw [List.getElem?_append_left hi]

def In (s : St) (v : Nat) : Prop := s.lo ≤ v ∧ v ≤ s.hi

theorem win_next {r : Nat → Nat} (h : ∀ i, r i < 256) (p : Nat) : win r p = r p * 16777216 + win r (p + 1) / 256 := by
  have h1 := h (p + 1)
  have h2 := h (p + 2)
  have h3 := h (p + 3)
  have h4 := h (p + 4)
  simp only [win]
  rw [show p + 1 + 1 = p + 2 from rfl, show p + 1 + 2 = p + 3 from rfl, show p + 1 + 3 = p + 4 from rfl]
  omega
theorem win_lt {r : Nat → Nat} (h : ∀ i, r i < 256) (p : Nat) : win r p < 4294967296 := by
  have h0 := h p
  have h1 := h (p + 1)
  have h2 := h (p + 2)
  have h3 := h (p + 3)
  simp only [win]
  omega

theorem norm_win {r : Nat → Nat} (h : ∀ i, r i < 256) (n : Nat) : ∀ (lo hi p : Nat), lo < 4294967296 → hi < 4294967296 → Pre r p (norm n lo hi).1 → (norm n lo hi).2.1 ≤ win r (p + (norm n lo hi).1.length) → win r (p + (norm n lo hi).1.length) ≤ (norm n lo hi).2.2 →
    lo ≤ win r p ∧ win r p ≤ hi := by
  induction n with
  | zero =>
    intro lo hi p _ _ _ h1 h2
    exact ⟨h1, h2⟩
  | succ n ih =>
    intro lo hi p hlo hhi hp h1 h2
    by_cases heq : lo / 16777216 = hi / 16777216
    · simp only [norm, if_pos heq] at hp h1 h2
      rw [List.length_cons, show p + ((norm n (lo * 256 % 4294967296) (hi * 256 % 4294967296 + 255)).1.length + 1) = (p + 1) + (norm n (lo * 256 % 4294967296) (hi * 256 % 4294967296 + 255)).1.length from by omega] at h1 h2
      have hr := ih _ _ (p + 1) (by omega) (by omega) hp.tail h1 h2
      have hw := win_next h p
      have hh := hp.head
      omega
    · rw [norm_stop heq] at h1 h2
      exact ⟨h1, h2⟩

theorem step_dec {r : Nat → Nat} (h : ∀ i, r i < 256) {s : St} (hs : s.Ok) {c b p : Nat} (hc : c < 256) (hb : b ≤ 1) (hp : Pre r p (s.step c (s.mid c) b).1) (hi : In (s.step c (s.mid c) b).2 (win r (p + (s.step c (s.mid c) b).1.length))) :
    bitOf r s c p = b ∧ In s (win r p) := by
  have hm := St.mid_lt hs hc
  have hh := hs.2.2
  have hw := norm_win h 4 (nlo s.lo (s.mid c) b) (nhi s.hi (s.mid c) b) p (by unfold nlo; split <;> omega) (by unfold nhi; split <;> omega) hp hi.1 hi.2
  unfold bitOf In
  rcases (by omega : b = 0 ∨ b = 1) with rfl | rfl
  · have e0 : ¬ (0 : Nat) = 1 := by omega
    simp only [nlo, nhi, if_neg e0] at hw
    rw [if_neg (by omega)]
    omega
  · simp only [nlo, nhi, if_true] at hw
    rw [if_pos (by omega)]
    omega

theorem encBits_ok (m : Nat) : ∀ (c x : Nat) (s : St), CtxOk m c → s.Ok → (encBits m c x s).2.Ok := by
  induction m with
  | zero => intro c x s _ hs; exact hs
  | succ m ih =>
    intro c x s hc hs
    have hm := St.mid_lt hs hc.lt
    rw [encBits_succ]
    exact ih _ _ _ (hc.next (by omega)) (hs.step hc.lt hm.1 hm.2)

theorem encBytes_ok (l : List Nat) : ∀ (s : St), s.Ok → (encBytes l s).2.Ok := by
  induction l with
  | nil => intro s hs; exact hs
  | cons x l ih => intro s hs; exact ih _ (encBits_ok 8 1 x s CtxOk.init hs)

theorem bits_dec {r : Nat → Nat} (h : ∀ i, r i < 256) (m : Nat) : ∀ (c x p : Nat) (s : St), CtxOk m c → s.Ok → Pre r p (encBits m c x s).1 → In (encBits m c x s).2 (win r (p + (encBits m c x s).1.length)) →
    decBits r m c s p = (c * 2 ^ m + x % 2 ^ m, (encBits m c x s).2, p + (encBits m c x s).1.length) ∧ In s (win r p) := by
  induction m with
  | zero =>
    intro c x p s _ _ _ hi
    refine ⟨?_, hi⟩
    simp [decBits, rounds, encBits, Nat.mod_one]
  | succ m ih =>
    intro c x p s hc hs hp hi
    have hm := St.mid_lt hs hc.lt
    obtain ⟨b, hbe⟩ : ∃ b, b = x / 2 ^ m % 2 := ⟨_, rfl⟩
    have hb : b ≤ 1 := by omega
    rw [encBits_succ, ← hbe] at hp hi ⊢
    simp only [List.length_append] at hi ⊢
    rw [← Nat.add_assoc] at hi
    have h1 := ih (2 * c + b) x (p + (s.step c (s.mid c) b).1.length) (s.step c (s.mid c) b).2 (hc.next hb) (hs.step hc.lt hm.1 hm.2) hp.right hi
    have h2 := step_dec h hs hc.lt hb hp.left h1.2
    refine ⟨?_, h2.2⟩
    rw [decBits_succ _ _ _ _ _ h2.1, h1.1, Nat.mod_pow_succ, ← hbe, Nat.pow_succ, Nat.add_assoc]
    congr 1
    rw [Nat.add_mul, Nat.mul_comm 2 c, Nat.mul_assoc, Nat.mul_comm 2 (2 ^ m), Nat.mul_comm b]
    omega

theorem bytes_dec {r : Nat → Nat} (h : ∀ i, r i < 256) (l : List Nat) : ∀ (p : Nat) (s : St), (∀ x ∈ l, x < 256) → s.Ok → Pre r p (encBytes l s).1 → In (encBytes l s).2 (win r (p + (encBytes l s).1.length)) →
    decBytes r l.length s p = l ∧ In s (win r p) := by
  induction l with
  | nil => intro p s _ _ _ hi; exact ⟨rfl, hi⟩
  | cons x l ih =>
    intro p s hx hs hp hi
    simp only [encBytes] at hp hi
    rw [List.length_append, ← Nat.add_assoc] at hi
    have h1 := ih _ _ (fun y hy => hx y (by simp [hy])) (encBits_ok 8 1 x s CtxOk.init hs) hp.right hi
    have h2 := bits_dec h 8 1 x p s CtxOk.init hs hp.left h1.2
    refine ⟨?_, h2.2⟩
    rw [List.length_cons, decBytes_succ _ _ _ _ h2.1, h1.1]
    have := hx x (by simp)
    congr 1
    rw [show (2 : Nat) ^ 8 = 256 from rfl]
    omega

theorem win_flush {r : Nat → Nat} {p lo : Nat} (hlo : lo < 4294967296) (h : Pre r p (flush lo)) : win r p = lo := by
  have h0 := h 0 (by simp [flush])
  have h1 := h 1 (by simp [flush])
  have h2 := h 2 (by simp [flush])
  have h3 := h 3 (by simp [flush])
  simp [flush] at h0 h1 h2 h3
  simp only [win, h0, h1, h2, h3]
  omega

theorem body_dec {r : Nat → Nat} (h : ∀ i, r i < 256) {xs : List Nat} (hx : ∀ x ∈ xs, x < 256) (hp : Pre r 0 (body xs)) : decBytes r xs.length St.init 0 = xs := by
  by_cases h0 : xs = []
  · subst h0; rfl
  · unfold body at hp
    rw [if_neg h0] at hp
    have hok := encBytes_ok xs St.init St.init_ok
    have hl := hok.lt
    have hw := win_flush (by have := hok.2.2; omega) hp.right
    exact (bytes_dec h xs 0 St.init hx St.init_ok hp.left ⟨by rw [hw]; exact Nat.le_refl _, by rw [hw]; omega⟩).1

theorem step_bytes {s : St} {k m b : Nat} (hs : s.hi < 4294967296) (hm : m < 4294967296) : ∀ x ∈ (s.step k m b).1, x < 256 := by
  have key : ∀ (n lo hi : Nat), hi < 4294967296 → ∀ x ∈ (norm n lo hi).1, x < 256 := by
    intro n
    induction n with
    | zero => intro lo hi _ x hx; simp [norm] at hx
    | succ n ih =>
      intro lo hi hh x hx
      simp only [norm] at hx
      split at hx
      · simp only [List.mem_cons] at hx
        rcases hx with rfl | hx
        · omega
        · exact ih _ _ (by omega) x hx
      · simp at hx
  exact key 4 _ _ (by unfold nhi; split <;> omega)

theorem encBits_bytes (m : Nat) : ∀ (c x : Nat) (s : St), CtxOk m c → s.Ok → ∀ y ∈ (encBits m c x s).1, y < 256 := by
  induction m with
  | zero => intro c x s _ _ y hy; simp [encBits] at hy
  | succ m ih =>
    intro c x s hc hs y hy
    have hm := St.mid_lt hs hc.lt
    rw [encBits_succ] at hy
    rcases List.mem_append.1 hy with hy | hy
    · exact step_bytes hs.2.2 (by have := hs.2.2; omega) y hy
    · exact ih _ _ _ (hc.next (by omega)) (hs.step hc.lt hm.1 hm.2) y hy
theorem encBytes_bytes (l : List Nat) : ∀ (s : St), s.Ok → ∀ y ∈ (encBytes l s).1, y < 256 := by
  induction l with
  | nil => intro s _ y hy; simp [encBytes] at hy
  | cons x l ih =>
    intro s hs y hy
    simp only [encBytes] at hy
    rcases List.mem_append.1 hy with hy | hy
    · exact encBits_bytes 8 1 x s CtxOk.init hs y hy
    · exact ih _ (encBits_ok 8 1 x s CtxOk.init hs) y hy
theorem lenF_bytes (k : Nat) : ∀ (n : Nat), n < 128 ^ (k + 1) → ∀ y ∈ lenF k n, y < 256 := by
  induction k with
  | zero => intro n hn y hy; simp [lenF] at hy; simp at hn; omega
  | succ k ih =>
    intro n hn y hy
    rw [lenF] at hy
    split at hy
    · simp only [List.mem_cons] at hy
      rcases hy with rfl | hy
      · omega
      · exact ih _ (by rw [Nat.pow_succ] at hn; exact Nat.div_lt_of_lt_mul (by rw [Nat.mul_comm]; exact hn)) y hy
    · simp at hy; omega
theorem len_bytes {n : Nat} (hn : n < 34359738368) : ∀ y ∈ len n, y < 256 := lenF_bytes 20 n (by omega)
theorem body_bytes (xs : List Nat) : ∀ y ∈ body xs, y < 256 := by
  intro y hy
  unfold body at hy
  split at hy
  · simp at hy
  · rcases List.mem_append.1 hy with hy | hy
    · exact encBytes_bytes _ _ St.init_ok y hy
    · simp [flush] at hy
      omega
theorem enc_bytes {xs : List Nat} (hl : xs.length < 34359738368) : ∀ y ∈ enc xs, y < 256 := by
  intro y hy
  rcases List.mem_append.1 hy with hy | hy
  · exact len_bytes hl y hy
  · exact body_bytes xs y hy

/-- The length is read as it was written. -/
theorem parseF_len (f : Nat) : ∀ (k m i n0 sc : Nat) (l t : List Nat), l.drop i = lenF k m ++ t → m < 128 ^ (f + 1) → m < 128 ^ (k + 1) → (0 < i → 0 < m) →
    parseF (f + 1) l i n0 sc = if n0 + m * sc ≤ 4000 then (0, n0 + m * sc, i + (lenF k m).length) else (2, 0, 0) := by
  have hget : ∀ (l t : List Nat) (i x : Nat), l.drop i = x :: t → i < l.length ∧ l.getD i 0 = x := by
    intro l t i x h
    have hlt : i < l.length := by
      rcases Nat.lt_or_ge i l.length with h' | h'
      · exact h'
      · rw [List.drop_of_length_le h'] at h; cases h
    refine ⟨hlt, ?_⟩
    rw [List.drop_eq_getElem_cons hlt] at h
    injection h with h1 _
    simp [hlt, h1]
  have one : ∀ (f m i n0 sc : Nat) (l t : List Nat), l.drop i = m :: t → m < 128 → (0 < i → 0 < m) → parseF (f + 1) l i n0 sc = if n0 + m * sc ≤ 4000 then (0, n0 + m * sc, i + 1) else (2, 0, 0) := by
    intro f m i n0 sc l t h hm hi
    obtain ⟨h1, h2⟩ := hget l t i m h
    rw [parseF, if_pos h1, h2, if_neg (by omega), if_neg (by omega), Nat.mod_eq_of_lt hm]
    by_cases h4 : n0 + m * sc ≤ 4000
    · rw [if_neg (by omega), if_pos h4]
    · rw [if_pos (by omega), if_neg h4]
  induction f with
  | zero =>
    intro k m i n0 sc l t h hm _ hi
    have hm' : m < 128 := by simpa using hm
    have hk : lenF k m = [m] := by cases k <;> simp [lenF]; omega
    rw [hk] at h ⊢
    exact one 0 m i n0 sc l t h hm' hi
  | succ f ih =>
    intro k m i n0 sc l t h hm hk hi
    by_cases hge : 128 ≤ m
    · cases k with
      | zero => simp at hk; omega
      | succ k =>
        rw [lenF, if_pos hge] at h ⊢
        obtain ⟨h1, h2⟩ := hget l _ i _ h
        have hd : l.drop (i + 1) = lenF k (m / 128) ++ t := by
          rw [← List.tail_drop, h]; rfl
        rw [parseF, if_pos h1, h2, if_pos (by omega), ih k (m / 128) (i + 1) _ _ l t hd (by rw [Nat.pow_succ] at hm; exact Nat.div_lt_of_lt_mul (by rw [Nat.mul_comm]; exact hm)) (by rw [Nat.pow_succ] at hk; exact Nat.div_lt_of_lt_mul (by rw [Nat.mul_comm]; exact hk)) (fun _ => by omega)]
        have e : n0 + (m % 128 + 128) % 128 * sc + m / 128 * (sc * 128) = n0 + m * sc := by
          rw [Nat.add_mod_right, Nat.mod_mod, Nat.add_assoc, Nat.mul_comm sc 128, ← Nat.mul_assoc, ← Nat.add_mul, show m % 128 + m / 128 * 128 = m from by omega]
        rw [e, List.length_cons, show i + 1 + (lenF k (m / 128)).length = i + ((lenF k (m / 128)).length + 1) from by omega]
    · have hk : lenF k m = [m] := by cases k <;> simp [lenF]; omega
      rw [hk] at h ⊢
      exact one _ m i n0 sc l t h (by omega) hi

theorem parse_len {n : Nat} (hn : n < 34359738368) (t : List Nat) : parse (len n ++ t) = if n ≤ 4000 then (0, n, (len n).length) else (2, 0, 0) := by
  have h := parseF_len 4 20 n 0 0 1 (len n ++ t) t rfl (by omega) (by omega) (fun h => absurd h (by omega))
  simp only [Nat.zero_add, Nat.mul_one] at h
  exact h

theorem len_head (n : Nat) : (len n).length ≥ 1 := by
  unfold len
  cases h : lenF 20 n with
  | nil => rw [lenF] at h; split at h <;> cases h
  | cons a l => simp

theorem drop_enc (xs t : List Nat) : (enc xs ++ t).drop (len xs.length).length = body xs ++ t := by
  unfold enc
  rw [List.append_assoc]
  exact List.drop_left

theorem decOut_enc {xs t : List Nat} (hx : ∀ x ∈ xs, x < 256) (ht : ∀ x ∈ t, x < 256) (hl : xs.length ≤ 4000) : (parse (enc xs ++ t)).1 = 0 ∧ decOut (enc xs ++ t) = xs := by
  have hp : parse (enc xs ++ t) = (0, xs.length, (len xs.length).length) := by
    have h := parse_len (n := xs.length) (by omega) (body xs ++ t)
    rw [if_pos hl] at h
    rw [enc, List.append_assoc]
    exact h
  refine ⟨by rw [hp], ?_⟩
  unfold decOut dec
  rw [hp]
  show decBytes (stream ((enc xs ++ t).drop (len xs.length).length)) xs.length St.init 0 = xs
  rw [drop_enc]
  refine body_dec (stream_lt ?_) hx (Pre.stream _ _)
  intro x hx'
  rcases List.mem_append.1 hx' with h | h
  · exact body_bytes xs x h
  · exact ht x h

theorem decode_enc {xs : List Nat} (hx : ∀ x ∈ xs, x < 256) (hl : xs.length ≤ 4000) : decodeR (enc xs) = (0, xs) := by
  have h := decOut_enc (t := []) hx (by simp) hl
  rw [List.append_nil] at h
  unfold decodeR
  rw [if_neg (by rw [h.1]; simp), h.2, if_pos rfl]

/-- No encoding is the beginning of another's. -/
theorem enc_unique {xs ys t u : List Nat} (hx : ∀ x ∈ xs, x < 256) (hy : ∀ x ∈ ys, x < 256) (ht : ∀ x ∈ t, x < 256) (hu : ∀ x ∈ u, x < 256) (hlx : xs.length ≤ 4000) (hly : ys.length ≤ 4000) (h : enc xs ++ t = enc ys ++ u) : xs = ys := by
  rw [← (decOut_enc hx ht hlx).2, h, (decOut_enc hy hu hly).2]

theorem enc_inj {xs ys : List Nat} (hx : ∀ x ∈ xs, x < 256) (hy : ∀ x ∈ ys, x < 256) (hlx : xs.length ≤ 4000) (hly : ys.length ≤ 4000) : enc xs = enc ys ↔ xs = ys :=
  ⟨fun h => enc_unique (t := []) (u := []) hx hy (by simp) (by simp) hlx hly (by simpa using h), fun h => by rw [h]⟩

theorem decode_sound (l : List Nat) : ((decodeR l).1 = 0 → enc (decodeR l).2 = l) ∧ ((decodeR l).1 ≠ 0 → (decodeR l).2 = []) ∧ ((parse l).1 ≠ 0 → (decodeR l).1 = (parse l).1) ∧ ((parse l).1 = 0 → (decodeR l).1 = 0 ∨ (decodeR l).1 = 8) := by
  unfold decodeR
  by_cases h : (parse l).1 ≠ 0
  · rw [if_pos h]
    exact ⟨fun h0 => absurd h0 h, fun _ => rfl, fun _ => rfl, fun h0 => absurd h0 h⟩
  · rw [if_neg h]
    by_cases h2 : enc (decOut l) = l
    · rw [if_pos h2]
      exact ⟨fun _ => h2, fun h0 => absurd rfl h0, fun h0 => absurd h0 h, fun _ => .inl rfl⟩
    · rw [if_neg h2]
      exact ⟨fun h0 => absurd h0 (by simp), fun _ => rfl, fun h0 => absurd h0 h, fun _ => .inr rfl⟩

theorem decode_len (l : List Nat) : (decodeR l).2.length ≤ 4000 := by
  unfold decodeR
  split
  · simp
  · rename_i h
    split
    · rw [decOut_len]; exact parse_le (by omega)
    · simp
theorem decode_lt (l : List Nat) : ∀ x ∈ (decodeR l).2, x < 256 := by
  unfold decodeR
  split
  · simp
  · split
    · exact decOut_lt l
    · simp

/-- A proper beginning of an encoding is not decoded. -/
theorem decode_prefix {xs : List Nat} (hx : ∀ x ∈ xs, x < 256) (hl : xs.length ≤ 4000) {k : Nat} (hk : k < (enc xs).length) : (decodeR ((enc xs).take k)).1 ≠ 0 := by
  intro h0
  have h1 := (decode_sound ((enc xs).take k)).1 h0
  have h2 : enc (decodeR ((enc xs).take k)).2 ++ (enc xs).drop k = enc xs ++ [] := by rw [h1, List.take_append_drop, List.append_nil]
  have h3 := enc_unique (decode_lt _) hx (fun x hx' => enc_bytes (by omega) x (List.mem_of_mem_drop hx')) (by simp) (decode_len _) hl h2
  rw [h3] at h1
  have := congrArg List.length h1
  rw [List.length_take] at this
  omega

/-- Nor is an encoding with a tail. -/
theorem decode_tail {xs t : List Nat} (hx : ∀ x ∈ xs, x < 256) (ht : ∀ x ∈ t, x < 256) (hl : xs.length ≤ 4000) (hne : t ≠ []) : (decodeR (enc xs ++ t)).1 = 8 := by
  have h := decOut_enc hx ht hl
  unfold decodeR
  rw [if_neg (by rw [h.1]; simp), h.2, if_neg]
  intro he
  have := congrArg List.length he
  rw [List.length_append] at this
  have : t.length = 0 := by omega
  exact hne (List.eq_nil_of_length_eq_zero this)
end Go.Proofs.Ytcoaopaiipkcpaa.Rc
