/- The range coder as plain functions on numbers and lists: the coder's step, the encoder, the decoder, the length, and what they satisfy. No program in sight. -/
namespace Go.Proofs.Ytcoaopaiipkcpaa.Rc

/-- A context's prediction behind a bit. -/
def upd (p b : Nat) : Nat := if b = 1 then p + (4096 - p) / 16 else p - p / 16

/-- The coder: predictions, low, high. -/
structure St where
  p : Nat → Nat
  lo : Nat
  hi : Nat

def St.mid (s : St) (k : Nat) : Nat := s.lo + (s.hi - s.lo) / 4096 * s.p k

/-- The leading bytes that are settled: so many rounds at most. -/
def norm : Nat → Nat → Nat → List Nat × Nat × Nat
  | 0, lo, hi => ([], lo, hi)
  | n + 1, lo, hi =>
    if lo / 16777216 = hi / 16777216 then
      let r := norm n (lo * 256 % 4294967296) (hi * 256 % 4294967296 + 255)
      (hi / 16777216 :: r.1, r.2)
    else ([], lo, hi)

def nlo (lo mid b : Nat) : Nat := if b = 1 then lo else mid + 1
def nhi (hi mid b : Nat) : Nat := if b = 1 then mid else hi
def setp (p : Nat → Nat) (k v : Nat) : Nat → Nat := fun i => if i = k then v else p i

/-- Narrow the range to a bit, given the part's end. -/
def St.step (s : St) (k m b : Nat) : List Nat × St :=
  let r := norm 4 (nlo s.lo m b) (nhi s.hi m b)
  (r.1, ⟨setp s.p k (upd (s.p k) b), r.2.1, r.2.2⟩)

def St.Ok (s : St) : Prop := (∀ k, k < 256 → 15 ≤ s.p k ∧ s.p k ≤ 4081) ∧ s.lo / 16777216 < s.hi / 16777216 ∧ s.hi < 4294967296

theorem St.Ok.lt {s : St} (h : s.Ok) : s.lo < s.hi := by have := h.2.1; omega

theorem upd_ok {p b : Nat} (h1 : 15 ≤ p) (h2 : p ≤ 4081) : 15 ≤ upd p b ∧ upd p b ≤ 4081 := by
  unfold upd; split <;> omega

/-- q * p ≤ r * 4081 / 4096 in the form that is wanted. -/
theorem part_lt {d p : Nat} (hp : p ≤ 4081) (hd : 0 < d) : d / 4096 * p < d := by
  have h1 : d / 4096 * p ≤ d / 4096 * 4081 := Nat.mul_le_mul_left _ hp
  omega

theorem St.mid_lt {s : St} (h : s.Ok) {k : Nat} (hk : k < 256) : s.lo ≤ s.mid k ∧ s.mid k < s.hi := by
  have hl := h.lt
  have := part_lt (d := s.hi - s.lo) (h.1 k hk).2 (by omega)
  unfold St.mid
  omega

/-- The rounds of 'norm' end with differing leading bytes. -/
theorem norm_spec (n lo hi : Nat) (hl : lo ≤ hi) (hh : hi < 4294967296) (hlo : lo % 256 ^ (4 - n) = 0) (hhi : hi % 256 ^ (4 - n) = 256 ^ (4 - n) - 1) (hn : n ≤ 4) :
    (norm n lo hi).2.1 / 16777216 < (norm n lo hi).2.2 / 16777216 ∧ (norm n lo hi).2.2 < 4294967296 := by
  induction n generalizing lo hi with
  | zero =>
    simp only [norm]
    have e : (256 : Nat) ^ (4 - 0) = 4294967296 := rfl
    rw [e] at hlo hhi
    omega
  | succ n ih =>
    simp only [norm]
    split
    · rename_i heq
      refine ih _ _ ?_ ?_ ?_ ?_ (by omega)
      · omega
      · omega
      · rcases (by omega : n = 0 ∨ n = 1 ∨ n = 2 ∨ n = 3) with rfl | rfl | rfl | rfl <;> simp only [show (256 : Nat) ^ (4 - (0 + 1)) = 16777216 from rfl, show (256 : Nat) ^ (4 - (1 + 1)) = 65536 from rfl, show (256 : Nat) ^ (4 - (2 + 1)) = 256 from rfl, show (256 : Nat) ^ (4 - (3 + 1)) = 1 from rfl, show (256 : Nat) ^ (4 - 0) = 4294967296 from rfl] at * <;> omega
      · rcases (by omega : n = 0 ∨ n = 1 ∨ n = 2 ∨ n = 3) with rfl | rfl | rfl | rfl <;> simp only [show (256 : Nat) ^ (4 - (0 + 1)) = 16777216 from rfl, show (256 : Nat) ^ (4 - (1 + 1)) = 65536 from rfl, show (256 : Nat) ^ (4 - (2 + 1)) = 256 from rfl, show (256 : Nat) ^ (4 - (3 + 1)) = 1 from rfl, show (256 : Nat) ^ (4 - 0) = 4294967296 from rfl] at * <;> omega
    · refine ⟨?_, hh⟩
      show lo / 16777216 < hi / 16777216
      omega

theorem norm_spec4 (lo hi : Nat) (hl : lo ≤ hi) (hh : hi < 4294967296) :
    (norm 4 lo hi).2.1 / 16777216 < (norm 4 lo hi).2.2 / 16777216 ∧ (norm 4 lo hi).2.2 < 4294967296 :=
  norm_spec 4 lo hi hl hh (Nat.mod_one _) (by simp [Nat.mod_one]) (Nat.le_refl _)

theorem setp_ok {p : Nat → Nat} {k v : Nat} (h : ∀ i, i < 256 → 15 ≤ p i ∧ p i ≤ 4081) (hv : 15 ≤ v ∧ v ≤ 4081) : ∀ i, i < 256 → 15 ≤ setp p k v i ∧ setp p k v i ≤ 4081 := by
  intro i hi
  unfold setp
  split
  · exact hv
  · exact h i hi

theorem St.Ok.step {s : St} (h : s.Ok) {k b : Nat} (hk : k < 256) {m : Nat} (h1 : s.lo ≤ m) (h2 : m < s.hi) : (s.step k m b).2.Ok := by
  have hn := norm_spec4 (nlo s.lo m b) (nhi s.hi m b) (by unfold nlo nhi; split <;> omega) (by have := h.2.2; unfold nhi; split <;> omega)
  exact ⟨setp_ok h.1 (upd_ok (h.1 k hk).1 (h.1 k hk).2), hn.1, hn.2⟩

/-- The coder before the first bit. -/
def St.init : St := ⟨fun _ => 2048, 0, 4294967295⟩
theorem St.init_ok : St.init.Ok := ⟨fun _ _ => by simp [St.init], by simp [St.init], by simp [St.init]⟩

/-- The bits of a byte, the high ones first: 'i' bits are left, the context is c. -/
def encBits : Nat → Nat → Nat → St → List Nat × St
  | 0, _, _, s => ([], s)
  | i + 1, c, x, s =>
    let b := x / 2 ^ i % 2
    let r := s.step c (s.mid c) b
    let q := encBits i (2 * c + b) x r.2
    (r.1 ++ q.1, q.2)

def encBytes : List Nat → St → List Nat × St
  | [], s => ([], s)
  | x :: l, s =>
    let r := encBits 8 1 x s
    let q := encBytes l r.2
    (r.1 ++ q.1, q.2)

def flush (lo : Nat) : List Nat := [lo / 16777216 % 256, lo / 65536 % 256, lo / 256 % 256, lo % 256]

/-- The digits of a length. -/
def lenF : Nat → Nat → List Nat
  | 0, n => [n]
  | f + 1, n => if 128 ≤ n then (n % 128 + 128) :: lenF f (n / 128) else [n]
def len (n : Nat) : List Nat := lenF 20 n

def body (xs : List Nat) : List Nat := if xs = [] then [] else (encBytes xs St.init).1 ++ flush (encBytes xs St.init).2.lo
def enc (xs : List Nat) : List Nat := len xs.length ++ body xs

/-- Four bytes of a stream. -/
def win (r : Nat → Nat) (i : Nat) : Nat := r i * 16777216 + r (i + 1) * 65536 + r (i + 2) * 256 + r (i + 3)

/-- The bit that the stream says. -/
def bitOf (r : Nat → Nat) (s : St) (c i : Nat) : Nat := if win r i ≤ s.mid c then 1 else 0

/-- So many rounds, each of which adds a bit to the context. -/
def rounds {σ : Type} (f : Nat → σ → Nat × σ) : Nat → Nat → σ → Nat × σ
  | 0, c, x => (c, x)
  | n + 1, c, x => rounds f n (2 * c + (f c x).1) (f c x).2
theorem rounds_succ' {σ : Type} (f : Nat → σ → Nat × σ) (n c : Nat) (x : σ) {b : Nat} {y : σ} (h : f c x = (b, y)) : rounds f (n + 1) c x = rounds f n (2 * c + b) y := by
  rw [rounds, h]

/-- One round of the decoder: the coder, the place in the stream. -/
def decStep (r : Nat → Nat) (c : Nat) (x : St × Nat) : Nat × (St × Nat) :=
  (bitOf r x.1 c x.2, (x.1.step c (x.1.mid c) (bitOf r x.1 c x.2)).2, x.2 + (x.1.step c (x.1.mid c) (bitOf r x.1 c x.2)).1.length)

def decBits (r : Nat → Nat) (n c : Nat) (s : St) (i : Nat) : Nat × (St × Nat) := rounds (decStep r) n c (s, i)

/-- So many bytes. -/
def bytes {σ : Type} (f : σ → Nat × σ) : Nat → σ → List Nat
  | 0, _ => []
  | n + 1, x => ((f x).1 % 256) :: bytes f n (f x).2
theorem bytes_len {σ : Type} (f : σ → Nat × σ) (n : Nat) (x : σ) : (bytes f n x).length = n := by
  induction n generalizing x with
  | zero => rfl
  | succ n ih => simp [bytes, ih]
theorem bytes_lt {σ : Type} (f : σ → Nat × σ) (n : Nat) (x : σ) : ∀ b ∈ bytes f n x, b < 256 := by
  induction n generalizing x with
  | zero => simp [bytes]
  | succ n ih =>
    intro b hb
    simp only [bytes, List.mem_cons] at hb
    rcases hb with rfl | hb
    · omega
    · exact ih _ b hb
theorem bytes_succ {σ : Type} (f : σ → Nat × σ) (n : Nat) (x : σ) {b : Nat} {y : σ} (h : f x = (b, y)) : bytes f (n + 1) x = (b % 256) :: bytes f n y := by
  rw [bytes, h]

def decBytes (r : Nat → Nat) (n : Nat) (s : St) (i : Nat) : List Nat := bytes (fun x : St × Nat => decBits r 8 1 x.1 x.2) n (s, i)

def stream (l : List Nat) (i : Nat) : Nat := l.getD i 0
def dec (n : Nat) (l : List Nat) : List Nat := decBytes (stream l) n St.init 0

theorem xor_top (a b : Nat) : (a ^^^ b) / 16777216 = 0 ↔ a / 16777216 = b / 16777216 := by
  have e : (16777216 : Nat) = 2 ^ 24 := rfl
  rw [e, ← Nat.shiftRight_eq_div_pow, ← Nat.shiftRight_eq_div_pow, ← Nat.shiftRight_eq_div_pow, Nat.shiftRight_xor_distrib]
  constructor
  · intro h
    have h2 : (a >>> 24 ^^^ b >>> 24) ^^^ b >>> 24 = b >>> 24 := by rw [h]; simp
    rw [Nat.xor_assoc, Nat.xor_self, Nat.xor_zero] at h2
    exact h2
  · intro h
    rw [h, Nat.xor_self]
theorem norm_go {n lo hi : Nat} {done T : List Nat} {F : Nat × Nat} (h1 : done ++ (norm n lo hi).1 = T) (h2 : (norm n lo hi).2 = F) (hF : F.1 / 16777216 < F.2 / 16777216) (heq : lo / 16777216 = hi / 16777216) :
    ∃ n', n' + 1 = n ∧ (done ++ [hi / 16777216]) ++ (norm n' (lo * 256 % 4294967296) (hi * 256 % 4294967296 + 255)).1 = T ∧ (norm n' (lo * 256 % 4294967296) (hi * 256 % 4294967296 + 255)).2 = F := by
  cases n with
  | zero =>
    simp only [norm] at h2
    subst h2
    simp only at hF
    omega
  | succ n =>
    refine ⟨n, rfl, ?_, ?_⟩
    · rw [← h1]; simp [norm, heq]
    · rw [← h2]; simp [norm, heq]
theorem norm_stop {n lo hi : Nat} (hne : ¬ lo / 16777216 = hi / 16777216) : norm n lo hi = ([], lo, hi) := by
  cases n <;> simp [norm, hne]
theorem or_255 (x : Nat) : x * 256 % 4294967296 ||| 255 = x * 256 % 4294967296 + 255 := by
  have h : x * 256 % 4294967296 = 2 ^ 8 * (x % 16777216) := by omega
  rw [h, ← Nat.two_pow_add_eq_or_of_lt (by omega)]

/-- The context while so many bits of the byte are left. -/
def CtxOk (m c : Nat) : Prop := 1 ≤ c ∧ c < 2 ^ (9 - m) ∧ m ≤ 8
theorem CtxOk.init : CtxOk 8 1 := ⟨by omega, by decide, by omega⟩
theorem CtxOk.lt {m c : Nat} (h : CtxOk (m + 1) c) : c < 256 := by
  have h1 : 2 ^ (9 - (m + 1)) ≤ 2 ^ 8 := Nat.pow_le_pow_right (by omega) (by omega)
  have := h.2.1
  omega
theorem CtxOk.next {m c b : Nat} (h : CtxOk (m + 1) c) (hb : b ≤ 1) : CtxOk m (2 * c + b) := by
  obtain ⟨h1, h2, h3⟩ := h
  have e : 9 - m = (9 - (m + 1)) + 1 := by omega
  refine ⟨by omega, ?_, by omega⟩
  rw [e, Nat.pow_succ]
  omega
theorem CtxOk.lt' {m c : Nat} (h : CtxOk m c) : c < 512 := by
  have h1 : 2 ^ (9 - m) ≤ 2 ^ 9 := Nat.pow_le_pow_right (by omega) (by omega)
  have := h.2.1
  omega

theorem encBits_succ (i c x : Nat) (s : St) : encBits (i + 1) c x s =
    ((s.step c (s.mid c) (x / 2 ^ i % 2)).1 ++ (encBits i (2 * c + x / 2 ^ i % 2) x (s.step c (s.mid c) (x / 2 ^ i % 2)).2).1, (encBits i (2 * c + x / 2 ^ i % 2) x (s.step c (s.mid c) (x / 2 ^ i % 2)).2).2) := rfl

/-- One bit more. -/
theorem enc_bit {m c x : Nat} {s F : St} {out T : List Nat} (h : out ++ (encBits (m + 1) c x s).1 = T ∧ (encBits (m + 1) c x s).2 = F) {b : Nat} (hb : x / 2 ^ m % 2 = b) :
    (out ++ (s.step c (s.mid c) b).1) ++ (encBits m (2 * c + b) x (s.step c (s.mid c) b).2).1 = T ∧ (encBits m (2 * c + b) x (s.step c (s.mid c) b).2).2 = F := by
  subst hb
  rw [encBits_succ] at h
  simpa using h

theorem enc_byte {x : Nat} {l : List Nat} {s F : St} {out T : List Nat} (h : out ++ (encBytes (x :: l) s).1 = T ∧ (encBytes (x :: l) s).2 = F) :
    (out ++ (encBits 8 1 x s).1) ++ (encBytes l (encBits 8 1 x s).2).1 = T ∧ (encBytes l (encBits 8 1 x s).2).2 = F := by
  simpa [encBytes] using h

theorem norm_len (n lo hi : Nat) : (norm n lo hi).1.length ≤ n := by
  induction n generalizing lo hi with
  | zero => simp [norm]
  | succ n ih =>
    simp only [norm]
    split
    · simpa using ih _ _
    · simp

theorem step_len (s : St) (k m b : Nat) : (s.step k m b).1.length ≤ 4 := norm_len 4 _ _

theorem lenF_go {k n N : Nat} {done : List Nat} (h : done ++ lenF k n = len N ∧ n < 128 ^ (k + 1)) (hn : 128 ≤ n) : ∃ k', k' + 1 = k ∧ (done ++ [n % 128 + 128]) ++ lenF k' (n / 128) = len N ∧ n / 128 < 128 ^ (k' + 1) := by
  cases k with
  | zero => have := h.2; simp at this; omega
  | succ k =>
    refine ⟨k, rfl, ?_, ?_⟩
    · rw [← h.1, lenF, if_pos hn]; simp
    · have := h.2
      rw [Nat.pow_succ] at this
      exact Nat.div_lt_of_lt_mul (by rw [Nat.mul_comm]; exact this)
theorem lenF_stop {k n N : Nat} {done : List Nat} (h : done ++ lenF k n = len N ∧ n < 128 ^ (k + 1)) (hn : ¬ 128 ≤ n) : done ++ [n] = len N := by
  rw [← h.1]
  cases k <;> simp [lenF, hn]
theorem lenF_len (k n : Nat) : (lenF k n).length ≤ k + 1 := by
  induction k generalizing n with
  | zero => simp [lenF]
  | succ k ih =>
    rw [lenF]
    split
    · simpa using ih _
    · simp
theorem len_len (n : Nat) : (len n).length ≤ 21 := lenF_len 20 n

/-- The last bytes: so many are left. -/
def flushN : Nat → Nat → List Nat
  | 0, _ => []
  | n + 1, lo => (lo / 2 ^ (8 * n) % 256) :: flushN n lo
theorem flushN_4 (lo : Nat) : flushN 4 lo = flush lo := by simp [flushN, flush]

/-- The decoder's four bytes behind so many reads. -/
def val (r : Nat → Nat) : Nat → Nat
  | 0 => 0
  | j + 1 => val r j * 256 % 4294967296 + r j
theorem stream_lt {l : List Nat} (h : ∀ x ∈ l, x < 256) (i : Nat) : stream l i < 256 := by
  unfold stream
  rw [List.getD_eq_getElem?_getD]
  cases hi : l[i]? with
  | none => simp
  | some x => exact h x (List.mem_of_getElem? hi)
theorem val_lt {r : Nat → Nat} (h : ∀ i, r i < 256) (j : Nat) : val r j < 4294967296 := by
  induction j with
  | zero => simp [val]
  | succ j ih => have := h j; simp only [val]; omega
theorem val_win {r : Nat → Nat} (h : ∀ i, r i < 256) (j : Nat) : val r (j + 4) = win r j := by
  have h0 := val_lt h j
  have h1 := h j
  have h2 := h (j + 1)
  have h3 := h (j + 2)
  have h4 := h (j + 3)
  simp only [val, win]
  omega
theorem or_byte (v x : Nat) (hx : x < 256) : v * 256 % 4294967296 ||| x = v * 256 % 4294967296 + x := by
  have h : v * 256 % 4294967296 = 2 ^ 8 * (v % 16777216) := by omega
  rw [h, ← Nat.two_pow_add_eq_or_of_lt (by omega)]

/-- The length at the head of a message: the error, the length, the number of its digits. -/
def parseF : Nat → List Nat → Nat → Nat → Nat → Nat × Nat × Nat
  | 0, _, _, _, _ => (7, 0, 0)
  | f + 1, l, i, n, sc =>
    if i < l.length then
      if 128 ≤ l.getD i 0 then parseF f l (i + 1) (n + l.getD i 0 % 128 * sc) (sc * 128)
      else if l.getD i 0 = 0 ∧ 0 < i then (8, 0, 0)
      else if 4000 < n + l.getD i 0 % 128 * sc then (2, 0, 0)
      else (0, n + l.getD i 0 % 128 * sc, i + 1)
    else (7, 0, 0)
def parse (l : List Nat) : Nat × Nat × Nat := parseF 5 l 0 0 1

theorem pow_bound {i : Nat} (h : i < 5) : 128 ^ i ≤ 268435456 ∧ 1 ≤ 128 ^ i := by
  rcases (by omega : i = 0 ∨ i = 1 ∨ i = 2 ∨ i = 3 ∨ i = 4) with rfl | rfl | rfl | rfl | rfl <;> decide
theorem digit_bound {x sc : Nat} (h : sc ≤ 268435456) : x % 128 * sc ≤ 34091302912 := by
  have h1 : x % 128 * sc ≤ 127 * sc := Nat.mul_le_mul_right _ (by omega)
  omega
theorem digit_lt {n x i : Nat} (h : n < 128 ^ i) : n + x % 128 * 128 ^ i < 128 ^ (i + 1) := by
  have h1 : x % 128 * 128 ^ i ≤ 127 * 128 ^ i := Nat.mul_le_mul_right _ (by omega)
  rw [Nat.pow_succ]
  omega

theorem CtxOk.ge_init : 2 ^ (8 - 8) ≤ 1 := by decide
theorem ge_next {m c b : Nat} (hm : m + 1 ≤ 8) (h : 2 ^ (8 - (m + 1)) ≤ c) : 2 ^ (8 - m) ≤ 2 * c + b := by
  rw [show 8 - m = (8 - (m + 1)) + 1 from by omega, Nat.pow_succ]
  omega

theorem parseF_le (f : Nat) (l : List Nat) (i n sc : Nat) (h : (parseF f l i n sc).1 = 0) : (parseF f l i n sc).2.1 ≤ 4000 := by
  induction f generalizing i n sc with
  | zero => simp [parseF] at h
  | succ f ih =>
    rw [parseF] at h ⊢
    split at h
    · rename_i h1
      rw [if_pos h1]
      split at h
      · rename_i h2
        rw [if_pos h2]
        exact ih _ _ _ h
      · rename_i h2
        rw [if_neg h2]
        split at h
        · cases h
        · rename_i h3
          rw [if_neg h3]
          split at h
          · cases h
          · rename_i h4
            rw [if_neg h4]
            show n + l.getD i 0 % 128 * sc ≤ 4000
            omega
    · cases h
theorem parse_le {l : List Nat} (h : (parse l).1 = 0) : (parse l).2.1 ≤ 4000 := by
  unfold parse at *
  exact parseF_le _ _ _ _ _ h

/-- What Decode returns. -/
def decOut (l : List Nat) : List Nat := dec (parse l).2.1 (l.drop (parse l).2.2)
def decodeR (l : List Nat) : Nat × List Nat := if (parse l).1 ≠ 0 then ((parse l).1, []) else if enc (decOut l) = l then (0, decOut l) else (8, [])

theorem decBits_succ (r : Nat → Nat) (n c : Nat) (s : St) (i : Nat) {b : Nat} (hb : bitOf r s c i = b) :
    decBits r (n + 1) c s i = decBits r n (2 * c + b) (s.step c (s.mid c) b).2 (i + (s.step c (s.mid c) b).1.length) := by
  subst hb
  unfold decBits
  exact rounds_succ' _ _ _ _ rfl

theorem decBytes_len (r : Nat → Nat) (n : Nat) (s : St) (i : Nat) : (decBytes r n s i).length = n := bytes_len _ _ _
theorem decBytes_lt (r : Nat → Nat) (n : Nat) (s : St) (i : Nat) : ∀ x ∈ decBytes r n s i, x < 256 := bytes_lt _ _ _
theorem decBytes_succ (r : Nat → Nat) (n : Nat) (s : St) (i : Nat) {c : Nat} {s' : St} {i' : Nat} (h : decBits r 8 1 s i = (c, s', i')) : decBytes r (n + 1) s i = (c % 256) :: decBytes r n s' i' := by
  unfold decBytes
  exact bytes_succ _ _ _ h
theorem decBytes_zero (r : Nat → Nat) (s : St) (i : Nat) : decBytes r 0 s i = [] := rfl
theorem decOut_len (l : List Nat) : (decOut l).length = (parse l).2.1 := decBytes_len _ _ _ _
theorem decOut_lt (l : List Nat) : ∀ x ∈ decOut l, x < 256 := decBytes_lt _ _ _ _

theorem set_next (ds : List Nat) (n x : Nat) : (ds ++ List.replicate (n + 1) 0).set ds.length x = (ds ++ [x]) ++ List.replicate n 0 := by
  rw [List.replicate_succ, List.set_append_right _ _ (Nat.le_refl _)]
  simp

theorem encBits_len (i c x : Nat) (s : St) : (encBits i c x s).1.length ≤ 4 * i := by
  induction i generalizing c s with
  | zero => simp [encBits]
  | succ i ih =>
    rw [encBits_succ]
    have h1 := step_len s c (s.mid c) (x / 2 ^ i % 2)
    have h2 := ih (2 * c + x / 2 ^ i % 2) (s.step c (s.mid c) (x / 2 ^ i % 2)).2
    simp only [List.length_append]
    omega
theorem encBytes_len (l : List Nat) (s : St) : (encBytes l s).1.length ≤ 32 * l.length := by
  induction l generalizing s with
  | nil => simp [encBytes]
  | cons x l ih =>
    have h1 := encBits_len 8 1 x s
    have h2 := ih (encBits 8 1 x s).2
    simp only [encBytes, List.length_append, List.length_cons]
    omega
theorem enc_len_le (xs : List Nat) : (enc xs).length ≤ 25 + 32 * xs.length := by
  have h1 := len_len xs.length
  have h2 := encBytes_len xs St.init
  unfold enc body
  split
  · simp; omega
  · simp [flush]; omega
end Go.Proofs.Ytcoaopaiipkcpaa.Rc
