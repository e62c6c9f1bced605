/- How long an encoding is. -/
import Derived.Test.YtcoaopaiipkcpaaLaw
namespace Go.Proofs.Ytcoaopaiipkcpaa.Rc

def R (s : St) : Nat := s.hi - s.lo + 1

theorem norm_range (n : Nat) : ∀ (lo hi : Nat), lo ≤ hi → hi < 4294967296 → (norm n lo hi).2.2 - (norm n lo hi).2.1 + 1 = (hi - lo + 1) * 256 ^ (norm n lo hi).1.length := by
  induction n with
  | zero => intro lo hi _ _; simp [norm]
  | succ n ih =>
    intro lo hi h1 h2
    by_cases heq : lo / 16777216 = hi / 16777216
    · simp only [norm, if_pos heq, List.length_cons]
      rw [ih _ _ (by omega) (by omega), Nat.pow_succ, Nat.mul_comm (256 ^ _) 256, ← Nat.mul_assoc]
      congr 1
      omega
    · rw [norm_stop heq]; simp

theorem part_range {d p : Nat} (h1 : 15 ≤ p) (h2 : p ≤ 4081) (hd : 1 ≤ d) : d + 1 ≤ 4096 * (d / 4096 * p + 1) ∧ d + 1 ≤ 4096 * (d - d / 4096 * p) := by
  have a : d / 4096 * 15 ≤ d / 4096 * p := Nat.mul_le_mul_left _ h1
  have b : d / 4096 * p ≤ d / 4096 * 4081 := Nat.mul_le_mul_left _ h2
  omega

theorem step_range {s : St} (hs : s.Ok) {c b : Nat} (hc : c < 256) : R s * 256 ^ (s.step c (s.mid c) b).1.length ≤ 4096 * R (s.step c (s.mid c) b).2 := by
  have hm := St.mid_lt hs hc
  have hp := hs.1 c hc
  have hl := hs.lt
  have hh := hs.2.2
  have hr := norm_range 4 (nlo s.lo (s.mid c) b) (nhi s.hi (s.mid c) b) (by unfold nlo nhi; split <;> omega) (by unfold nhi; split <;> omega)
  have hpr := part_range (d := s.hi - s.lo) hp.1 hp.2 (by omega)
  have key : R s ≤ 4096 * (nhi s.hi (s.mid c) b - nlo s.lo (s.mid c) b + 1) := by
    unfold R nhi nlo
    by_cases hb : b = 1
    · rw [if_pos hb, if_pos hb]
      have : s.mid c - s.lo = (s.hi - s.lo) / 4096 * s.p c := by unfold St.mid; omega
      omega
    · rw [if_neg hb, if_neg hb]
      have : s.hi - (s.mid c + 1) + 1 = (s.hi - s.lo) - (s.hi - s.lo) / 4096 * s.p c := by
        have h2 : s.mid c - s.lo = (s.hi - s.lo) / 4096 * s.p c := by unfold St.mid; omega
        omega
      omega
  calc R s * 256 ^ (s.step c (s.mid c) b).1.length ≤ 4096 * (nhi s.hi (s.mid c) b - nlo s.lo (s.mid c) b + 1) * 256 ^ (s.step c (s.mid c) b).1.length := Nat.mul_le_mul_right _ key
    _ = 4096 * ((nhi s.hi (s.mid c) b - nlo s.lo (s.mid c) b + 1) * 256 ^ (s.step c (s.mid c) b).1.length) := Nat.mul_assoc _ _ _
    _ = 4096 * R (s.step c (s.mid c) b).2 := by
      unfold R
      rw [show (s.step c (s.mid c) b).1 = (norm 4 (nlo s.lo (s.mid c) b) (nhi s.hi (s.mid c) b)).1 from rfl, ← hr]
      rfl

theorem bits_range (m : Nat) : ∀ (c x : Nat) (s : St), CtxOk m c → s.Ok → R s * 256 ^ (encBits m c x s).1.length ≤ 4096 ^ m * R (encBits m c x s).2 := by
  induction m with
  | zero => intro c x s _ _; simp [encBits]
  | succ m ih =>
    intro c x s hc hs
    have hm := St.mid_lt hs hc.lt
    rw [encBits_succ]
    obtain ⟨b, hbe⟩ : ∃ b, b = x / 2 ^ m % 2 := ⟨_, rfl⟩
    rw [← hbe]
    have h1 := step_range (b := b) hs hc.lt
    have h2 := ih (2 * c + b) x (s.step c (s.mid c) b).2 (hc.next (by omega)) (hs.step hc.lt hm.1 hm.2)
    simp only [List.length_append]
    rw [Nat.pow_add, ← Nat.mul_assoc, Nat.pow_succ]
    have h3 := Nat.mul_le_mul_right (256 ^ (encBits m (2 * c + b) x (s.step c (s.mid c) b).2).1.length) h1
    have h4 := Nat.mul_le_mul_left 4096 h2
    calc _ ≤ _ := h3
      _ = 4096 * (R (s.step c (s.mid c) b).2 * 256 ^ (encBits m (2 * c + b) x (s.step c (s.mid c) b).2).1.length) := Nat.mul_assoc _ _ _
      _ ≤ _ := h4
      _ = _ := by rw [← Nat.mul_assoc, Nat.mul_comm 4096]

theorem bytes_range (l : List Nat) : ∀ (s : St), s.Ok → R s * 256 ^ (encBytes l s).1.length ≤ 4096 ^ (8 * l.length) * R (encBytes l s).2 := by
  induction l with
  | nil => intro s _; simp [encBytes]
  | cons x l ih =>
    intro s hs
    have h1 := bits_range 8 1 x s CtxOk.init hs
    have h2 := ih _ (encBits_ok 8 1 x s CtxOk.init hs)
    simp only [encBytes, List.length_append, List.length_cons]
    rw [Nat.pow_add, ← Nat.mul_assoc, Nat.mul_add, Nat.mul_one, Nat.pow_add]
    have h3 := Nat.mul_le_mul_right (256 ^ (encBytes l (encBits 8 1 x s).2).1.length) h1
    have h4 := Nat.mul_le_mul_left (4096 ^ 8) h2
    calc _ ≤ _ := h3
      _ = 4096 ^ 8 * (R (encBits 8 1 x s).2 * 256 ^ (encBytes l (encBits 8 1 x s).2).1.length) := Nat.mul_assoc _ _ _
      _ ≤ _ := h4
      _ = _ := by rw [← Nat.mul_assoc, Nat.mul_comm (4096 ^ 8)]

theorem encBytes_size (l : List Nat) : (encBytes l St.init).1.length ≤ 12 * l.length := by
  have h := bytes_range l St.init St.init_ok
  have hok := encBytes_ok l St.init St.init_ok
  have hR : R (encBytes l St.init).2 ≤ 4294967296 := by have := hok.2.2; unfold R; omega
  have h0 : R St.init = 4294967296 := rfl
  rw [h0] at h
  have h1 : 4294967296 * 256 ^ (encBytes l St.init).1.length ≤ 4294967296 * 4096 ^ (8 * l.length) := by
    rw [Nat.mul_comm 4294967296 (4096 ^ _)]
    exact Nat.le_trans h (Nat.mul_le_mul_left _ hR)
  have h2 := Nat.le_of_mul_le_mul_left h1 (by omega)
  have h3 : (4096 : Nat) ^ (8 * l.length) = 256 ^ (12 * l.length) := by
    rw [show (4096 : Nat) = 2 ^ 12 from rfl, show (256 : Nat) = 2 ^ 8 from rfl, ← Nat.pow_mul, ← Nat.pow_mul]
    congr 1
    omega
  rw [h3] at h2
  exact (Nat.pow_le_pow_iff_right (by omega)).1 h2

theorem len_small {n : Nat} (h : n < 16384) : (len n).length ≤ 2 := by
  unfold len
  rw [lenF]
  split
  · rw [lenF, if_neg (by omega)]; simp
  · simp

theorem enc_size (x : List Nat) (hl : x.length ≤ 300) : (enc x).length ≤ 6 + 12 * x.length := by
  have h1 := len_small (n := x.length) (by omega)
  have h2 := encBytes_size x
  unfold enc body
  split
  · simp; omega
  · simp [flush]; omega
end Go.Proofs.Ytcoaopaiipkcpaa.Rc
