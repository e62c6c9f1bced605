/- RangecoderModel, walked. -/
import Derived.Test.YtcoaopaiipkcpaaLaw2
import Derived.Test.YtcoaopaiipkcpaaMsg
import Derived.Test.YtcoaopaiipkcpaaRefEnc
namespace Go.Proofs.Ytcoaopaiipkcpaa
open Go.RowKit Rc

/-- refenc_calls, its outcome named. -/
theorem refenc_named (A : Option Addr) (cap : Nat) (xs p : List Nat) (hp : p = enc xs) (w : World) (hr : Reads w (.slice A xs.length cap) (u8s xs)) (hx : ∀ x ∈ xs, x < 256) (hl : xs.length ≤ 10000) :
    Calls Try.prog 15 #[.slice A xs.length cap] w fun e w' => ∃ A' c', e = .returned (.slice A' p.length c') ∧ OwnB 5 w' w.heap.size (.slice A' p.length c') p ∧ Below w.heap.size w w' := by
  subst hp
  refine (refenc_calls A cap xs w hr hx hl).mono ?_
  rintro e w' ⟨v', rfl, ho, hb⟩
  obtain ⟨A', c', rfl⟩ := own_slice ho
  exact ⟨A', c', rfl, ho, hb⟩

set_option maxHeartbeats 2000000 in
set_option maxRecDepth 100000 in
theorem model_calls (v1 v2 : Value) (xs : List Nat) (zs : List Int) (w : World) (h1 : Reads w v1 (u8s xs)) (h2 : Reads w v2 (zs.map (Value.int .i64))) (hx : ∀ x ∈ xs, x < 256) (hz : ∀ x ∈ zs, -9223372036854775808 ≤ x ∧ x ≤ 9223372036854775807) (l1 : xs.length ≤ 9223372036854775807) (l2 : zs.length ≤ 9223372036854775807) :
    Calls Try.prog 3 #[v1, v2] w fun e w' => e = .returned (.bool true) ∧ Below w.heap.size w w' := by
  obtain ⟨x, hxe⟩ : ∃ x, x = xs.take 60 := ⟨_, rfl⟩
  have hx8 : ∀ b ∈ x, b < 256 := by rw [hxe]; exact take_lt hx 60
  have hxl : x.length ≤ 60 := by rw [hxe]; exact take_len xs 60
  have HX := Lib.hid hxe
  have HZ := Lib.hid hz
  obtain ⟨p, hpe⟩ : ∃ p, p = enc x := ⟨_, rfl⟩
  have hpl : p.length ≤ 2000 := by rw [hpe]; have := enc_len_le x; omega
  have HP := Lib.hid hpe
  clear hxe hx hz hpe
  go_enter Try.func3, Try.ntmps3
  go_wp2_with fail
  refine (few_named v1 xs x 60 HX.out w h1 l1 (by omega)).mono ?_
  rintro e w1 ⟨A1, c1, rfl, o1, b1⟩
  have s1 := b1.size
  have r1 := o1.reads
  clear o1
  go_wp2_with fail
  refine (msg_calls v2 zs w1 (h2.below b1) HZ.out l2).mono ?_
  rintro e w2 ⟨m, A2, c2, rfl, o2, b2, hm8, hml⟩
  have B2 := b1.trans (b2.mono s1)
  have s2 := B2.size
  have r12 := r1.below b2
  have r2 := o2.reads
  obtain ⟨q, hqe⟩ : ∃ q, q = enc m := ⟨_, rfl⟩
  have hql : q.length ≤ 10000 := by rw [hqe]; have := enc_len_le m; omega
  have HQ := Lib.hid hqe
  clear r1 o2 b1 b2 hqe
  go_wp2_with fail
  refine (enc_named A1 c1 x p HP.out w2 r12 hx8 (by omega)).mono ?_
  rintro e w3 ⟨A3, c3, rfl, o3, b3⟩
  have B3 := B2.trans (b3.mono s2)
  have s3 := B3.size
  have r13 := r12.below b3
  have r23 := r2.below b3
  have r3 := o3.reads
  clear r12 r2 o3 b3
  go_wp2_with fail
  refine (refenc_named A1 c1 x p HP.out w3 r13 hx8 (by omega)).mono ?_
  rintro e w4 ⟨A4, c4, rfl, o4, b4⟩
  have B4 := B3.trans (b4.mono s3)
  have s4 := B4.size
  have r24 := r23.below b4
  have r34 := r3.below b4
  have r4 := o4.reads
  clear r13 r23 r3 o4 b4
  go_wp2_with fail
  refine (same_calls_b _ _ p p true (by simp) w4 r34 r4 (by omega) (by omega)).mono ?_
  rintro e w5 ⟨rfl, b5⟩
  have B5 := B4.trans (b5.mono s4)
  have s5 := B5.size
  have r25 := r24.below b5
  clear r24 r34 r4 b5
  go_wp2_with fail
  refine (enc_named A2 c2 m q HQ.out w5 r25 hm8 (by omega)).mono ?_
  rintro e w6 ⟨A6, c6, rfl, o6, b6⟩
  have B6 := B5.trans (b6.mono s5)
  have s6 := B6.size
  have r26 := r25.below b6
  have r6 := o6.reads
  clear r25 o6 b6
  go_wp2_with fail
  refine (refenc_named A2 c2 m q HQ.out w6 r26 hm8 (by omega)).mono ?_
  rintro e w7 ⟨A7, c7, rfl, o7, b7⟩
  have B7 := B6.trans (b7.mono s6)
  have s7 := B7.size
  have r67 := r6.below b7
  have r7 := o7.reads
  clear r26 r6 o7 b7
  go_wp2_with fail
  refine (same_calls_b _ _ q q true (by simp) w7 r67 r7 (by omega) (by omega)).mono ?_
  rintro e w8 ⟨rfl, b8⟩
  have B8 := B7.trans (b8.mono s7)
  have s8 := B8.size
  go_wp2_with fail
  refine (lives_named w8).mono ?_
  rintro e w12 ⟨rfl, b12⟩
  have B12 := B8.trans (b12.mono s8)
  go_wp2_with fail
  go_ret
  exact ⟨rfl, B12⟩
end Go.Proofs.Ytcoaopaiipkcpaa
