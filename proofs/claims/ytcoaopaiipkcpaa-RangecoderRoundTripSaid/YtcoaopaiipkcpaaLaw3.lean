/- RangecoderRoundTrip and RangecoderSize, walked. -/
import Derived.Test.YtcoaopaiipkcpaaLaw2
import Derived.Test.YtcoaopaiipkcpaaMsg
import Derived.Test.YtcoaopaiipkcpaaRange
namespace Go.Proofs.Ytcoaopaiipkcpaa
open Go.RowKit Rc

set_option maxHeartbeats 2000000 in
set_option maxRecDepth 100000 in
theorem trip_calls (v1 v2 : Value) (xs : List Nat) (zs : List Int) (w : World) (h1 : Reads w v1 (u8s xs)) (h2 : Reads w v2 (zs.map (Value.int .i64))) (hx : ∀ x ∈ xs, x < 256) (hz : ∀ x ∈ zs, -9223372036854775808 ≤ x ∧ x ≤ 9223372036854775807) (l1 : xs.length ≤ 9223372036854775807) (l2 : zs.length ≤ 9223372036854775807) :
    Calls Try.prog 4 #[v1, v2] w fun e w' => e = .returned (.bool true) ∧ Below w.heap.size w w' := by
  obtain ⟨y, hye⟩ : ∃ y, y = xs.take 200 := ⟨_, rfl⟩
  have hy8 : ∀ b ∈ y, b < 256 := by rw [hye]; exact take_lt hx 200
  have hyl : y.length ≤ 200 := by rw [hye]; exact take_len xs 200
  have HY := Lib.hid hye
  have HZ := Lib.hid hz
  clear hye hx hz
  go_enter Try.func4, Try.ntmps4
  go_wp2_with fail
  refine (msg_calls v2 zs w h2 HZ.out l2).mono ?_
  rintro e w1 ⟨m, A1, c1, rfl, o1, b1, hm8, hml⟩
  have s1 := b1.size
  go_wp2_with fail
  refine (few_named v1 xs y 200 HY.out w1 (h1.below b1) l1 (by omega)).mono ?_
  rintro e w2 ⟨A2, c2, rfl, o2, b2⟩
  have B2 := b1.trans (b2.mono s1)
  have s2 := B2.size
  have o12 := o1.below' b2
  have r2 := o2.reads
  clear o1 b1 b2 o2
  obtain ⟨x, hxe⟩ : ∃ x, x = m ++ y := ⟨_, rfl⟩
  have hx8 : ∀ b ∈ x, b < 256 := by
    rw [hxe]; intro b hb
    rcases List.mem_append.1 hb with h | h
    · exact hm8 b h
    · exact hy8 b h
  have hxl : x.length ≤ 500 := by rw [hxe, List.length_append]; omega
  have HX := Lib.hid hxe
  clear hxe
  go_wp2_with (first
    | (at_builtin; refine wpList_appends elem_u8 rfl (.tmp 9) (.tmp 11) rfl w.heap.size (.slice A1 m.length c1) _ _ rfl o12 (.slice A2 y.length c2) (u8s y) rfl r2 (u8s_one _) (by rw [u8s_length]; omega) (by rw [u8s_length]; omega) s2 ?_; intro v3 w3 h3 g3 q3; have o3 : OwnB 5 w3 w.heap.size v3 x := (by rw [HX.out]; unfold OwnB; rw [List.length_append, u8s_append]; simpa [u8s_length] using h3); have B3 : Below w.heap.size w w3 := B2.grown g3 s2 (fun k hk => (World.ownsRow.lt o12 k hk).1); have s3 := B3.size; obtain ⟨A3, c3, rfl⟩ := own_slice o3; clear h3 g3 q3 o12 r2)
    | fail)
  have r3 := o3.reads
  refine (enc_named A3 c3 x (enc x) rfl w3 r3 hx8 (by omega)).mono ?_
  rintro e w4 ⟨A4, c4, rfl, o4, b4⟩
  have B4 := B3.trans (b4.mono s3)
  have s4 := B4.size
  have r34 := r3.below b4
  have r4 := o4.reads
  clear o3 o4 b4
  go_wp2_with fail
  refine (dec_named _ (enc x) 0 x (decode_enc hx8 (by omega)) w4 r4 (enc_bytes (by omega)) (by have := enc_len_le x; omega)).mono ?_
  rintro e w5 ⟨A5, c5, rfl, o5, b5⟩
  have B5 := B4.trans (b5.mono s4)
  have s5 := B5.size
  have r35 := r34.below b5
  have r5 := o5.reads
  clear o5 b5
  go_wp2_with fail
  refine (same_calls_b _ _ x x true (by simp) w5 r35 r5 (by omega) (by omega)).mono ?_
  rintro e w6 ⟨rfl, b6⟩
  have B6 := B5.trans (b6.mono s5)
  have s6 := B6.size
  go_wp2_with fail
  refine (lives_named w6).mono ?_
  rintro e w12 ⟨rfl, b12⟩
  have B12 := B6.trans (b12.mono s6)
  go_wp2_with fail
  go_ret
  exact ⟨rfl, B12⟩

set_option maxHeartbeats 2000000 in
set_option maxRecDepth 100000 in
theorem size_calls (v1 : Value) (xs : List Nat) (hS : ∀ x : List Nat, (∀ b ∈ x, b < 256) → x.length ≤ 300 → (enc x).length ≤ 6 + 12 * x.length) (w : World) (h1 : Reads w v1 (u8s xs)) (hx : ∀ x ∈ xs, x < 256) (l1 : xs.length ≤ 9223372036854775807) :
    Calls Try.prog 8 #[v1] w fun e w' => e = .returned (.bool true) ∧ Below w.heap.size w w' := by
  obtain ⟨x, hxe⟩ : ∃ x, x = xs.take 300 := ⟨_, rfl⟩
  have hx8 : ∀ b ∈ x, b < 256 := by rw [hxe]; exact take_lt hx 300
  have hxl : x.length ≤ 300 := by rw [hxe]; exact take_len xs 300
  have HX := Lib.hid hxe
  obtain ⟨p, hpe⟩ : ∃ p, p = enc x := ⟨_, rfl⟩
  have hps : p.length ≤ 6 + 12 * x.length := by rw [hpe]; exact hS x hx8 hxl
  obtain ⟨q, hqe⟩ : ∃ q, q = len x.length := ⟨_, rfl⟩
  have hql : q.length ≤ p.length := by rw [hpe, hqe, enc, List.length_append]; omega
  have hpq : p.take q.length = q := by rw [hpe, hqe, enc, List.take_left]
  have HP := Lib.hid hpe
  have HQ := Lib.hid hqe
  have HPQ := Lib.hid hpq
  have hpd : ((q.length : Int)) ≤ p.length := by omega
  have hps' : (p.length : Int) ≤ 6 + 12 * x.length := by omega
  clear hxe hx hpe hqe hpq hS
  go_enter Try.func8, Try.ntmps8
  go_wp2_with fail
  refine (few_named v1 xs x 300 HX.out w h1 l1 (by omega)).mono ?_
  rintro e w1 ⟨A1, c1, rfl, o1, b1⟩
  have s1 := b1.size
  go_wp2_with fail
  refine (enc_named A1 c1 x p HP.out w1 o1.reads hx8 (by omega)).mono ?_
  rintro e w2 ⟨A2, c2, rfl, o2, b2⟩
  have B2 := b1.trans (b2.mono s1)
  have s2 := B2.size
  have r2 := o2.reads
  have hpc : p.length ≤ c2 := by obtain ⟨_, _, hv, hc, _⟩ := r2; injection hv with e1 e2 e3; rw [u8s_length] at hc; omega
  have hqc : q.length ≤ c2 := by omega
  clear o1 b1 b2 o2
  go_wp2_with fail
  refine (reflen_calls x.length w2 (by omega)).mono ?_
  rintro e w3 ⟨v3, rfl, o3, b3⟩
  rw [← HQ.out] at o3
  obtain ⟨A3, c3, rfl⟩ := own_slice o3
  have B3 := B2.trans (b3.mono s2)
  have s3 := B3.size
  have r23 := r2.below b3
  have r3 := o3.reads
  have rk : Reads w3 (.slice A2 q.length c2) (u8s q) := by
    have := r23.take q.length (by rw [u8s_length]; omega)
    rw [show (u8s p).take q.length = u8s (p.take q.length) from by simp [u8s], HPQ.out] at this
    exact this
  clear o3 b3 r2 r23
  go_wp2_with fail
  refine (same_calls_b _ _ q q true (by simp) w3 rk r3 (by omega) (by omega)).mono ?_
  rintro e w6 ⟨rfl, b6⟩
  have B6 := B3.trans (b6.mono s3)
  have s6 := B6.size
  go_wp2_with fail
  refine (lives_named w6).mono ?_
  rintro e w12 ⟨rfl, b12⟩
  have B12 := B6.trans (b12.mono s6)
  go_wp2_with fail
  go_ret
  exact ⟨rfl, B12⟩
end Go.Proofs.Ytcoaopaiipkcpaa
