/- RangecoderPrefix, walked. -/
import Derived.Test.YtcoaopaiipkcpaaLaw1
namespace Go.Proofs.Ytcoaopaiipkcpaa
open Go.RowKit Rc

/-- decode_calls, its outcome named. -/
theorem dec_named (v : Value) (l : List Nat) (n : Nat) (out : List Nat) (hd : decodeR l = (n, out)) (w : World) (h : Reads w v (u8s l)) (hx : ∀ x ∈ l, x < 256) (hl : l.length ≤ 140737488355328) :
    Calls Try.prog 17 #[v] w fun e w' => ∃ A c, e = .returned (.tuple #[.slice A out.length c, .int .i64 (n : Int)]) ∧ OwnB 5 w' w.heap.size (.slice A out.length c) out ∧ Below w.heap.size w w' := by
  refine (decode_calls v l w h hx hl).mono ?_
  rintro e w' ⟨v', rfl, ho, hb⟩
  rw [hd] at ho ⊢
  obtain ⟨A, c, rfl⟩ := own_slice ho
  exact ⟨A, c, rfl, ho, hb⟩

theorem lives_named (w : World) : Calls Try.prog 16 #[] w fun e w' => e = .returned (.bool true) ∧ Below w.heap.size w w' := lives_calls w

set_option maxHeartbeats 2000000 in
set_option maxRecDepth 100000 in
theorem prefix_calls (v1 v2 : Value) (xs ys : List Nat) (cut : Int) (w : World) (h1 : Reads w v1 (u8s xs)) (h2 : Reads w v2 (u8s ys)) (hx : ∀ x ∈ xs, x < 256) (hy : ∀ x ∈ ys, x < 256) (l1 : xs.length ≤ 9223372036854775807) (l2 : ys.length ≤ 9223372036854775807)
    (ha1 : -9223372036854775808 ≤ cut) (ha2 : cut ≤ 9223372036854775807) :
    Calls Try.prog 6 #[v1, .int .i64 cut, v2] w fun e w' => e = .returned (.bool true) ∧ Below w.heap.size w w' := by
  obtain ⟨x, hxe⟩ : ∃ x, x = xs.take 60 := ⟨_, rfl⟩
  obtain ⟨y, hye⟩ : ∃ y, y = ys.take 8 := ⟨_, rfl⟩
  have hx8 : ∀ b ∈ x, b < 256 := by rw [hxe]; exact take_lt hx 60
  have hy8 : ∀ b ∈ y, b < 256 := by rw [hye]; exact take_lt hy 8
  have hxl : x.length ≤ 60 := by rw [hxe]; exact take_len xs 60
  have hyl : y.length ≤ 8 := by rw [hye]; exact take_len ys 8
  have HX := Lib.hid hxe
  have HY := Lib.hid hye
  obtain ⟨p, hpe⟩ : ∃ p, p = enc x := ⟨_, rfl⟩
  have hp8 : ∀ b ∈ p, b < 256 := by rw [hpe]; exact enc_bytes (by omega)
  have hpl : p.length ≤ 2000 := by rw [hpe]; have := enc_len_le x; omega
  have hp1 : 1 ≤ p.length := by rw [hpe]; have := len_head x.length; unfold enc; rw [List.length_append]; omega
  obtain ⟨k, hk⟩ : ∃ k : Nat, aroundZ cut p.length = k := ⟨(aroundZ cut p.length).toNat, by have := aroundZ_nonneg cut p.length (by omega); omega⟩
  have hkx : k < p.length := by have := aroundZ_nonneg cut p.length (by omega); omega
  obtain ⟨n1, d1, hd1⟩ : ∃ n1 d1, decodeR (p.take k) = (n1, d1) := ⟨_, _, rfl⟩
  have hn1 : n1 ≠ 0 := by
    have h := decode_prefix hx8 (by omega) (k := k) (by rw [← hpe]; exact hkx)
    rw [← hpe, hd1] at h
    exact h
  have hn1' : ((n1 : Int) != 0) = true := by rw [bne_iff_ne]; omega
  obtain ⟨n2, d2, hd2⟩ : ∃ n2 d2, decodeR (p ++ y ++ [0]) = (n2, d2) := ⟨_, _, rfl⟩
  have hn2 : n2 = 8 := by
    have h := decode_tail (xs := x) (t := y ++ [0]) hx8 (by intro b hb; rcases List.mem_append.1 hb with h | h; exact hy8 b h; simp at h; omega) (by omega) (by simp)
    rw [← hpe, ← List.append_assoc, hd2] at h
    exact h
  have hr8 : ∀ b ∈ p ++ y ++ [0], b < 256 := by
    intro b hb
    rcases List.mem_append.1 hb with h | h
    · rcases List.mem_append.1 h with h | h
      · exact hp8 b h
      · exact hy8 b h
    · simp at h; omega
  have hk0 : (0 : Int) ≤ k := by omega
  have hk1 : (k : Int) ≤ p.length := by omega
  have hpz : ((p.length : Int) == 0) = false := by rw [beq_eq_false_iff_ne]; omega
  have HP := Lib.hid hpe
  have HK := Lib.hid hk
  have HD1 := Lib.hid hd1
  have HD2 := Lib.hid hd2
  clear hxe hye hx hy hpe hk hd1 hd2 hn1
  subst hn2
  go_enter Try.func6, Try.ntmps6
  go_wp2_with fail
  refine (few_named v1 xs x 60 HX.out w h1 l1 (by omega)).mono ?_
  rintro e w1 ⟨A1, c1, rfl, o1, b1⟩
  have r1 := o1.reads
  go_wp2_with fail
  refine (enc_named A1 c1 x p HP.out w1 r1 hx8 (by omega)).mono ?_
  rintro e w2 ⟨A2, c2, rfl, o2, b2⟩
  have B2 := b1.trans (b2.mono b1.size)
  have r2 := o2.reads
  have hpc : p.length ≤ c2 := by obtain ⟨_, _, hv, hc, _⟩ := r2; injection hv with e1 e2 e3; rw [u8s_length] at hc; omega
  have hkc : k ≤ c2 := by omega
  clear r1 o1 b1 b2
  go_wp2_with fail
  refine (around_calls cut p.length w2 ha1 ha2 (by omega) (by omega)).mono ?_
  rintro e w3 ⟨rfl, rfl⟩
  rw [HK.out]
  have rk : Reads w3 (.slice A2 k c2) (u8s (p.take k)) := by
    have := r2.take k (by rw [u8s_length]; omega)
    rwa [show (u8s p).take k = u8s (p.take k) from by simp [u8s]] at this
  go_wp2_with fail
  refine (dec_named _ (p.take k) n1 d1 HD1.out w3 rk (take_lt hp8 k) (by have := take_len p k; omega)).mono ?_
  rintro e w4 ⟨A4, c4, rfl, o4, b4⟩
  have B4 := B2.trans (b4.mono B2.size)
  have r4 := r2.below b4
  have s4 := B4.size
  clear o4 rk r2 b4
  go_wp2_with (first
    | (at_builtin; refine wpList_appends elem_u8 rfl (.const (.slice none 0 0)) (.tmp 29) rfl w.heap.size (.slice none 0 0) 0 [] rfl (World.ownsRow_nil _ _ _ _) (.slice A2 p.length c2) (u8s p) rfl r4 (u8s_one _) (by rw [u8s_length]; omega) (by rw [u8s_length]; omega) s4 ?_; intro v5 w5 h5 g5 q5)
    | fail)
  have o5 : OwnB 5 w5 w.heap.size v5 p := by unfold OwnB; simpa [u8s_length] using h5
  have B5 : Below w.heap.size w w5 := B4.grown g5 s4 (fun k hk => by simp [Value.ownBlock] at hk)
  have s5 := B5.size
  obtain ⟨A5, c5, rfl⟩ := own_slice o5
  clear h5 g5 q5 r4
  go_wp2_with fail
  refine (few_named v2 ys y 8 HY.out w5 (h2.below B5) l2 (by omega)).mono ?_
  rintro e w6 ⟨A6, c6, rfl, o6, b6⟩
  have o56 := o5.below' b6
  have B6 := B5.trans (b6.mono s5)
  have s6 := B6.size
  have r6 := o6.reads
  clear o5 b6
  have hl7 : (p ++ y).length ≤ 2008 := by rw [List.length_append]; omega
  go_wp2_with (first
    | (at_builtin; refine wpList_appends elem_u8 rfl (.tmp 30) (.tmp 32) rfl w.heap.size (.slice A5 p.length c5) _ _ rfl o56 (.slice A6 y.length c6) (u8s y) rfl r6 (u8s_one _) (by rw [u8s_length]; omega) (by rw [u8s_length]; omega) s6 ?_; intro v7 w7 h7 g7 q7; have o7 : OwnB 5 w7 w.heap.size v7 (p ++ y) := (by unfold OwnB; rw [List.length_append, u8s_append]; simpa [u8s_length] using h7); have B7 : Below w.heap.size w w7 := B6.grown g7 s6 (fun k hk => (World.ownsRow.lt o56 k hk).1); have s7 := B7.size; obtain ⟨A7, c7, rfl⟩ := own_slice o7; rw [List.length_append] at o7; clear h7 g7 q7 o56 r6 o6)
    | (at_builtin; refine wpList_push elem_u8 rfl (.tmp 33) (.tmp 34) rfl w.heap.size (.slice A7 (p.length + y.length) c7) _ _ rfl (o7.alloc _) w7.heap.size (.int .u8 0) rfl (by simp) rfl (by omega) (by omega) (by simp; omega) ?_; intro v8 w8 h8 g8 q8)
    | fail)
  have o8 : OwnB 5 w8 w.heap.size v8 (p ++ y ++ [0]) := by unfold OwnB; rw [List.length_append, u8s_append]; exact h8
  have B8 : Below w.heap.size w w8 := (B7.alloc s7 _).grown g8 (by simp; omega) (fun k hk => (World.ownsRow.lt o7 k hk).1)
  have s8 := B8.size
  have r8 := o8.reads
  clear h8 g8 q8 o7 o8
  go_wp2_with fail
  refine (dec_named _ (p ++ y ++ [0]) 8 d2 HD2.out w8 r8 hr8 (by rw [List.length_append]; simp; omega)).mono ?_
  rintro e w9 ⟨A9, c9, rfl, o9, b9⟩
  have B9 := B8.trans (b9.mono s8)
  have s9 := B9.size
  go_wp2_with fail
  refine (lives_named w9).mono ?_
  rintro e w12 ⟨rfl, b12⟩
  have B12 := B9.trans (b12.mono s9)
  go_wp2_with fail
  go_ret
  exact ⟨rfl, B12⟩
end Go.Proofs.Ytcoaopaiipkcpaa
