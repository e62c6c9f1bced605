/- RangecoderDistinct, walked. -/
import Derived.Test.YtcoaopaiipkcpaaLives
import Derived.Laws.BitsAllLaws
namespace Go.Proofs.Ytcoaopaiipkcpaa
open Go.RowKit Rc

theorem same_calls_b (v1 v2 : Value) (xs ys : List Nat) (b : Bool) (hb : decide (xs = ys) = b) (w : World) (h1 : Reads w v1 (u8s xs)) (h2 : Reads w v2 (u8s ys)) (l1 : xs.length ≤ 140737488355328) (l2 : ys.length ≤ 140737488355328) :
    Calls Try.prog 13 #[v1, v2] w fun e w' => e = .returned (.bool b) ∧ Below w.heap.size w w' := by
  refine (same_calls v1 v2 xs ys w h1 h2 l1 l2).mono ?_
  rintro e w' ⟨rfl, n, rfl⟩
  exact ⟨by rw [hb], below_drewN (Below.refl _ _) n⟩

theorem take_lt {xs : List Nat} (h : ∀ x ∈ xs, x < 256) (M : Nat) : ∀ x ∈ xs.take M, x < 256 := fun x hx => h x (List.mem_of_mem_take hx)
theorem take_len (xs : List Nat) (M : Nat) : (xs.take M).length ≤ M := by rw [List.length_take]; omega
theorem set_lt {xs : List Nat} (h : ∀ x ∈ xs, x < 256) (k x : Nat) (hx : x < 256) : ∀ y ∈ xs.set k x, y < 256 := by
  intro y hy
  rcases List.mem_or_eq_of_mem_set hy with h1 | h1
  · exact h y h1
  · rw [h1]; exact hx

/-- few_calls, the list named. -/
theorem few_named (v : Value) (xs x : List Nat) (M : Nat) (hx : x = xs.take M) (w : World) (h1 : Reads w v (u8s xs)) (l1 : xs.length ≤ 9223372036854775807) (hM : M ≤ 1000000) :
    Calls Try.prog 11 #[v, .int .i64 M] w fun e w' => ∃ A c, e = .returned (.slice A x.length c) ∧ OwnB 5 w' w.heap.size (.slice A x.length c) x ∧ Below w.heap.size w w' := by
  refine (few_calls v xs M w h1 l1 hM).mono ?_
  rintro e w' ⟨v', rfl, ho, hb⟩
  rw [← hx] at ho
  obtain ⟨A, c, rfl⟩ := own_slice ho
  exact ⟨A, c, rfl, ho, hb⟩

/-- encode_calls, the list named. -/
theorem enc_named (A : Option Addr) (cap : Nat) (x p : List Nat) (hp : p = enc x) (w : World) (hr : Reads w (.slice A x.length cap) (u8s x)) (hx : ∀ y ∈ x, y < 256) (hl : x.length ≤ 1000000) :
    Calls Try.prog 14 #[.slice A x.length cap] w fun e w' => ∃ A' c', e = .returned (.slice A' p.length c') ∧ OwnB 5 w' w.heap.size (.slice A' p.length c') p ∧ Below w.heap.size w w' := by
  refine (encode_calls A cap x w hr hx hl).mono ?_
  rintro e w' ⟨v', rfl, ho, hb⟩
  rw [← hp] at ho
  obtain ⟨A, c, rfl⟩ := own_slice ho
  exact ⟨A, c, rfl, ho, hb⟩

theorem enc_named' (A : Option Addr) (cap N : Nat) (x p : List Nat) (hp : p = enc x) (w : World) (hN : N = x.length) (hr : Reads w (.slice A N cap) (u8s x)) (hx : ∀ y ∈ x, y < 256) (hl : x.length ≤ 1000000) :
    Calls Try.prog 14 #[.slice A N cap] w fun e w' => ∃ A' c', e = .returned (.slice A' p.length c') ∧ OwnB 5 w' w.heap.size (.slice A' p.length c') p ∧ Below w.heap.size w w' := by
  subst hN
  exact enc_named A cap x p hp w hr hx hl

theorem xor_u8 (x y : Nat) (hx : x < 256) (hy : y < 256) : bits BinOp.xor IntKind.u8 (x : Int) (y : Int) = ((x ^^^ y : Nat) : Int) ∧ x ^^^ y < 256 :=
  ⟨u8_xor_nat x y hx hy, Nat.xor_lt_two_pow (n := 8) hx hy⟩

set_option maxHeartbeats 2000000 in
set_option maxRecDepth 100000 in
theorem distinct_calls (v1 v2 : Value) (xs ys : List Nat) (at_ : Int) (by_ : Nat) (w : World) (h1 : Reads w v1 (u8s xs)) (h2 : Reads w v2 (u8s ys)) (hx : ∀ x ∈ xs, x < 256) (hy : ∀ x ∈ ys, x < 256) (l1 : xs.length ≤ 9223372036854775807) (l2 : ys.length ≤ 9223372036854775807)
    (ha1 : -9223372036854775808 ≤ at_) (ha2 : at_ ≤ 9223372036854775807) (hby : by_ < 256) :
    Calls Try.prog 10 #[v1, v2, .int .i64 at_, .int .u8 (by_ : Int)] w fun e w' => e = .returned (.bool true) ∧ Below w.heap.size w w' := by
  obtain ⟨x, hxe⟩ : ∃ x, x = xs.take 60 := ⟨_, rfl⟩
  obtain ⟨y, hye⟩ : ∃ y, y = ys.take 60 := ⟨_, rfl⟩
  have hx8 : ∀ b ∈ x, b < 256 := by rw [hxe]; exact take_lt hx 60
  have hy8 : ∀ b ∈ y, b < 256 := by rw [hye]; exact take_lt hy 60
  have hxl : x.length ≤ 60 := by rw [hxe]; exact take_len xs 60
  have hyl : y.length ≤ 60 := by rw [hye]; exact take_len ys 60
  have HX := Lib.hid hxe
  have HY := Lib.hid hye
  clear hxe hye hx hy
  go_enter Try.func10, Try.ntmps10
  go_wp2_with fail
  refine (few_named v1 xs x 60 HX.out w h1 l1 (by omega)).mono ?_
  rintro e w1 ⟨A1, c1, rfl, o1, b1⟩
  go_wp2_with fail
  refine (few_named v2 ys y 60 HY.out w1 (h2.below b1) l2 (by omega)).mono ?_
  rintro e w2 ⟨A2, c2, rfl, o2, b2⟩
  have B2 := b1.trans (b2.mono b1.size)
  go_wp2_with fail
  refine (few_named v1 xs x 60 HX.out w2 (h1.below B2) l1 (by omega)).mono ?_
  rintro e w3 ⟨A3, c3, rfl, o3, b3⟩
  have B3 := B2.trans (b3.mono B2.size)
  have n1 := o1.lt
  have n2 := o2.lt
  have n3 := World.ownsRow.lt o3
  have s12 := b1.size
  have s23 := b2.size
  have s34 := b3.size
  have o13 := (o1.below' b2).below' b3
  have o23 := o2.below' b3
  obtain ⟨d, hd⟩ : ∃ d, d = decide (x = y) := ⟨_, rfl⟩
  replace hd := Lib.hid hd
  have HQ1 := Lib.hid (by rw [decide_eq_decide]; exact enc_inj hx8 hy8 (by omega) (by omega) : decide (enc x = enc y) = decide (x = y))
  have hex : (enc x).length ≤ 140737488355328 := by have := enc_len_le x; omega
  have hey : (enc y).length ≤ 140737488355328 := by have := enc_len_le y; omega
  clear o1 o2 b1 b2 b3 B2
  by_cases hz : x.length = 0
  · have hz' : ¬ (0 : Int) < x.length := by omega
    have B4 := B3
    clear hz
    have r1 := o13.reads
    have r2 := o23.reads
    have r3 := o3.reads
    go_wp2_with fail
    refine (enc_named A1 c1 x (enc x) rfl w3 r1 hx8 (by omega)).mono ?_
    rintro e w5 ⟨A5, c5, rfl, o5, b5⟩
    have r15 := r1.below b5
    have r25 := r2.below b5
    have r35 := r3.below b5
    have B5 := B4.trans (b5.mono B4.size)
    go_wp2_with fail
    refine (enc_named A2 c2 y (enc y) rfl w5 r25 hy8 (by omega)).mono ?_
    rintro e w6 ⟨A6, c6, rfl, o6, b6⟩
    have r16 := r15.below b6
    have r26 := r25.below b6
    have r36 := r35.below b6
    have r56 := (o5.below' b6).reads
    have B6 := B5.trans (b6.mono B5.size)
    go_wp2_with fail
    refine (same_calls_b _ _ (enc x) (enc y) d (by rw [hd.out]; exact HQ1.out) w6 r56 o6.reads hex hey).mono ?_
    rintro e w7 ⟨rfl, b7⟩
    go_wp2_with fail
    refine (same_calls_b _ _ x y d (by rw [hd.out]) w7 (r16.below b7) (r26.below b7) (by omega) (by omega)).mono ?_
    rintro e w8 ⟨rfl, b8⟩
    have B8 := B6.trans ((b7.trans (b8.mono b7.size)).mono B6.size)
    have b68 := b7.trans (b8.mono b7.size)
    have r18 := r16.below b68
    have r38 := r36.below b68
    have r58 := r56.below b68
    have hdd : (d == d) = true := by cases d <;> rfl
    go_wp2_with fail
    refine (enc_named' _ c3 x.length x (enc x) rfl w8 rfl r38 hx8 (by omega)).mono ?_
    rintro e w9 ⟨A9, c9, rfl, o9, b9⟩
    have B9 := B8.trans (b9.mono B8.size)
    go_wp2_with fail
    refine (same_calls_b _ _ (enc x) (enc x) true (by simp) w9 (r58.below b9) o9.reads hex hex).mono ?_
    rintro e w10 ⟨rfl, b10⟩
    go_wp2_with fail
    refine (same_calls_b _ _ x x true (by simp) w10 ((r18.below b9).below b10) ((r38.below b9).below b10) (by omega) (by omega)).mono ?_
    rintro e w11 ⟨rfl, b11⟩
    have b911 := b10.trans (b11.mono b10.size)
    have B11 := B9.trans (b911.mono B9.size)
    go_wp2_with fail
    refine (lives_calls w11).mono ?_
    rintro e w12 ⟨rfl, b12⟩
    have B12 := B11.trans (b12.mono B11.size)
    go_wp2_with fail
    go_ret
    exact ⟨rfl, B12⟩
  · have hz' : (0 : Int) < x.length := by omega
    obtain ⟨A3', c3', hs3, -, hh3⟩ := o3.reads
    rw [u8s_length] at hh3
    obtain ⟨g3, z3, hA3, hg3, hc3⟩ := hh3 (by omega)
    have e3 : A3 = A3' := by injection hs3
    rw [← e3] at hA3
    obtain ⟨g3', c3'', hf, -, -⟩ := World.ownsRow.form o3 (by omega)
    have hA0 : A3 = some ⟨g3', 0, none⟩ := by injection hf
    subst hA0
    clear hA3 hh3 hc3 hg3 hs3 e3 hf
    obtain ⟨k, hk⟩ : ∃ k : Nat, aroundZ at_ x.length = k := ⟨(aroundZ at_ x.length).toNat, by have := aroundZ_nonneg at_ x.length (by omega); omega⟩
    have hkx : k < x.length := by have := aroundZ_nonneg at_ x.length (by omega); omega
    have hcell := (World.ownsRow.cellAt o3 k (by omega)).trans (u8s_get x k hkx)
    have hfr := World.ownsRow.frozenAt o3 k
    have hxk : x[k] < 256 := hx8 _ (List.getElem_mem hkx)
    obtain ⟨hxor, hxor2⟩ := xor_u8 x[k] by_ hxk hby
    have hk0 : (0 : Int) ≤ k := by omega
    have hk1 : (k : Int) < x.length := by omega
    obtain ⟨Z, hZ⟩ : ∃ Z, Z = x.set k (x[k] ^^^ by_) := ⟨_, rfl⟩
    have hZl : Z.length = x.length := by rw [hZ, List.length_set]
    have HZ8 : ∀ b ∈ Z, b < 256 := by rw [hZ]; exact set_lt hx8 k _ hxor2
    have oZ : OwnB 5 (w3.setCell ⟨g3', k, none⟩ (.int .u8 ((x[k] ^^^ by_ : Nat) : Int))) w2.heap.size (.slice (some ⟨g3', 0, none⟩) x.length c3) Z := by
      rw [hZ]
      exact o3.store rfl k _
    have ng1 : (Value.slice A1 x.length c1).ownBlock ≠ some g3' := fun e => by have := n1 _ e; have := (n3 g3' rfl).1; omega
    have ng2 : (Value.slice A2 y.length c2).ownBlock ≠ some g3' := fun e => by have := n2 _ e; have := (n3 g3' rfl).1; omega
    have o14 := o13.far (p := ⟨g3', k, none⟩) ng1 (.int .u8 ((x[k] ^^^ by_ : Nat) : Int))
    have o24 := o23.far (p := ⟨g3', k, none⟩) ng2 (.int .u8 ((x[k] ^^^ by_ : Nat) : Int))
    have B4 := B3.setCell (p := ⟨g3', k, none⟩) (by have := (n3 g3' rfl).1; show w.heap.size ≤ g3'; omega) (.int .u8 ((x[k] ^^^ by_ : Nat) : Int))
    obtain ⟨d2, hd2⟩ : ∃ d2, d2 = decide (x = Z) := ⟨_, rfl⟩
    replace hd2 := Lib.hid hd2
    have hzl : Z.length ≤ 60 := by omega
    have HQ2 := Lib.hid (by rw [decide_eq_decide]; exact enc_inj hx8 HZ8 (by omega) (by omega) : decide (enc x = enc Z) = decide (x = Z))
    have hez : (enc Z).length ≤ 140737488355328 := by have := enc_len_le Z; omega
    have HK := Lib.hid hk
    have HXOR := Lib.hid hxor
    have HZL := Lib.hid hZl
    generalize x[k] = xk at *
    clear hz hk hxor hZ n1 n2 n3 o3 o13 o23 hZl
    go_wp2_with fail
    refine (around_calls at_ x.length w3 ha1 ha2 (by omega) (by omega)).mono ?_
    rintro e w4 ⟨rfl, rfl⟩
    rw [HK.out]
    go_wp2_with fail
    rw [HXOR.out]
    generalize hW4 : (w4.setCell ⟨g3', k, none⟩ (.int .u8 ((xk ^^^ by_ : Nat) : Int))) = W4 at *
    have r1 := o14.reads
    have r2 := o24.reads
    have r3 := oZ.reads
    refine (enc_named A1 c1 x (enc x) rfl W4 r1 hx8 (by omega)).mono ?_
    rintro e w5 ⟨A5, c5, rfl, o5, b5⟩
    have r15 := r1.below b5
    have r25 := r2.below b5
    have r35 := r3.below b5
    have B5 := B4.trans (b5.mono B4.size)
    go_wp2_with fail
    refine (enc_named A2 c2 y (enc y) rfl w5 r25 hy8 (by omega)).mono ?_
    rintro e w6 ⟨A6, c6, rfl, o6, b6⟩
    have r16 := r15.below b6
    have r26 := r25.below b6
    have r36 := r35.below b6
    have r56 := (o5.below' b6).reads
    have B6 := B5.trans (b6.mono B5.size)
    go_wp2_with fail
    refine (same_calls_b _ _ (enc x) (enc y) d (by rw [hd.out]; exact HQ1.out) w6 r56 o6.reads hex hey).mono ?_
    rintro e w7 ⟨rfl, b7⟩
    go_wp2_with fail
    refine (same_calls_b _ _ x y d (by rw [hd.out]) w7 (r16.below b7) (r26.below b7) (by omega) (by omega)).mono ?_
    rintro e w8 ⟨rfl, b8⟩
    have B8 := B6.trans ((b7.trans (b8.mono b7.size)).mono B6.size)
    have b68 := b7.trans (b8.mono b7.size)
    have r18 := r16.below b68
    have r38 := r36.below b68
    have r58 := r56.below b68
    have hdd : (d == d) = true := by cases d <;> rfl
    go_wp2_with fail
    refine (enc_named' _ c3 x.length Z (enc Z) rfl w8 HZL.out.symm r38 HZ8 (by omega)).mono ?_
    rintro e w9 ⟨A9, c9, rfl, o9, b9⟩
    have B9 := B8.trans (b9.mono B8.size)
    go_wp2_with fail
    refine (same_calls_b _ _ (enc x) (enc Z) d2 (by rw [hd2.out]; exact HQ2.out) w9 (r58.below b9) o9.reads hex hez).mono ?_
    rintro e w10 ⟨rfl, b10⟩
    go_wp2_with fail
    refine (same_calls_b _ _ x Z d2 (by rw [hd2.out]) w10 ((r18.below b9).below b10) ((r38.below b9).below b10) (by omega) (by omega)).mono ?_
    rintro e w11 ⟨rfl, b11⟩
    have b911 := b10.trans (b11.mono b10.size)
    have B11 := B9.trans (b911.mono B9.size)
    have hdd2 : (d2 == d2) = true := by cases d2 <;> rfl
    go_wp2_with fail
    refine (lives_calls w11).mono ?_
    rintro e w12 ⟨rfl, b12⟩
    have B12 := B11.trans (b12.mono B11.size)
    go_wp2_with fail
    go_ret
    exact ⟨rfl, B12⟩
end Go.Proofs.Ytcoaopaiipkcpaa
