/- The reference Encode computes the same encoding. -/
import Derived.Test.YtcoaopaiipkcpaaBit
namespace Go.Proofs.Ytcoaopaiipkcpaa
open Go.RowKit Rc

theorem bit_value (x q : Nat) (hx : x ≤ 255) (j : Nat) (hq : q = 2 ^ j) (b : Nat) (hb : b = x / 2 ^ j % 2) : ((wrap64 ((x : Int) / (q : Int))).tmod 2 == 1) = (b == 1) := by
  have h1 : x / q ≤ x := Nat.div_le_self _ _
  have h2 : (x : Int) / (q : Int) = ((x / q : Nat) : Int) := (Int.natCast_ediv _ _).symm
  rw [h2, hb, ← hq]
  clear hb h2 hq
  generalize x / q = y at *
  have h3 : wrap64 (y : Int) = (y : Int) := by unfold wrap64; omega
  rw [h3, Int.tmod_eq_emod_of_nonneg (by omega)]
  rcases (by omega : y % 2 = 0 ∨ y % 2 = 1) with h4 | h4
  · rw [h4, show ((y : Int) % 2) = 0 by omega]; decide
  · rw [h4, show ((y : Int) % 2) = 1 by omega]; decide

theorem byte_value (lo q : Nat) (h : lo < 4294967296) : (IntKind.u64.wrap ((lo : Int) / (q : Int))).tmod 256 % 256 = ((lo / q % 256 : Nat) : Int) := by
  have h1 : lo / q ≤ lo := Nat.div_le_self _ _
  have h2 : (lo : Int) / (q : Int) = ((lo / q : Nat) : Int) := (Int.natCast_ediv _ _).symm
  rw [h2]
  clear h2
  generalize lo / q = y at *
  have h3 : IntKind.u64.wrap (y : Int) = (y : Int) := by simp [IntKind.wrap, IntKind.signed, IntKind.bits]; omega
  rw [h3, Int.tmod_eq_emod_of_nonneg (by omega)]
  omega

set_option maxHeartbeats 600000 in
set_option maxRecDepth 100000 in
theorem refenc_calls (A : Option Addr) (cap : Nat) (xs : List Nat) (w : World) (hr : Reads w (.slice A xs.length cap) (u8s xs)) (hx : ∀ x ∈ xs, x < 256) (hl : xs.length ≤ 10000) :
    Calls Try.prog 15 #[.slice A xs.length cap] w fun e w' => ∃ v', e = .returned v' ∧ OwnB 5 w' w.heap.size v' (enc xs) ∧ Below w.heap.size w w' := by
  obtain ⟨N, hN⟩ : ∃ N, N = xs.length := ⟨_, rfl⟩
  rw [← hN] at hr hl ⊢
  have HN := Lib.hid hN
  obtain ⟨l0, hl0⟩ : ∃ l0, l0 = List.replicate 256 2048 := ⟨_, rfl⟩
  have HL0 := Lib.hid hl0
  have ht0 := Tab.init hl0
  obtain ⟨hd, hhd⟩ : ∃ hd, hd = len N := ⟨_, rfl⟩
  have hhl : hd.length ≤ 21 := by rw [hhd]; exact len_len N
  have HHD := Lib.hid hhd
  clear hN hl0 hhd
  by_cases hz : N = 0
  · have hz' : ((N : Int) == 0) = true := by simp [hz]
    have HZ := Lib.hid hz
    clear hz
    go_enter Try.func15, Try.ntmps15
    go_wp2_with fail
    refine (reflen_calls N w (by omega)).mono ?_
    rintro e w1 ⟨v1, rfl, o1, b1⟩
    obtain ⟨A1, c1, rfl⟩ := own_slice o1
    go_wp2_with fail
    go_ret
    have h0 : xs = [] := List.eq_nil_of_length_eq_zero (by rw [← HN.out]; exact HZ.out)
    refine ⟨_, rfl, ?_, b1⟩
    rw [show enc xs = len N from by rw [h0, HZ.out]; simp [enc, body]]
    exact o1
  · have hz' : ((N : Int) == 0) = false := by simp [hz]
    have HZ := Lib.hid hz
    clear hz
    go_enter Try.func15, Try.ntmps15
    go_wp2_with fail
    refine (reflen_calls N w (by omega)).mono ?_
    rintro e w1 ⟨v1, rfl, o1, b1⟩
    rw [← HHD.out] at o1
    obtain ⟨A1, c1, rfl⟩ := own_slice o1
    have s1 := b1.size
    go_wp2_with fail
    refine (start_calls w1 l0 HL0.out).mono ?_
    rintro e w2 ⟨vP, rfl, oP, b2⟩
    have o2 := o1.below' b2
    have B2 := b1.trans (b2.mono s1)
    have s2 := B2.size
    have hll := ht0.len
    obtain ⟨AP, cP, rfl⟩ := own_slice oP
    go_wp2_with fail
    have bS : Blk (w2.alloc (Obj.cells #[.int .u64 0, .int .u64 4294967295, .slice AP 256 cP, .slice none 0 0] 56)) w2.heap.size 56 #[.int .u64 0, .int .u64 4294967295, .slice AP 256 cP, .slice none 0 0] := (MapKept.heap_alloc w2 _).1
    have oP2 : OwnW 53 (w2.alloc (Obj.cells #[.int .u64 0, .int .u64 4294967295, .slice AP 256 cP, .slice none 0 0] 56)) w1.heap.size (.slice AP 256 cP) l0 := by
      have h := World.ownsRow.alloc oP (Obj.cells #[.int .u64 0, .int .u64 4294967295, .slice AP 256 cP, .slice none 0 0] 56)
      rw [hll] at h
      unfold OwnW
      rw [hll]
      exact h
    have B3 := b2.alloc b2.size (Obj.cells #[.int .u64 0, .int .u64 4294967295, .slice AP 256 cP, .slice none 0 0] 56)
    have ha : w1.heap.size ≤ w2.heap.size := b2.size
    obtain ⟨T, hT⟩ : ∃ T, T = (encBytes xs St.init).1 := ⟨_, rfl⟩
    obtain ⟨Fs, hF⟩ : ∃ Fs, Fs = (encBytes xs St.init).2 := ⟨_, rfl⟩
    have HT := Lib.hid hT
    have HF := Lib.hid hF
    clear hT hF oP o2 b2 B2 s2 hll
    generalize w2.alloc (Obj.cells #[.int .u64 0, .int .u64 4294967295, .slice AP 256 cP, .slice none 0 0] 56) = w3 at *
    generalize w2.heap.size = a at *
    go_loopg [5] N (fun n iv wr => ∃ (i : Nat) (s : St) (l out : List Nat) (A' : Option Addr) (c' : Nat), i + n = N ∧ iv = .int .i64 i ∧ s.Ok ∧ Tab l s.p ∧ Blk wr a 56 #[.int .u64 s.lo, .int .u64 s.hi, .slice AP 256 cP, .slice A' out.length c'] ∧ OwnW 53 wr w1.heap.size (.slice AP 256 cP) l ∧ OwnB 5 wr w1.heap.size (.slice A' out.length c') out ∧ Below w1.heap.size w1 wr ∧ out.length ≤ 32 * i ∧ Hid (out ++ (encBytes (xs.drop i) s).1 = T ∧ (encBytes (xs.drop i) s).2 = Fs))
    case atStart => exact ⟨0, St.init, l0, [], none, 0, by omega, rfl, St.init_ok, ht0, bS, oP2, OwnB.nil _ _, B3, by simp, by rw [HT.out]; rfl, by rw [HF.out]; rfl⟩
    case round =>
      obtain ⟨i, s, l, out, A', c', hin, rfl, hs, hl, bS, oP, oO, B, hol, H⟩ := hrel
      have HIN := Lib.hid hin
      have hiN : i ≤ N := by omega
      have hrr := hr.below (b1.trans (B.mono s1))
      clear hin
      by_cases hlt : i < N
      · have hlen : i < xs.length := by rw [← HN.out]; exact hlt
        obtain ⟨g, o', rfl, hg, hci⟩ := hrr.at_ hlen
        obtain ⟨x, hxe⟩ : ∃ x, x = xs[i] := ⟨_, rfl⟩
        have hx8 : x < 256 := by rw [hxe]; exact hx _ (List.getElem_mem hlen)
        rw [← hxe] at hci
        have hdrop : xs.drop i = x :: xs.drop (i + 1) := by rw [hxe]; exact List.drop_eq_getElem_cons hlen
        have H2 := H.out
        rw [hdrop] at H2
        have H3 := Lib.hid (enc_byte H2)
        have hiz : (i : Int) < N := by omega
        have hi0 : (0 : Int) ≤ i := by omega
        clear H2 hdrop hxe H
        go_wp2_with fail
        go_loopg [6, 8] 8 (fun n cx kv wr => ∃ (ctx q : Nat) (s2 : St) (l2 out2 : List Nat) (A2 : Option Addr) (c2 : Nat), cx = .int .i64 ctx ∧ kv = .int .i64 q ∧ CtxOk n ctx ∧ s2.Ok ∧ Tab l2 s2.p ∧ Blk wr a 56 #[.int .u64 s2.lo, .int .u64 s2.hi, .slice AP 256 cP, .slice A2 out2.length c2] ∧ OwnW 53 wr w1.heap.size (.slice AP 256 cP) l2 ∧ OwnB 5 wr w1.heap.size (.slice A2 out2.length c2) out2 ∧ Below w1.heap.size w1 wr ∧ out2.length + 4 * n ≤ out.length + 32 ∧ Hid (q = 2 ^ n / 2 ∧ out2 ++ (encBits n ctx x s2).1 = out ++ (encBits 8 1 x s).1 ∧ (encBits n ctx x s2).2 = (encBits 8 1 x s).2))
        case atStart => exact ⟨1, 128, s, l, out, A', c', rfl, rfl, CtxOk.init, hs, hl, bS, oP, oO, B, by omega, rfl, rfl, rfl⟩
        case round =>
          obtain ⟨ctx, q, s2, l2, out2, A2, c2, rfl, rfl, hctx, hs2, hl2, bS2, oP2, oO2, B2, hol2, HB⟩ := hrel
          by_cases hz9 : gk = 0
          · subst hz9
            obtain rfl : q = 0 := HB.out.1
            have HB2 := Lib.hid (by simpa [encBits] using HB.out.2 : out2 = out ++ (encBits 8 1 x s).1 ∧ s2 = (encBits 8 1 x s).2)
            go_wp2_with fail
            have hin := HIN.out
            go_roundg (gk - 1)
            case measure => omega
            case rel => exact ⟨i + 1, s2, l2, out2, A2, c2, by omega, by go_num, hs2, hl2, bS2, oP2, oO2, B2, by omega, by rw [HB2.out.1, HB2.out.2]; exact H3.out⟩
          · obtain ⟨j, rfl⟩ : ∃ j, gk = j + 1 := ⟨gk - 1, by omega⟩
            have hj7 : j ≤ 7 := by have := hctx.2.2; omega
            have hq : q = 2 ^ j := by have h := HB.out.1; rw [Nat.pow_succ] at h; omega
            have hq1 : 1 ≤ q ∧ q ≤ 128 := by rw [hq]; exact ⟨Nat.one_le_two_pow, Nat.pow_le_pow_right (n := 2) (by omega) hj7⟩
            have hq0 : (0 : Int) < q := by omega
            have hc256 := hctx.lt
            have d0 := bS2.cell 0
            have d1 := bS2.cell 1
            have d2 := bS2.cell 2
            have d3 := bS2.cell 3
            simp only [List.getElem?_toArray, List.getElem?_cons_succ, List.getElem?_cons_zero] at d0 d1 d2 d3
            obtain ⟨b, hb⟩ : ∃ b, b = x / 2 ^ j % 2 := ⟨_, rfl⟩
            have hb1 : b ≤ 1 := by omega
            have hbv := bit_value x q (by omega) j hq b hb
            have HBV := Lib.hid hbv
            have HBE := Lib.hid hb
            have HQ := Lib.hid hq
            clear hq hbv hb
            go_wp2_with fail
            rw [HBV.out]
            refine (bit_calls w1.heap.size s2 l2 out2 _ _ ctx b wr hs2 hc256 hb1 hl2 oP2 oO2 (by omega) B2.size a _ bS2).mono ?_
            rintro e w5 ⟨l3, O3, rfl, hl3, oP3, oO3, B3', bS3⟩
            have hsl := step_len s2 ctx (s2.mid ctx) b
            have HB3 := enc_bit HB.out.2 HBE.out.symm
            have hmid := St.mid_lt hs2 hc256
            have hs3 := St.Ok.step hs2 hc256 (b := b) hmid.1 hmid.2
            have hctx2 := hctx.next hb1
            generalize s2.step ctx (s2.mid ctx) b = st at *
            obtain ⟨y, hy⟩ : ∃ y, y = out2 ++ st.1 := ⟨_, rfl⟩
            have HYL := Lib.hid (show y.length ≤ out2.length + 4 by rw [hy, List.length_append]; omega)
            rw [← hy] at oO3 HB3
            replace HB3 := Lib.hid HB3
            obtain ⟨A3, c3, rfl⟩ := own_slice oO3
            have hnP := own_blk_ne oP3 bS3 (by decide)
            have hnO := own_blk_ne oO3 bS3 (by decide)
            have e0 := bS3.cell 0
            have e1 := bS3.cell 1
            have e2 := bS3.cell 2
            have e3 := bS3.cell 3
            have f0 := bS3.frozen 0
            have f1 := bS3.frozen 1
            have f2 := bS3.frozen 2
            have f3 := bS3.frozen 3
            simp only [List.getElem?_toArray, List.getElem?_cons_succ, List.getElem?_cons_zero] at e0 e1 e2 e3
            clear hy hsl d0 d1 d2 d3 hmid HB HBE HBV bS2 oP2 oO2
            rcases (by omega : b = 1 ∨ b = 0) with rfl | rfl
            · go_wp2_with fail
              have hq' := HQ.out
              have hyl := HYL.out
              have hHB := HB3.out
              go_roundg j
              case measure => omega
              case rel =>
                exact ⟨2 * ctx + 1, q / 2, st.2, l3, y, A3, c3, by go_num, by go_num, hctx2, hs3, hl3, (((bS3.put 0 _).put 1 _).put 2 _).put 3 _,
                  (((oP3.far hnP _).far hnP _).far hnP _).far hnP _, (((oO3.far hnO _).far hnO _).far hnO _).far hnO _,
                  ((((B2.trans B3').setCell (p := ⟨a, 0, none⟩) ha _).setCell (p := ⟨a, 1, none⟩) ha _).setCell (p := ⟨a, 2, none⟩) ha _).setCell (p := ⟨a, 3, none⟩) ha _, by omega, by rw [hq'], hHB.1, hHB.2⟩
            · go_wp2_with fail
              have hq' := HQ.out
              have hyl := HYL.out
              have hHB := HB3.out
              go_roundg j
              case measure => omega
              case rel =>
                exact ⟨2 * ctx + 0, q / 2, st.2, l3, y, A3, c3, by go_num, by go_num, hctx2, hs3, hl3, (((bS3.put 0 _).put 1 _).put 2 _).put 3 _,
                  (((oP3.far hnP _).far hnP _).far hnP _).far hnP _, (((oO3.far hnO _).far hnO _).far hnO _).far hnO _,
                  ((((B2.trans B3').setCell (p := ⟨a, 0, none⟩) ha _).setCell (p := ⟨a, 1, none⟩) ha _).setCell (p := ⟨a, 2, none⟩) ha _).setCell (p := ⟨a, 3, none⟩) ha _, by omega, by rw [hq'], hHB.1, hHB.2⟩
      · obtain rfl : i = N := by omega
        have HE := Lib.hid (by
          have h := H.out
          rw [List.drop_of_length_le (by rw [← HN.out]; omega)] at h
          simpa [encBytes] using h : out = T ∧ s = Fs)
        have hne : ¬ xs = [] := fun e => HZ.out (by rw [HN.out, e]; rfl)
        have HNE := Lib.hid hne
        have rO : Reads wr (.slice A' out.length c') (u8s out) := Reads.of_own oO
        have o1' := o1.below' B
        have BW := b1.trans (B.mono s1)
        have sW := BW.size
        have e0 := bS.cell 0
        have e3 := bS.cell 3
        simp only [List.getElem?_toArray, List.getElem?_cons_succ, List.getElem?_cons_zero] at e0 e3
        clear hrr hr hne H oP oO hx B
        go_wp2_with (at_builtin; refine wpList_appends elem_u8 rfl (.tmp 48) (.tmp 50) rfl w.heap.size (.slice A1 hd.length c1) _ _ rfl o1' (.slice A' out.length c') (u8s out) rfl rO (u8s_one _) (by rw [u8s_length]; omega) (by rw [u8s_length]; omega) sW ?_)
        intro v7 w7 h7 g7 q7
        have o7 : OwnB 5 w7 w.heap.size v7 (hd ++ out) := by unfold OwnB; rw [List.length_append, u8s_append]; simpa [u8s_length] using h7
        have b7 : Below w.heap.size w w7 := BW.grown g7 sW (fun k hk => (World.ownsRow.lt o1' k hk).1)
        have bS7 := bS.grown g7 (fun e => own_blk_ne o1' bS (by decide) e.symm)
        obtain ⟨l7, hl7⟩ : ∃ l7, l7 = hd ++ out := ⟨_, rfl⟩
        have hl7l : l7.length ≤ 21 + 32 * i := by rw [hl7, List.length_append]; omega
        rw [← hl7] at o7
        have HL7 := Lib.hid hl7
        clear h7 g7 q7 hl7 o1' o1 bS BW e0 e3 rO
        go_wp2_with fail
        go_loopg [3, 10] 4 (fun n v kv wr => ∃ (q : Nat) (l : List Nat), kv = .int .u64 q ∧ n ≤ 4 ∧ OwnB 5 wr w.heap.size v l ∧ Blk wr a 56 #[.int .u64 s.lo, .int .u64 s.hi, .slice AP 256 cP, .slice A' out.length c'] ∧ Below w.heap.size w wr ∧ l.length + n ≤ l7.length + 4 ∧ Hid (q = 256 ^ n / 256 ∧ l ++ flushN n s.lo = l7 ++ flushN 4 s.lo))
        case atStart => exact ⟨16777216, l7, rfl, by omega, o7, bS7, b7, by omega, rfl, rfl⟩
        case round =>
          obtain ⟨q, l, rfl, hn4, oL, bL, BL, hll, HB⟩ := hrel
          by_cases hz9 : gk = 0
          · subst hz9
            obtain rfl : q = 0 := HB.out.1
            go_wp2_with fail
            go_ret
            refine ⟨_, rfl, ?_, BL⟩
            have he : enc xs = l := by
              have h1 := HB.out.2
              rw [flushN_4] at h1
              simp only [flushN, List.append_nil] at h1
              rw [h1, HL7.out, HHD.out, HE.out.1, HE.out.2, HT.out, HF.out, enc, body, if_neg HNE.out, HN.out]
              simp
            rw [he]
            exact oL
          · obtain ⟨j, rfl⟩ : ∃ j, gk = j + 1 := ⟨gk - 1, by omega⟩
            have hq : q = 256 ^ j := by have h := HB.out.1; rw [Nat.pow_succ] at h; omega
            have hq1 : 1 ≤ q ∧ q ≤ 16777216 := by rw [hq]; exact ⟨Nat.one_le_pow _ _ (by omega), by have h := Nat.pow_le_pow_right (n := 256) (by omega) (show j ≤ 3 by omega); simpa using h⟩
            have hq0 : (0 : Int) < q := by omega
            have hdv : (s.lo : Int) / (q : Int) = ((s.lo / q : Nat) : Int) := (Int.natCast_ediv _ _).symm
            have hmd : ((s.lo / q : Nat) : Int) % 256 = ((s.lo / q % 256 : Nat) : Int) := by omega
            have d0 := bL.cell 0
            simp only [List.getElem?_toArray, List.getElem?_cons_zero] at d0
            have HQ := Lib.hid hq
            have hlo := hs.2.2
            have hdl : (s.lo : Int) / (q : Int) ≤ s.lo := by rw [hdv]; have := Nat.div_le_self s.lo q; omega
            have hd0 : 0 ≤ (s.lo : Int) / (q : Int) := by rw [hdv]; exact Int.natCast_nonneg _
            have sL := BL.size
            obtain ⟨A9, c9, rfl⟩ := own_slice oL
            have hno := own_blk_ne oL bL (by decide)
            have HU := Lib.hid (byte_value s.lo q (by have := hs.lt; omega))
            clear hq hz9 hdv hmd
            go_wp2_with (at_builtin; refine wpList_push elem_u8 rfl (.tmp 56) (.tmp 63) rfl w.heap.size (.slice A9 l.length c9) _ _ rfl (oL.alloc _) wr.heap.size (.int .u8 ((IntKind.u64.wrap ((s.lo : Int) / (q : Int))).tmod 256 % 256)) rfl ?c1 rfl ?c2 ?c3 ?c4 ?_)
            case c1 => simp
            case c2 => omega
            case c3 => omega
            case c4 => simp; omega
            intro v8 w8 h8 g8 q8
            rw [HU.out] at h8
            have o8 : OwnB 5 w8 w.heap.size v8 (l ++ [s.lo / q % 256]) := by unfold OwnB; rw [List.length_append, u8s_append]; exact h8
            have b8 := (BL.alloc sL (Obj.cells #[Value.int IntKind.u8 ((IntKind.u64.wrap ((s.lo : Int) / (q : Int))).tmod 256 % 256)] 5)).grown g8 (by simp; omega) (fun k hk => (World.ownsRow.lt oL k hk).1)
            have bS8 := (bL.alloc (Obj.cells #[Value.int IntKind.u8 ((IntKind.u64.wrap ((s.lo : Int) / (q : Int))).tmod 256 % 256)] 5)).grown g8 (fun e => hno e.symm)
            obtain ⟨y, hy⟩ : ∃ y, y = l ++ [s.lo / q % 256] := ⟨_, rfl⟩
            have hyl : y.length = l.length + 1 := by rw [hy]; simp
            have HYL := Lib.hid hyl
            rw [← hy] at o8
            have HY := Lib.hid hy
            clear h8 g8 q8 hy hyl oL bL BL
            go_wp2_with fail
            have hq' := HQ.out
            have hyl := HYL.out
            have hHB := HB.out.2
            go_roundg j
            case measure => omega
            case rel => exact ⟨q / 256, y, by go_num, by omega, o8, bS8, b8, by omega, by rw [hq'], by rw [← hHB, HY.out, hq']; simp [flushN, Nat.pow_mul]⟩
end Go.Proofs.Ytcoaopaiipkcpaa
