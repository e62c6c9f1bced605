/- EffectsExactlyOnce, walked. -/
import Derived.Test.YtlmmhgbbfmocaaaSeq
namespace Go.Proofs.Ytlmmhgbbfmocaaa
open Go.RowKit

set_option maxHeartbeats 1000000 in
set_option maxRecDepth 100000 in
theorem once_calls (v : Value) (zs : List Int) (w : World) (h : Ints w v zs) (hz : ∀ z ∈ zs, i64 z) (hzl : zs.length ≤ 9223372036854775807) :
    Calls Try.prog 5 #[v] w fun e w' => e = .returned (.bool true) ∧ Below w.heap.size w w' := by
  have h' := h
  obtain ⟨A, c, rfl, hc, -⟩ := h
  have HZ := Lib.hid hz
  have HZL := Lib.hid hzl
  clear hz hzl
  go_enter Try.func5, Try.ntmps5
  go_wp2_with fail
  refine (new_calls w).mono ?_
  rintro e w1 ⟨rfl, K1, b1⟩
  obtain ⟨m, hm⟩ : ∃ m, m = w.heap.size := ⟨_, rfl⟩
  have h1 := h'.below b1
  have hgl := K1.blk.lt
  rw [← hm] at K1 hgl ⊢
  have hmw : w.heap.size ≤ m := by omega
  clear h' hm
  go_wp2_with fail
  refine (calls_calls _ zs w1 h1 HZ.out HZL.out).mono ?_
  rintro e w2 ⟨vs, cs, rfl, oc, hcl, hcs, hok, b2⟩
  have B2 := b1.trans (b2.mono b1.size)
  have K2 := K1.below' b2
  have HC := Lib.hid hcs
  have HO := Lib.hid hok
  obtain ⟨As, ns, rfl, _⟩ := oc.slice
  have rc := oc.row
  have hap : ∀ k, (Value.slice As cs.length ns).ownBlock = some k → k ∉ [m + 1, m] := fun k hk hi => by
    have := oc.ge k hk
    simp at hi
    omega
  obtain ⟨M, hM⟩ : ∃ M, M = w2.heap.size := ⟨_, rfl⟩
  have hmM : m + 1 < M := by have := K2.blk.lt; omega
  obtain ⟨N, hN⟩ : ∃ N, N = cs.length := ⟨_, rfl⟩
  have HN := Lib.hid hN
  have rc' := rc
  rw [← hN] at hcl rc hap ⊢
  have HAP := Lib.hid hap
  have S2 : OnceAt w2 w2 m M (.slice none 0 0) (.slice none 0 0) [] [] [] 0 := ⟨Own.nil _ _, Own.nil _ _, K2, Upd.refl _ _, fun k hk => (by cases hk), fun p hp => (by cases hp), hM, hmM⟩
  have HS2 := Lib.hid S2
  clear hcs hok oc hap hN b1 b2 h1 K1 rc' hM S2
  go_wp2_with fail
  go_loopg [4, 5, 7] N (fun n sh st iv wr => ∃ (k : Nat) (a b : List Eff) (W : List (Int × Ent)) (bd : Int), k + n = N ∧ iv = .int .i64 k ∧ OnceAt w2 wr m M sh st a b W bd ∧ a.length ≤ 6 * k ∧ W.length ≤ k ∧ Hid (Even a b W ∧ WOk W))
  case atStart => exact ⟨0, [], [], [], 0, by omega, rfl, HS2.out, by simp, by simp, ⟨fun x => rfl, WOk.nil⟩⟩
  case round =>
    obtain ⟨k, a, b, W, bd, hk, rfl, S, hal, hWl, HE⟩ := hrel
    have HK := Lib.hid hk
    have hkN : k ≤ N := by omega
    clear hk
    have hbl : b.length ≤ a.length := by have := HE.out.1.len; omega
    by_cases hlt : k < N
    · have hk1 : k < cs.length := by rw [← HN.out]; exact hlt
      have U := S.upd
      have r3 := rc.upd U HAP.out
      obtain ⟨g1, o1, rfl, hg, c0, c1, c2⟩ := r3.cl_at hk1
      have hxo := Lib.hid (HO.out _ (List.getElem_mem hk1))
      have hxr0 := HC.out _ (List.getElem_mem hk1)
      have hxr := hxr0.upd U (K2.apart hxr0)
      have hi0 : (0 : Int) ≤ k := by omega
      have hi1 : (k : Int) < N := by omega
      generalize cs[k] = x at *
      obtain ⟨xc, xt, ⟨xa, xn, xcp⟩, xl⟩ := x
      simp only [Sl.v] at c0 c1 c2 hxr
      obtain ⟨Ax, cx, hxs, hxc⟩ := hxr.slice
      cases hxs
      have t0 := hxo.out.lo
      have t1 := hxo.out.hi
      have t2 := hxo.out.len
      simp only at t0 t1 t2
      have hti : i64 xt := ⟨by omega, by omega⟩
      have HS := Lib.hid S
      obtain ⟨A4, c4, rfl, _⟩ := S.shO.slice
      obtain ⟨A5, c5, rfl, _⟩ := S.stO.slice
      clear S U hxr0
      cases xc with
      | true =>
        go_wp2_with fail
        refine (confirm_seq (m + 1) m W bd xt wr HS.out.brd HE.out.2 hti).mono ?_
        rintro e w3 ⟨A6, c6, q, W', bd', rfl, K3, r6, u3, s3⟩
        have S3 := HS.out.board K3 u3 (fun i hi => hi) (fun p hp => .inl (s3.kept p hp))
        have hE3 := HE.out.1.conf (by omega) s3
        have hw3 := s3.wok HE.out.2
        have hl3 : b.length + q.length ≤ a.length := by have := hE3.len; rw [List.length_append] at this; omega
        have sz3 : M ≤ w3.heap.size := by rw [S3.size]; exact S3.upd.size
        have HS3 := Lib.hid S3
        have HE3 := Lib.hid (⟨hE3, hw3.1⟩ : Even a (b ++ q) W' ∧ WOk W')
        have hwl := hw3.2
        have o3 := S3.stO
        clear c0 c1 c2 r3 hxr K3 u3 s3 S3 hE3 hw3 HS HE
        go_wp2_with (at_builtin; refine wpList_appends elem_eff rfl (.tmp 27) (.tmp 34) rfl M (.slice A5 b.length c5) b rfl o3 (.slice A6 q.length c6) q rfl r6 ?q1 ?q2 ?q3 ?_)
        case q1 => omega
        case q2 => omega
        case q3 => exact sz3
        intro v7 w7 o7 g7 l7
        have S7 := HS3.out.pushSt o7 g7 l7
        clear o7 g7 l7 o3
        -- tail
        obtain ⟨a7, b7, W7, bd7, rfl, hb7', rfl, rfl⟩ : ∃ a7 b7 W7 bd7, a7 = a ∧ b7 = b ++ q ∧ W7 = W' ∧ bd7 = bd' := ⟨_, _, _, _, rfl, rfl, rfl, rfl⟩
        rw [← hb7'] at S7 HE3
        have hal7 : a7.length ≤ 6 * (k + 1) := by omega
        have hwl7 : W7.length ≤ k + 1 := by omega
        have HE7 := HE3
        clear HE3 hb7' HS3 hl3
        obtain ⟨P7, hP7⟩ : ∃ P, P = takeL 6000 W7 := ⟨_, rfl⟩
        have HP7 := Lib.hid hP7
        have HL7 := Lib.hid (hP7 ▸ HE7.out.1.len : a7.length = b7.length + P7.length)
        have hb7 : b7.length ≤ 6 * (k + 1) := by have := HL7.out; omega
        have hp7 : P7.length ≤ 6 * (k + 1) := by have := HL7.out; omega
        clear hP7
        obtain ⟨A7, c7, rfl, _⟩ := S7.stO.slice
        have r7 := S7.stO.row
        have HS7 := Lib.hid S7
        clear S7
        go_wp2_with (at_builtin; refine wpList_appends elem_eff rfl (.const (.slice none 0 0)) (.tmp 59) rfl w7.heap.size (.slice none 0 0) [] rfl (Own.nil _ _) (.slice A7 b7.length c7) b7 rfl r7 ?p1 ?p2 ?p3 ?_)
        case p1 => simp; omega
        case p2 => simp; omega
        case p3 => exact Nat.le_refl _
        intro v8 w8 o8 g8 l8
        have G8 : Below w7.heap.size w7 w8 := (Below.refl _ _).grown g8 (Nat.le_refl _) (fun k hk => by cases hk)
        clear g8 l8 r7
        obtain ⟨A9, c9, rfl, _⟩ := o8.slice
        go_wp2_with fail
        refine (pending_calls (m + 1) m W7 bd7 w8 (HS7.out.new G8).brd HE7.out.2).mono ?_
        rintro e w9 ⟨vp, rfl, op, b9⟩
        rw [← HP7.out] at op
        obtain ⟨Ap, cp, rfl, _⟩ := op.slice
        have o9 := o8.below' b9
        have rp := op.row
        have G9 := G8.trans (b9.mono G8.size)
        have sz9 := G9.size
        clear op b9 o8
        go_wp2_with (at_builtin; refine wpList_appends elem_eff rfl (.tmp 60) (.tmp 62) rfl w7.heap.size (.slice A9 b7.length c9) b7 rfl o9 (.slice Ap P7.length cp) P7 rfl rp ?p4 ?p5 ?p6 ?_)
        case p4 => omega
        case p5 => omega
        case p6 => exact sz9
        intro v10 w10 o10 g10 l10
        have G10 := G9.grown g10 sz9 (fun k hk => o9.ge k hk)
        have S10 := HS7.out.new G10
        have HS10 := Lib.hid S10
        clear o9 g10 l10 rp S10
        go_wp2_with fail
        refine (sameSet_calls _ _ a7 (b7 ++ P7) w10 HS10.out.shO.row o10.row (by omega) (by rw [List.length_append]; exact HL7.out) (fun x _ => by rw [List.count_append, HP7.out]; exact HE7.out.1 x)).mono ?_
        rintro e w11 ⟨rfl, b11⟩
        have S11 := HS10.out.new b11
        clear o10 b11
        go_wp2_with fail
        have hk := HK.out
        go_roundg (gk - 1)
        case measure => omega
        case rel => exact ⟨k + 1, a7, b7, W7, bd7, by omega, by go_num, S11, by omega, by omega, HE7⟩
      | false =>
        go_wp2_with fail
        have r5 : Row effE wr.drew (.slice xa xl.length xcp) xl := hxr
        have K5 : BoardAt wr.drew (m + 1) m W bd := HS.out.brd.drewN 1
        have S5 : OnceAt w2 wr.drew m M (.slice A4 a.length c4) (.slice A5 b.length c5) a b W bd := HS.out.new (below_drewN (Below.refl _ _) 1)
        have t1' := hxo.out.hi
        simp only at t1'
        have ok' := Lib.hid (hxo.out.ok : OkAll xl)
        have tk' := Lib.hid (hxo.out.ticks : ∀ e ∈ xl, e.tick = xt)
        have h6 : xt < 6000 := by omega
        have h40 : xl.length ≤ 40 := by omega
        clear HS t1'
        go_cut [8, 9, 10] (fun p q f wx => ShowPost (m + 1) m W bd xt xl wr.drew (.returned (.tuple #[p, q, f])) wx)
        case first =>
          go_region_law (go_simp; go_at_call 17; with_reducible refine (show_seq (m + 1) m W bd xt _ xl wr.drew K5 HE.out.2 r5 ok'.out t0 h6 h40 tk'.out).mono ?_; rintro e w3 hp; unfold ShowPost at hp; obtain ⟨A6, c6, d1, B6, e6, d2, n, W', vc, rfl, K3, ra, rb, u3, s3, hv, hfa, hfb⟩ := hp)
          all_goals (go_wp2_with fail; go_meet; exact ⟨A6, c6, d1, B6, e6, d2, n, W', vc, rfl, K3, ra, rb, u3, s3, hv, hfa, hfb⟩)
        unfold ShowPost at hcut
        obtain ⟨A6, c6, d1, B6, e6, d2, n, W', vc, he, K3, ra, rb, u3, s3, hv, hfa, hfb⟩ := hcut
        simp only [Ending.returned.injEq, Value.tuple.injEq, Array.mk.injEq, List.cons.injEq, and_true] at he
        obtain ⟨rfl, rfl, rfl⟩ := he
        obtain ⟨w3, rfl⟩ : ∃ y : World, y = wc := ⟨_, rfl⟩
        have S3 := S5.board K3 u3 (fun i hi => by simp at hi; simp [hi]) (s3.fresh hv)
        have hE3 := HE.out.1.show K5.sorted (by omega) s3
        have hw3 := s3.wok HE.out.2 (by omega) (by omega) hxo.out.ok hti
        have hl3 := s3.len HE.out.2
        have hd1 : d1.length ≤ 6 := by omega
        have hd2 := hl3.2
        have sz3 : M ≤ w3.heap.size := by rw [S3.size]; exact S3.upd.size
        have HS3 := Lib.hid S3
        have HE7 := Lib.hid (⟨hE3, hw3.1⟩ : Even (a ++ d1) (b ++ d2) W' ∧ WOk W')
        have hwl := hw3.2
        have o3 := S3.shO
        have lt5 := S5.shO.lt
        have HFB := Lib.hid hfb
        clear c0 c1 c2 r3 hxr r5 K5 K3 u3 s3 S3 hE3 hw3 HE hv hfa hfb hl3
        go_wp2_with (at_builtin; refine wpList_appends elem_eff rfl (.tmp 52) (.tmp 53) rfl M (.slice A4 a.length c4) a rfl o3 (.slice A6 d1.length c6) d1 rfl ra ?q1 ?q2 sz3 ?_)
        case q1 => omega
        case q2 => omega
        intro v6 w6 o6 g6 l6
        have S6 := HS3.out.pushSh o6 g6 l6
        have rb6 := rb.grown g6 (fun k hk e => by have h1 := HFB.out k hk; have h2 := lt5 k e.symm; have h3 := S5.upd; omega)
        have sz6 : M ≤ w6.heap.size := by rw [S6.size]; exact S6.upd.size
        have o6' := S6.stO
        obtain ⟨Ag, cg, rfl, _⟩ := o6.slice
        have HS6 := Lib.hid S6
        clear o6 g6 l6 o3 ra rb S6 HS3 lt5 S5
        obtain ⟨a7, ha7⟩ : ∃ a7, a7 = a ++ d1 := ⟨_, rfl⟩
        have hal7 : a7.length ≤ 6 * (k + 1) := by rw [ha7, List.length_append]; omega
        rw [← ha7] at HS6 HE7 ⊢
        clear ha7
        go_wp2_with (at_builtin; refine wpList_appends elem_eff rfl (.tmp 55) (.tmp 56) rfl M (.slice A5 b.length c5) b rfl o6' (.slice B6 d2.length e6) d2 rfl rb6 ?q1 ?q2 sz6 ?_)
        case q1 => omega
        case q2 => omega
        intro v7 w7 o7 g7 l7
        have S7 := HS6.out.pushSt o7 g7 l7
        clear o7 g7 l7 o6' rb6
        obtain ⟨b7, W7, bd7, hb7', rfl, rfl⟩ : ∃ b7 W7 bd7, b7 = b ++ d2 ∧ W7 = W' ∧ bd7 = bd := ⟨_, _, _, rfl, rfl, rfl⟩
        rw [← hb7'] at S7 HE7
        have hwl7 : W7.length ≤ k + 1 := by omega
        clear hb7' HS6
        obtain ⟨P7, hP7⟩ : ∃ P, P = takeL 6000 W7 := ⟨_, rfl⟩
        have HP7 := Lib.hid hP7
        have HL7 := Lib.hid (hP7 ▸ HE7.out.1.len : a7.length = b7.length + P7.length)
        have hb7 : b7.length ≤ 6 * (k + 1) := by have := HL7.out; omega
        have hp7 : P7.length ≤ 6 * (k + 1) := by have := HL7.out; omega
        clear hP7
        obtain ⟨A7, c7, rfl, _⟩ := S7.stO.slice
        have r7 := S7.stO.row
        have HS7 := Lib.hid S7
        clear S7
        go_wp2_with (at_builtin; refine wpList_appends elem_eff rfl (.const (.slice none 0 0)) (.tmp 59) rfl w7.heap.size (.slice none 0 0) [] rfl (Own.nil _ _) (.slice A7 b7.length c7) b7 rfl r7 ?p1 ?p2 ?p3 ?_)
        case p1 => simp; omega
        case p2 => simp; omega
        case p3 => exact Nat.le_refl _
        intro v8 w8 o8 g8 l8
        have G8 : Below w7.heap.size w7 w8 := (Below.refl _ _).grown g8 (Nat.le_refl _) (fun k hk => by cases hk)
        clear g8 l8 r7
        obtain ⟨A9, c9, rfl, _⟩ := o8.slice
        go_wp2_with fail
        refine (pending_calls (m + 1) m W7 bd7 w8 (HS7.out.new G8).brd HE7.out.2).mono ?_
        rintro e w9 ⟨vp, rfl, op, b9⟩
        rw [← HP7.out] at op
        obtain ⟨Ap, cp, rfl, _⟩ := op.slice
        have o9 := o8.below' b9
        have rp := op.row
        have G9 := G8.trans (b9.mono G8.size)
        have sz9 := G9.size
        clear op b9 o8
        go_wp2_with (at_builtin; refine wpList_appends elem_eff rfl (.tmp 60) (.tmp 62) rfl w7.heap.size (.slice A9 b7.length c9) b7 rfl o9 (.slice Ap P7.length cp) P7 rfl rp ?p4 ?p5 ?p6 ?_)
        case p4 => omega
        case p5 => omega
        case p6 => exact sz9
        intro v10 w10 o10 g10 l10
        have G10 := G9.grown g10 sz9 (fun k hk => o9.ge k hk)
        have S10 := HS7.out.new G10
        have HS10 := Lib.hid S10
        clear o9 g10 l10 rp S10
        go_wp2_with fail
        refine (sameSet_calls _ _ a7 (b7 ++ P7) w10 HS10.out.shO.row o10.row (by omega) (by rw [List.length_append]; exact HL7.out) (fun x _ => by rw [List.count_append, HP7.out]; exact HE7.out.1 x)).mono ?_
        rintro e w11 ⟨rfl, b11⟩
        have S11 := HS10.out.new b11
        clear o10 b11
        go_wp2_with fail
        have hk := HK.out
        go_roundg (gk - 1)
        case measure => omega
        case rel => exact ⟨k + 1, a7, b7, W7, bd7, by omega, by go_num, S11, by omega, by omega, HE7⟩
    · obtain rfl : k = N := by omega
      go_wp2_with fail
      refine (lives_calls wr).mono ?_
      rintro e w12 ⟨rfl, b12⟩
      have U12 := S.upd.new b12
      go_wp2_with fail
      go_ret
      exact ⟨rfl, B2.trans (U12.below B2.size (fun i hi => by simp at hi; omega))⟩
end Go.Proofs.Ytlmmhgbbfmocaaa
