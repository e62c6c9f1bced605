/- EffectsCommute, walked. -/
import Derived.Test.YtlmmhgbbfmocaaaTwo
namespace Go.Proofs.Ytlmmhgbbfmocaaa
open Go.RowKit

set_option maxHeartbeats 4000000 in
set_option maxRecDepth 100000 in
theorem commute_calls (v : Value) (zs : List Int) (s t one two : Int) (w : World) (h : Ints w v zs) (hz : ∀ z ∈ zs, i64 z) (hzl : zs.length ≤ 9223372036854775807) (i1 : i64 s) (i2 : i64 t) (i3 : i64 one) (i4 : i64 two) :
    Calls Try.prog 8 #[v, .int .i64 s, .int .i64 t, .int .i64 one, .int .i64 two] w fun e w' => e = .returned (.bool true) ∧ Below w.heap.size w w' := by
  have h' := h
  obtain ⟨A, c, rfl, hc, -⟩ := h
  have HZ := Lib.hid hz
  have HZL := Lib.hid hzl
  have I1 := Lib.hid i1
  have I2 := Lib.hid i2
  have I3 := Lib.hid i3
  have I4 := Lib.hid i4
  obtain ⟨p, hp, hp2⟩ := around_nat s 9 (by omega)
  obtain ⟨r, hr, hr2⟩ := around_nat t 8 (by omega)
  obtain ⟨q, hq⟩ : ∃ q : Nat, q = (p + 1 + r) % 9 := ⟨_, rfl⟩
  have hq1 : q < 9 := by omega
  have hpq : p ≠ q := by omega
  have hQ : ((p : Int) + 1 + r) % 9 = q := by omega
  have HP := Lib.hid hp
  have HR := Lib.hid hr
  have HPQ := Lib.hid (fun e => hpq (by omega) : (p : Int) ≠ q)
  clear hz hzl i1 i2 i3 i4 hp hr hq hpq
  have hpi : i64 (p : Int) := ⟨by omega, by omega⟩
  have hqi : i64 (q : Int) := ⟨by omega, by omega⟩
  obtain ⟨X, hX⟩ : ∃ X, X = listL p one := ⟨_, rfl⟩
  obtain ⟨Y, hY⟩ : ∃ Y, Y = listL q two := ⟨_, rfl⟩
  have hXl : X.length ≤ 6 := by rw [hX]; exact listL_len _ _
  have hYl : Y.length ≤ 6 := by rw [hY]; exact listL_len _ _
  have kX := Lib.hid (by rw [hX]; exact listL_ok _ _ hpi : OkAll X)
  have kY := Lib.hid (by rw [hY]; exact listL_ok _ _ hqi : OkAll Y)
  have tX := Lib.hid (by rw [hX]; exact fun x hx => (listL_each _ _ hpi x hx).1 : ∀ x ∈ X, x.tick = p)
  have tY := Lib.hid (by rw [hY]; exact fun x hx => (listL_each _ _ hqi x hx).1 : ∀ x ∈ Y, x.tick = q)
  have HX := Lib.hid hX
  have HY := Lib.hid hY
  clear hX hY
  go_enter Try.func8, Try.ntmps8
  go_wp2_with fail
  refine (new_calls w).mono ?_
  rintro e w0 ⟨rfl, Kx, b0⟩
  obtain ⟨mx, hmx⟩ : ∃ m, m = w.heap.size := ⟨_, rfl⟩
  have h0 := h'.below b0
  have hgx := Kx.blk.lt
  rw [← hmx] at Kx hgx ⊢
  have hmw : w.heap.size ≤ mx := by omega
  clear h' hmx
  go_wp2_with fail
  refine (new_calls w0).mono ?_
  rintro e w1 ⟨rfl, Ky, b1⟩
  obtain ⟨my, hmy⟩ : ∃ m, m = w0.heap.size := ⟨_, rfl⟩
  have h1 := h0.below b1
  have B1 := b0.trans (b1.mono b0.size)
  have hgy := Ky.blk.lt
  have Kx1 := Kx.below' b1
  rw [← hmy] at Ky hgy ⊢
  have hxy : mx + 1 < my := by omega
  clear h0 hmy Kx b0 b1
  go_wp2_with fail
  refine (calls_calls _ zs w1 h1 HZ.out HZL.out).mono ?_
  rintro e w2 ⟨vs, cs, rfl, oc, hcl, hcs, hok, b2⟩
  have B2 := B1.trans (b2.mono B1.size)
  have HC := Lib.hid hcs
  have HO := Lib.hid hok
  obtain ⟨As, ns, rfl, _⟩ := oc.slice
  have rc := oc.row
  have Kx2 := Kx1.below' b2
  have Ky2 := Ky.below' b2
  have hap : ∀ k, (Value.slice As cs.length ns).ownBlock = some k → k ∉ [mx + 1, mx, my + 1, my] := fun k hk hi => by
    have := oc.ge k hk
    simp at hi
    omega
  obtain ⟨N, hN⟩ : ∃ N, N = cs.length := ⟨_, rfl⟩
  have HN := Lib.hid hN
  rw [← hN] at hcl rc hap ⊢
  have HAP := Lib.hid hap
  have HAC := Lib.hid (fun x hx k hk hi => by
    have h1 := Kx2.apart (hcs x hx) k hk
    have h2 := Ky2.apart (hcs x hx) k hk
    simp at h1 h2 hi
    omega : ∀ x ∈ cs, ∀ k, x.s.v.ownBlock = some k → k ∉ [mx + 1, mx, my + 1, my])
  have HS2 := Lib.hid (⟨Kx2, Ky2, hxy, rfl, WOk.nil, WOk.nil, Upd.refl _ _⟩ : TwoAt w2 w2 mx my [] [] 0)
  clear hcs hok oc hap hN B1 b2 h1 Kx1 Ky Kx2 Ky2
  go_wp2_with fail
  go_loopg [14] N (fun n iv wr => ∃ (k : Nat) (Wx Wy : List (Int × Ent)) (bd : Int), k + n = N ∧ iv = .int .i64 k ∧ TwoAt w2 wr mx my Wx Wy bd ∧ Wx.length ≤ k ∧ Wy.length ≤ k)
  case atStart => exact ⟨0, [], [], 0, by omega, rfl, HS2.out, by simp, by simp⟩
  case round =>
    obtain ⟨k, Wx, Wy, bd, hk, rfl, S, hWx, hWy⟩ := hrel
    have HK := Lib.hid hk
    have hkN : k ≤ N := by omega
    clear hk
    by_cases hlt : k < N
    · have hk1 : k < cs.length := by rw [← HN.out]; exact hlt
      have U := S.upd
      have r3 := rc.upd U HAP.out
      have hap3 := fun k hk => HAP.out k hk
      obtain ⟨g1, o1, rfl, hg, c0, c1, c2⟩ := r3.cl_at hk1
      have hxo := Lib.hid (HO.out _ (List.getElem_mem hk1))
      have hxr := (HC.out _ (List.getElem_mem hk1)).upd U (HAC.out _ (List.getElem_mem hk1))
      have hi0 : (0 : Int) ≤ k := by omega
      have hi1 : (k : Int) < N := by omega
      have hgn := Lib.hid (hap3 g1 rfl)
      generalize cs[k] = x at *
      obtain ⟨xc, xt, ⟨xa, xn, xcp⟩, xl⟩ := x
      simp only [Sl.v] at c0 c1 c2 hxr
      obtain ⟨Ax, cx, hxs, hxc⟩ := hxr.slice
      cases hxs
      have t0 := hxo.out.lo
      have t1 := hxo.out.hi
      have t2 := hxo.out.len
      simp only at t0 t1 t2
      have ok' := Lib.hid (hxo.out.ok : OkAll xl)
      have tk' := Lib.hid (hxo.out.ticks : ∀ e ∈ xl, e.tick = xt)
      have hti : i64 xt := ⟨by omega, by omega⟩
      have h6 : xt < 6000 := by omega
      have h40 : xl.length ≤ 40 := by omega
      have HS := Lib.hid S
      clear S U r3 hap3
      cases xc with
      | true =>
        go_wp2_with fail
        refine (confirm_seq (mx + 1) mx Wx bd xt wr HS.out.x HS.out.ox hti).mono ?_
        rintro e w3 ⟨A6, c6, q6, Wx', bd', rfl, K3, -, u3, s3⟩
        have d1 := (u3.cell (p := ⟨g1, o1 + k * 3 + 1, none⟩) hg (fun hi => hgn.out (by simp at hi ⊢; omega))).trans c1
        have ky3 := HS.out.y1 u3 (fun i hi => hi)
        clear c0 c1 c2
        go_wp2_with fail
        refine (confirm_seq (my + 1) my Wy bd xt w3 ky3 HS.out.oy hti).mono ?_
        rintro e w4 ⟨A7, c7, q7, Wy', bd'', rfl, K4, -, u4, s4⟩
        obtain rfl : bd'' = bd' := by rw [s4.sx.2, s3.sx.2]
        have S4 := HS.out.both K3 u3 (fun i hi => hi) K4 u4 (fun i hi => hi) (by rw [s4.sx.1, s3.sx.1, HS.out.st]) (s3.wok HS.out.ox).1 (s4.wok HS.out.oy).1
        have l3 := (s3.wok HS.out.ox).2
        have l4 := (s4.wok HS.out.oy).2
        clear d1 ky3 K3 K4 u3 u4 s3 s4 HS hxr
        go_wp2_with fail
        have hk := HK.out
        go_roundg (gk - 1)
        case measure => omega
        case rel => exact ⟨k + 1, Wx', Wy', _, by omega, by go_num, S4, by omega, by omega⟩
      | false =>
        go_wp2_with fail
        have r5 : Row effE wr.drew (.slice xa xl.length xcp) xl := hxr
        have K5 : BoardAt wr.drew (mx + 1) mx Wx bd := HS.out.x.drewN 1
        go_cut [] (fun wx => ∃ e, ShowPost (mx + 1) mx Wx bd xt xl wr.drew e wx)
        case first =>
          go_region_law (go_simp; go_at_call 17; with_reducible refine (show_seq (mx + 1) mx Wx bd xt _ xl wr.drew K5 HS.out.ox r5 ok'.out t0 h6 h40 tk'.out).mono ?_; rintro e w3 hp; unfold ShowPost at hp; obtain ⟨A6, c6, d1, B6, e6, d2, n, W', vc, rfl, K3, ra, rb, u3, s3, hv, hfa, hfb⟩ := hp)
          all_goals (go_wp2_with fail; go_meet; exact ⟨_, A6, c6, d1, B6, e6, d2, n, W', vc, rfl, K3, ra, rb, u3, s3, hv, hfa, hfb⟩)
        unfold ShowPost at hcut
        obtain ⟨e, A6, c6, d1, B6, e6, d2, n, Wx', vc, -, K3, -, -, u3, s3, -, -, -⟩ := hcut
        obtain ⟨w3, rfl⟩ : ∃ y : World, y = wc := ⟨_, rfl⟩
        have U3 : Upd [mx] wr w3 := (Upd.refl [mx] wr).drew.trans u3
        have U3' : Upd [mx + 1, mx, my + 1, my] wr w3 := U3.mono (fun i hi => .inl (by simp at hi ⊢; omega))
        have y0 := (U3'.cell (p := ⟨g1, o1 + k * 3, none⟩) hg hgn.out).trans c0
        have y1 := (U3'.cell (p := ⟨g1, o1 + k * 3 + 1, none⟩) hg hgn.out).trans c1
        have y2 := (U3'.cell (p := ⟨g1, o1 + k * 3 + 2, none⟩) hg hgn.out).trans c2
        have ky3 := HS.out.y1 U3 (fun i hi => by simp at hi; simp [hi])
        have r6 : Row effE w3.drew (.slice xa xl.length xcp) xl := (HS.out.x.row_upd hxr U3 (fun i hi => by simp at hi; simp [hi]) : Row effE w3 _ _).drew
        have K6 : BoardAt w3.drew (my + 1) my Wy bd := ky3.drewN 1
        clear c0 c1 c2 r5 K5 u3 U3' hxr ky3
        go_wp2_with fail
        go_region_law (go_simp; go_at_call 17; with_reducible refine (show_seq (my + 1) my Wy bd xt _ xl w3.drew K6 HS.out.oy r6 ok'.out t0 h6 h40 tk'.out).mono ?_; rintro e w4 hp; unfold ShowPost at hp; obtain ⟨A7, c7, f1, B7, e7, f2, n7, Wy', vd, rfl, K4, -, -, u4, s4, -, -, -⟩ := hp)
        all_goals (
          have U4 : Upd [my] w3 w4 := (Upd.refl [my] w3).drew.trans u4
          have S4 := HS.out.both K3 U3 (fun i hi => by simp at hi; simp [hi]) K4 U4 (fun i hi => by simp at hi; simp [hi]) (by rw [s4.sx.2.2, s3.sx.2.2, HS.out.st]) (s3.wok HS.out.ox (by omega) h40 ok'.out hti).1 (s4.wok HS.out.oy (by omega) h40 ok'.out hti).1
          have l3 := (s3.wok HS.out.ox (by omega) h40 ok'.out hti).2
          have l4 := (s4.wok HS.out.oy (by omega) h40 ok'.out hti).2
          clear y0 y1 y2 K3 K4 U3 u4 U4 s3 s4 HS K6 r6
          go_wp2_with fail
          have hk := HK.out
          go_roundg (gk - 1)
          case measure => omega
          case rel => exact ⟨k + 1, Wx', Wy', _, by omega, by go_num, S4, by omega, by omega⟩)
    · obtain rfl : k = N := by omega
      go_wp2_with fail
      refine (around_named s 9 p wr I1.out (by omega) (by omega) HP.out).mono ?_
      rintro e wz ⟨rfl, rfl⟩
      go_wp2_with fail
      refine (around_named t 8 r _ I2.out (by omega) (by omega) HR.out).mono ?_
      rintro e wz ⟨rfl, rfl⟩
      obtain ⟨M, hM⟩ : ∃ M, M = strip Wx := ⟨_, rfl⟩
      have HM1 := Lib.hid hM.symm
      have HM2 := Lib.hid (S.st.symm.trans hM.symm)
      have hsM := Lib.hid (hM ▸ S.x.sorted.strip : Sorted M)
      have okx := Lib.hid S.ox
      have oky := Lib.hid S.oy
      have xwr := S.x
      have ywr := S.y
      have Uwr := S.upd
      have Rwr := Rows.nil wr
      have hlWx := Lib.hid (by omega : Wx.length ≤ 36)
      have hlWy := Lib.hid (by omega : Wy.length ≤ 36)
      clear S hM
      go_wp2_with fail
      refine (list_calls p one wr hpi I3.out).mono ?_
      rintro e w3 ⟨vw3, rfl, ow3, bw3⟩
      rw [← HX.out] at ow3
      obtain ⟨Aw3, cw3, rfl, _⟩ := ow3.slice
      have xw3 := xwr.below' bw3
      have yw3 := ywr.below' bw3
      have Rw3 := Rwr.below' bw3
      have Uw3 := Uwr.new bw3
      have rw3 := ow3.row
      clear ow3 bw3 xwr ywr Rwr Uwr
      go_wp2_with fail
      refine (show_seq (mx + 1) mx Wx bd p _ X w3 xw3 okx.out rw3 kX.out (by omega) (by omega) (by omega) tX.out).mono ?_
      rintro e w4 hp
      unfold ShowPost at hp
      obtain ⟨P1, p1, d1, Q1, q1, E1, n1, Wx1, vc1, rfl, xw4, ra, rb, u, sw4, -, -, -⟩ := hp
      have yw4 := xw3.beside yw3 u (fun i hi => by simp at hi; simp [hi]) (by simp; omega) (by simp; omega)
      have Rw4 := ((Rw3.upd xw3 u (fun i hi => by simp at hi; simp [hi])).cons ra).cons rb
      have Uw4 := Uw3.trans' u (fun i hi => .inl (by simp at hi; simp [hi]))
      have okw4 := Lib.hid (sw4.wok okx.out (by have := hlWx.out; omega) (by omega) kX.out hpi).1
      have hlWx1 := Lib.hid (by have h1 := (sw4.wok okx.out (by have := hlWx.out; omega) (by omega) kX.out hpi).2; have h2 := hlWx.out; omega : Wx1.length ≤ 50)
      have lnw4 := sw4.len okx.out
      have HSw4 := Lib.hid sw4
      have sxw4 := Lib.hid sw4.sx
      clear ra rb u sw4 rw3 xw3 yw3 Rw3 Uw3
      go_wp2_with fail
      refine (list_calls q two w4 hqi I4.out).mono ?_
      rintro e w5 ⟨vw5, rfl, ow5, bw5⟩
      rw [← HY.out] at ow5
      obtain ⟨Aw5, cw5, rfl, _⟩ := ow5.slice
      have xw5 := xw4.below' bw5
      have yw5 := yw4.below' bw5
      have Rw5 := Rw4.below' bw5
      have Uw5 := Uw4.new bw5
      have rw5 := ow5.row
      clear ow5 bw5 xw4 yw4 Rw4 Uw4
      go_wp2_with fail
      refine (show_seq (mx + 1) mx Wx1 bd q _ Y w5 xw5 okw4.out rw5 kY.out (by omega) (by omega) (by omega) tY.out).mono ?_
      rintro e w6 hp
      unfold ShowPost at hp
      obtain ⟨P2, p2, d2, Q2, q2, E2, n2, Wx2, vc2, rfl, xw6, ra, rb, u, sw6, -, -, -⟩ := hp
      have yw6 := xw5.beside yw5 u (fun i hi => by simp at hi; simp [hi]) (by simp; omega) (by simp; omega)
      have Rw6 := ((Rw5.upd xw5 u (fun i hi => by simp at hi; simp [hi])).cons ra).cons rb
      have Uw6 := Uw5.trans' u (fun i hi => .inl (by simp at hi; simp [hi]))
      have okw6 := Lib.hid (sw6.wok okw4.out (by have := hlWx1.out; omega) (by omega) kY.out hqi).1
      have hlWx2 := Lib.hid (by have h1 := (sw6.wok okw4.out (by have := hlWx1.out; omega) (by omega) kY.out hqi).2; have h2 := hlWx1.out; omega : Wx2.length ≤ 60)
      have lnw6 := sw6.len okw4.out
      have HSw6 := Lib.hid sw6
      have sxw6 := Lib.hid sw6.sx
      clear ra rb u sw6 rw5 xw5 yw5 Rw5 Uw5
      go_wp2_with fail
      refine (list_calls q two w6 hqi I4.out).mono ?_
      rintro e w7 ⟨vw7, rfl, ow7, bw7⟩
      rw [← HY.out] at ow7
      obtain ⟨Aw7, cw7, rfl, _⟩ := ow7.slice
      have xw7 := xw6.below' bw7
      have yw7 := yw6.below' bw7
      have Rw7 := Rw6.below' bw7
      have Uw7 := Uw6.new bw7
      have rw7 := ow7.row
      clear ow7 bw7 xw6 yw6 Rw6 Uw6
      go_wp2_with fail
      refine (show_seq (my + 1) my Wy bd q _ Y w7 yw7 oky.out rw7 kY.out (by omega) (by omega) (by omega) tY.out).mono ?_
      rintro e w8 hp
      unfold ShowPost at hp
      obtain ⟨P3, p3, d3, Q3, q3, E3, n3, Wy1, vc3, rfl, yw8, ra, rb, u, sw8, -, -, -⟩ := hp
      have xw8 := yw7.beside xw7 u (fun i hi => by simp at hi; simp [hi]) (by simp; omega) (by simp; omega)
      have Rw8 := ((Rw7.upd yw7 u (fun i hi => by simp at hi; simp [hi])).cons ra).cons rb
      have Uw8 := Uw7.trans' u (fun i hi => .inl (by simp at hi; simp [hi]))
      have okw8 := Lib.hid (sw8.wok oky.out (by have := hlWy.out; omega) (by omega) kY.out hqi).1
      have hlWy1 := Lib.hid (by have h1 := (sw8.wok oky.out (by have := hlWy.out; omega) (by omega) kY.out hqi).2; have h2 := hlWy.out; omega : Wy1.length ≤ 50)
      have lnw8 := sw8.len oky.out
      have HSw8 := Lib.hid sw8
      have sxw8 := Lib.hid sw8.sx
      clear ra rb u sw8 rw7 xw7 yw7 Rw7 Uw7
      go_wp2_with fail
      refine (list_calls p one w8 hpi I3.out).mono ?_
      rintro e w9 ⟨vw9, rfl, ow9, bw9⟩
      rw [← HX.out] at ow9
      obtain ⟨Aw9, cw9, rfl, _⟩ := ow9.slice
      have xw9 := xw8.below' bw9
      have yw9 := yw8.below' bw9
      have Rw9 := Rw8.below' bw9
      have Uw9 := Uw8.new bw9
      have rw9 := ow9.row
      clear ow9 bw9 xw8 yw8 Rw8 Uw8
      go_wp2_with fail
      refine (show_seq (my + 1) my Wy1 bd p _ X w9 yw9 okw8.out rw9 kX.out (by omega) (by omega) (by omega) tX.out).mono ?_
      rintro e w10 hp
      unfold ShowPost at hp
      obtain ⟨P4, p4, d4, Q4, q4, E4, n4, Wy2, vc4, rfl, yw10, ra, rb, u, sw10, -, -, -⟩ := hp
      have xw10 := yw9.beside xw9 u (fun i hi => by simp at hi; simp [hi]) (by simp; omega) (by simp; omega)
      have Rw10 := ((Rw9.upd yw9 u (fun i hi => by simp at hi; simp [hi])).cons ra).cons rb
      have Uw10 := Uw9.trans' u (fun i hi => .inl (by simp at hi; simp [hi]))
      have okw10 := Lib.hid (sw10.wok okw8.out (by have := hlWy1.out; omega) (by omega) kX.out hpi).1
      have hlWy2 := Lib.hid (by have h1 := (sw10.wok okw8.out (by have := hlWy1.out; omega) (by omega) kX.out hpi).2; have h2 := hlWy1.out; omega : Wy2.length ≤ 60)
      have lnw10 := sw10.len okw8.out
      have HSw10 := Lib.hid sw10
      have sxw10 := Lib.hid sw10.sx
      clear ra rb u sw10 rw9 xw9 yw9 Rw9 Uw9
      have e1 := sxw4.out
      rw [HM1.out] at e1
      have f1 := sxw6.out
      rw [e1.2.2] at f1
      have g1 := sxw8.out
      rw [HM2.out] at g1
      have j1 := sxw10.out
      rw [g1.2.2] at j1
      have c1 := newS_show (bd := bd) HPQ.out X Y hsM.out
      have c2 := newS_show (bd := bd) (fun e => HPQ.out e.symm) Y X hsM.out
      obtain rfl : d1 = d4 := by rw [e1.1, j1.1, c2.1]
      obtain rfl : E1 = E4 := by rw [e1.2.1, j1.2.1, c2.2]
      obtain rfl : d2 = d3 := by rw [f1.1, g1.1, c1.1]
      obtain rfl : E2 = E3 := by rw [f1.2.1, g1.2.1, c1.2]
      obtain rfl : n1 = n4 := by rw [HSw10.out.num, HSw4.out.num]
      obtain rfl : n2 = n3 := by rw [HSw8.out.num, HSw6.out.num]
      have HT := Lib.hid (by rw [takeL_strip, takeL_strip, j1.2.2, f1.2.2, showS_comm HPQ.out X Y hsM.out] : takeL 6000 Wy2 = takeL 6000 Wx2)
      obtain ⟨ld1, le1⟩ := lnw4
      obtain ⟨ld2, le2⟩ := lnw6
      clear f1 g1 j1 c1 c2 lnw8 lnw10 HSw4 HSw6 HSw8 HSw10 sxw4 sxw6 sxw8 sxw10 HM1 HM2 e1
      go_wp2_with fail
      refine (same_yes _ _ d1 w10 (Rw10 (.slice P1 d1.length p1, d1) (by simp)) (Rw10 (.slice P4 d1.length p4, d1) (by simp)) (by omega)).mono ?_
      rintro e w11 ⟨rfl, b⟩
      have Rw11 := Rw10.below' b
      have xw11 := xw10.below' b
      have yw11 := yw10.below' b
      have Uw11 := Uw10.new b
      clear b Rw10 xw10 yw10 Uw10
      go_wp2_with fail
      refine (same_yes _ _ E1 w11 (Rw11 (.slice Q1 E1.length q1, E1) (by simp)) (Rw11 (.slice Q4 E1.length q4, E1) (by simp)) (by omega)).mono ?_
      rintro e w12 ⟨rfl, b⟩
      have Rw12 := Rw11.below' b
      have xw12 := xw11.below' b
      have yw12 := yw11.below' b
      have Uw12 := Uw11.new b
      clear b Rw11 xw11 yw11 Uw11
      go_wp2_with fail
      refine (same_yes _ _ d2 w12 (Rw12 (.slice P2 d2.length p2, d2) (by simp)) (Rw12 (.slice P3 d2.length p3, d2) (by simp)) (by omega)).mono ?_
      rintro e w13 ⟨rfl, b⟩
      have Rw13 := Rw12.below' b
      have xw13 := xw12.below' b
      have yw13 := yw12.below' b
      have Uw13 := Uw12.new b
      clear b Rw12 xw12 yw12 Uw12
      go_wp2_with fail
      refine (same_yes _ _ E2 w13 (Rw13 (.slice Q2 E2.length q2, E2) (by simp)) (Rw13 (.slice Q3 E2.length q3, E2) (by simp)) (by omega)).mono ?_
      rintro e w14 ⟨rfl, b⟩
      have Rw14 := Rw13.below' b
      have xw14 := xw13.below' b
      have yw14 := yw13.below' b
      have Uw14 := Uw13.new b
      clear b Rw13 xw13 yw13 Uw13
      go_wp2_with fail
      refine (pending_calls (mx + 1) mx Wx2 bd w14 xw14 okw6.out).mono ?_
      rintro e w15 ⟨va, rfl, oa, b⟩
      have y15 := yw14.below' b
      have U15 := Uw14.new b
      clear b
      go_wp2_with fail
      refine (pending_calls (my + 1) my Wy2 bd w15 y15 okw10.out).mono ?_
      rintro e w16 ⟨vb, rfl, ob, b⟩
      rw [HT.out] at ob
      have ra := oa.row.below' b
      have U16 := U15.new b
      have hTl := takeL_len (lim := 6000) okw6.out
      have hTl2 := okw6.out.len
      clear b
      go_wp2_with fail
      refine (same_yes _ _ (takeL 6000 Wx2) w16 ra ob.row (by omega)).mono ?_
      rintro e w17 ⟨rfl, b⟩
      have U17 := U16.new b
      clear b ra ob oa
      go_wp2_with fail
      refine (lives_calls w17).mono ?_
      rintro e w18 ⟨rfl, b⟩
      have U18 := U17.new b
      go_wp2_with fail
      go_ret
      exact ⟨rfl, B2.trans (U18.below B2.size (fun i hi => by simp at hi; omega))⟩
end Go.Proofs.Ytlmmhgbbfmocaaa
