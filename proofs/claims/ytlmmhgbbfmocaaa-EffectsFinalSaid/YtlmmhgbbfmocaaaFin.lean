/- EffectsFinal, walked. -/
import Derived.Test.YtlmmhgbbfmocaaaFinM
namespace Go.Proofs.Ytlmmhgbbfmocaaa
open Go.RowKit

set_option maxHeartbeats 1000000 in
set_option maxRecDepth 100000 in
theorem final_calls (v : Value) (zs : List Int) (late : Int) (w : World) (h : Ints w v zs) (hz : ∀ z ∈ zs, i64 z) (hzl : zs.length ≤ 9223372036854775807) (il : i64 late) :
    Calls Try.prog 7 #[v, .int .i64 late] w fun e w' => e = .returned (.bool true) ∧ Below w.heap.size w w' := by
  have h' := h
  obtain ⟨A, c, rfl, hc, -⟩ := h
  obtain ⟨lt8, hlt8, hlt82⟩ := around_nat late 8 (by omega)
  have HLT := Lib.hid hlt8
  have IL := Lib.hid il
  have HZ := Lib.hid hz
  have HZL := Lib.hid hzl
  clear hz hzl hlt8 il
  go_enter Try.func7, Try.ntmps7
  go_wp2_with fail
  refine (new_calls w).mono ?_
  rintro e w0 ⟨rfl, K0, b0⟩
  obtain ⟨m, hm⟩ : ∃ m, m = w.heap.size := ⟨_, rfl⟩
  have h0 := h'.below b0
  have hgl := K0.blk.lt
  rw [← hm] at K0 hgl ⊢
  have hmw : w.heap.size ≤ m := by omega
  clear h' hm
  go_wp2_with (at_make; refine wpList_mk8 _ rfl rfl ?_)
  have bL0 := (Blk.new w0 30 #[nilV, nilV, nilV, nilV, nilV, nilV, nilV, nilV]).alloc (.cells #[nilV, nilV, nilV, nilV, nilV, nilV, nilV, nilV] 30)
  have bG0 := Blk.new1 w0 (.cells #[nilV, nilV, nilV, nilV, nilV, nilV, nilV, nilV] 30) 30 #[nilV, nilV, nilV, nilV, nilV, nilV, nilV, nilV]
  have bm := ((Below.refl w0.heap.size w0).alloc (Nat.le_refl _) (.cells #[nilV, nilV, nilV, nilV, nilV, nilV, nilV, nilV] 30)).alloc (by simp) (.cells #[nilV, nilV, nilV, nilV, nilV, nilV, nilV, nilV] 30)
  have hszM : ((w0.alloc (.cells #[nilV, nilV, nilV, nilV, nilV, nilV, nilV, nilV] 30)).alloc (.cells #[nilV, nilV, nilV, nilV, nilV, nilV, nilV, nilV] 30)).heap.size = w0.heap.size + 2 := by simp
  obtain ⟨mL, hmL⟩ : ∃ b, b = w0.heap.size := ⟨_, rfl⟩
  rw [← hmL] at bL0 bG0 hszM hgl ⊢
  have hmL2 : w.heap.size ≤ mL := by have := b0.size; omega
  have Bm := b0.trans (bm.mono b0.size)
  have hM := h0.below (bm.mono (by omega))
  have Km := K0.below' (bm.mono (by omega))
  generalize ((w0.alloc (.cells #[nilV, nilV, nilV, nilV, nilV, nilV, nilV, nilV] 30)).alloc (.cells #[nilV, nilV, nilV, nilV, nilV, nilV, nilV, nilV] 30)) = wM at *
  have hszM2 : mL + 2 ≤ wM.heap.size := by omega
  have hszM3 : wM.heap.size ≤ mL + 2 := by omega
  clear hszM hmL K0 h0 b0 bm
  refine (calls_calls _ zs wM hM HZ.out HZL.out).mono ?_
  rintro e w1 ⟨vs, cs, rfl, oc, hcl, hcs, hok, b1⟩
  have B1 := Bm.trans (b1.mono Bm.size)
  have K1 := Km.below' b1
  have bL1 := bL0.below' b1
  have bG1 := bG0.below' b1
  obtain ⟨As, ns, rfl, _⟩ := oc.slice
  have s1 := b1.size
  have hcsk := hcs.below' ((Below.refl w1.heap.size w1).alloc (Nat.le_refl _) (.cells #[.bool true, .int .i64 8, .slice none 0 0] 32))
  have HCS := Lib.hid hcsk
  have HOK := Lib.hid hok
  clear Km bL0 bG0 b1 Bm hM hcs hok hcsk
  go_wp2_with (at_builtin; refine wpList_push elem_cl rfl (.tmp 28) (.tmp 30) rfl wM.heap.size (.slice As cs.length ns) cs rfl (oc.alloc _) w1.heap.size ⟨true, 8, ⟨none, 0, 0⟩, []⟩ rfl ?q1 ?q2 ?q3 ?q4 ?_)
  case q1 => exact Blk.new _ _ _
  case q2 => omega
  case q3 => omega
  case q4 => first | omega | (simp; omega)
  intro v3 w3 o3 g3 l3
  have bz := (Below.refl w1.heap.size w1).alloc (Nat.le_refl _) (.cells #[.bool true, .int .i64 8, .slice none 0 0] 32)
  have oz := oc.alloc (.cells #[.bool true, .int .i64 8, .slice none 0 0] 32)
  have hne : ∀ i, i < wM.heap.size → some i ≠ (Value.slice As cs.length ns).ownBlock := fun i hi e => by have := oc.ge i e.symm; omega
  have K3 : BoardAt w3 (m + 1) m [] 0 := (K1.below' bz).grown g3 (Ne.symm (hne _ (by omega))) (Ne.symm (hne _ (by omega))) (fun p hp => by cases hp)
  have bL3 := (bL1.below' bz).grown g3 (hne _ (by omega))
  have bG3 := (bG1.below' bz).grown g3 (hne _ (by omega))
  have hrows : ∀ x ∈ cs ++ [(⟨true, 8, ⟨none, 0, 0⟩, []⟩ : Cl)], Row effE w3 x.s.v x.l := fun x hx => by
    rcases List.mem_append.1 hx with h1 | h1
    · exact (HCS.out x h1).grown g3 ((HCS.out x h1).disj oz.row (by decide))
    · simp at h1; subst h1; exact Row.nil' _ _
  have B3 : Below w.heap.size w w3 := (B1.alloc (by omega) (.cells #[.bool true, .int .i64 8, .slice none 0 0] 32)).grown g3 (by simp; omega) (fun k hk => by have := oc.ge k hk; omega)
  have hge3 := o3.ge
  have hall : ∀ x ∈ cs ++ [(⟨true, 8, ⟨none, 0, 0⟩, []⟩ : Cl)], 0 ≤ x.tick ∧ x.tick ≤ 8 ∧ x.l.length ≤ 6 ∧ OkAll x.l ∧ (∀ e ∈ x.l, e.tick = x.tick) ∧ (x.conf = false → x.tick ≤ 7) := fun x hx => by
    rcases List.mem_append.1 hx with h1 | h1
    · have := HOK.out x h1
      exact ⟨this.lo, by have := this.hi; omega, this.len, this.ok, this.ticks, fun _ => this.hi⟩
    · simp at h1; subst h1; exact ⟨by simp, by simp, by simp, OkAll.nil, (fun e he => by cases he), (fun hc => by cases hc)⟩
  have hlast : ∀ k (hk : k < (cs ++ [(⟨true, 8, ⟨none, 0, 0⟩, []⟩ : Cl)]).length), k + 1 = (cs ++ [(⟨true, 8, ⟨none, 0, 0⟩, []⟩ : Cl)]).length → (cs ++ [(⟨true, 8, ⟨none, 0, 0⟩, []⟩ : Cl)])[k].conf = true ∧ (cs ++ [(⟨true, 8, ⟨none, 0, 0⟩, []⟩ : Cl)])[k].tick = 8 := fun k hk e => by
    have : k = cs.length := by simp at e; omega
    subst this
    simp
  obtain ⟨Q, hQ⟩ : ∃ Q, Q = cs ++ [(⟨true, 8, ⟨none, 0, 0⟩, []⟩ : Cl)] := ⟨_, rfl⟩
  have hQl : Q.length = cs.length + 1 := by rw [hQ]; simp
  rw [← hQ] at o3 hrows hall hlast
  obtain ⟨Aq, nq, rfl, _⟩ := o3.slice
  obtain ⟨N, hN⟩ : ∃ N, N = Q.length := ⟨_, rfl⟩
  have hN1 : 1 ≤ N := by omega
  have hN2 : N ≤ 31 := by omega
  have HN := Lib.hid hN
  have HLAST := Lib.hid hlast
  have HALL := Lib.hid hall
  have HROWS := Lib.hid hrows
  obtain ⟨M, hMM⟩ : ∃ M, M = w3.heap.size := ⟨_, rfl⟩
  have hGM : mL + 1 < M := by have := bG3.lt; omega
  have rQ := o3.row
  have hap : ∀ k, (Value.slice Aq Q.length nq).ownBlock = some k → k ∉ [m + 1, m, mL, mL + 1] := fun k hk hi => by
    have := hge3 k hk
    simp at hi
    omega
  have F3 : FinAt w3 w3 m mL (mL + 1) M [nilV, nilV, nilV, nilV, nilV, nilV, nilV, nilV] [nilV, nilV, nilV, nilV, nilV, nilV, nilV, nilV] (List.replicate 8 []) (List.replicate 8 []) [] 0 := by
    have e1 : ∀ t : Nat, t < 8 → ([nilV, nilV, nilV, nilV, nilV, nilV, nilV, nilV] : List Value).getD t nilV = nilV := fun t ht => by rw [show ([nilV, nilV, nilV, nilV, nilV, nilV, nilV, nilV] : List Value) = List.replicate 8 nilV from rfl, List.getD_eq_getElem?_getD, List.getElem?_replicate, if_pos ht]; rfl
    have e2 : ∀ t : Nat, t < 8 → (List.replicate 8 ([] : List Eff)).getD t [] = [] := fun t ht => by rw [List.getD_eq_getElem?_getD, List.getElem?_replicate, if_pos ht]; rfl
    refine ⟨K3, bL3, bG3, ⟨by simp, by simp, by simp, by simp⟩, fun t ht => ?_, fun t ht => ?_, fun t u ht hu _ k hk => ?_, fun p hp => (by cases hp), Upd.refl _ _, ⟨by omega, by omega, hGM⟩, hMM⟩
    · rw [e1 t ht, e2 t ht]
      exact ⟨Row.nil _, fun k hk => by cases hk⟩
    · rw [e1 t ht, e2 t ht]
      exact Own.nil _ _
    · rw [e1 t ht] at hk
      cases hk
  rw [← hN] at rQ hap ⊢
  have HAP := Lib.hid hap
  have HF3 := Lib.hid F3
  have HMM := Lib.hid hMM
  have HP0 := Lib.hid FinP.nil
  have hL0 : ∀ t : Nat, t < 8 → ((List.replicate 8 ([] : List Eff)).getD t []).length ≤ 6 := fun t ht => by rw [List.getD_eq_getElem?_getD, List.getElem?_replicate, if_pos ht]; simp
  have HL0 := Lib.hid hL0
  clear hcl HCS HOK oc K1 bL1 bG1 B1 g3 l3 bz oz hne K3 bL3 bG3 hrows hall hlast hQ hQl hN hap F3 hge3 o3 hMM hL0
  go_wp2_with fail
  go_loopg [9] N (fun n iv wr => ∃ (k : Nat) (Lv Gv : List Value) (L G : List (List Eff)) (W : List (Int × Ent)) (bd : Int), k + n = N ∧ iv = .int .i64 k ∧ FinAt w3 wr m mL (mL + 1) M Lv Gv L G W bd ∧ Hid (FinP (strip W) bd L G ∧ WOk W ∧ (∀ t : Nat, t < 8 → (L.getD t []).length ≤ 6) ∧ (k = N → 8 ≤ bd)) ∧ W.length ≤ k)
  case atStart => exact ⟨0, _, _, _, _, [], 0, by omega, rfl, HF3.out, ⟨HP0.out, WOk.nil, HL0.out, fun e => by omega⟩, by simp⟩
  case round =>
    obtain ⟨k, Lv, Gv, L, G, W, bd, hk, rfl, S, HP, hWl⟩ := hrel
    obtain ⟨gn, rfl⟩ : ∃ y : Nat, y = gk := ⟨_, rfl⟩
    have HK := Lib.hid hk
    have hkN : k ≤ N := by omega
    clear hk
    by_cases hlt : k < N
    · have hk1 : k < Q.length := by rw [← HN.out]; exact hlt
      have U := S.upd
      have r3 := rQ.upd U HAP.out
      obtain ⟨g1, o1, rfl, hg, c0, c1, c2⟩ := r3.cl_at hk1
      have hxo := Lib.hid (HALL.out _ (List.getElem_mem hk1))
      have hxr0 := HROWS.out _ (List.getElem_mem hk1)
      have hxr := hxr0.upd U (HF3.out.free hxr0 rfl)
      have hxlt := Lib.hid hxr0.lt
      have hlst := Lib.hid (HLAST.out k hk1)
      have hi0 : (0 : Int) ≤ k := by omega
      have hi1 : (k : Int) < N := by omega
      generalize Q[k] = x at *
      obtain ⟨xc, xt, ⟨xa, xn, xcp⟩, xl⟩ := x
      simp only [Sl.v] at c0 c1 c2 hxr
      obtain ⟨Ax, cx, hxs, hxc⟩ := hxr.slice
      cases hxs
      obtain ⟨t, ht⟩ : ∃ t : Nat, xt = t := ⟨xt.toNat, by have := hxo.out.1; simp only at this; omega⟩
      subst ht
      have t1 := hxo.out.2.1
      have t2 := hxo.out.2.2.1
      simp only at t1 t2
      have hti : i64 (t : Int) := ⟨by omega, by omega⟩
      have h6 : (t : Int) < 6000 := by omega
      have h40 : xl.length ≤ 40 := by omega
      have ok' := Lib.hid (hxo.out.2.2.2.1 : OkAll xl)
      have tk' := Lib.hid (hxo.out.2.2.2.2.1 : ∀ e ∈ xl, e.tick = (t : Int))
      have bA := (Below.refl wr.heap.size wr).alloc (Nat.le_refl _) (.cells #[.bool xc, .int .i64 t, .slice xa xl.length xcp] 32)
      have bkc := Blk.new wr 32 #[.bool xc, .int .i64 t, .slice xa xl.length xcp]
      have HS := Lib.hid S
      have SA := S.new bA
      have rA := hxr.below' bA
      have hMle := S.le
      clear S U hxr0 hxr r3 bA
      cases xc with
      | false =>
        have t7 := hxo.out.2.2.2.2.2 rfl
        simp only at t7
        have t0 : (0 : Int) ≤ t := by omega
        go_wp2_with fail
        refine (show_seq (m + 1) m W bd t _ xl _ SA.brd HP.out.2.1 rA ok'.out t0 h6 h40 tk'.out).mono ?_
        rintro e w5 hp
        unfold ShowPost at hp
        obtain ⟨P1, p1, d1, P2, p2, d2, n, W', vc, rfl, K5, ra, rb, u5, s5, hv, -, -⟩ := hp
        have S5 := SA.board K5 u5 (fun i hi => by simp at hi; simp [hi]) (s5.fresh hv)
        have r6 := rA.upd u5 (fun k hk hi => SA.free rA rfl k hk (by simp at hi ⊢; omega))
        have ordS := SA.ord
        have hcb : wr.heap.size ∉ [m] := by simp; omega
        have bk5 := bkc.upd u5 hcb
        have hWl5 := (s5.wok HP.out.2.1 (by omega) h40 ok'.out hti).2
        have HW5 := Lib.hid (s5.wok HP.out.2.1 (by omega) h40 ok'.out hti).1
        have hkl0 : k + 1 = N → False := fun e => by
          have := (hlst.out (by rw [← HN.out]; exact e)).1
          cases this
        have hkl := Lib.hid hkl0
        clear hkl0
        clear SA rA bkc K5 ra rb u5 hv c0 c1 c2
        by_cases hb : (t : Int) < bd
        · have hn : n = 20 := by rw [s5.num, if_pos hb]
          obtain ⟨-, -, rfl⟩ := s5.late hb
          subst hn
          clear s5 r6 bk5
          go_wp2_with fail
          have hk := HK.out
          go_roundg (gn - 1)
          case measure => omega
          case rel => exact ⟨k + 1, _, _, _, _, W', bd, by omega, by go_num, S5, ⟨HP.out.1, HW5.out, HP.out.2.2.1, fun e => (hkl.out e).elim⟩, by omega⟩
        · have hn : n = 0 := by rw [s5.num, if_neg hb]
          have HSX := Lib.hid s5.sx.2.2
          subst hn
          have dc1 := bk5.cell 1
          have dc2 := bk5.cell 2
          have dl := S5.bL.cell t
          have fl := S5.bL.frozen t
          have ht8 : t < 8 := by omega
          obtain ⟨lv, hlv⟩ : ∃ lv, Lv[t]? = some lv := ⟨_, List.getElem?_eq_getElem (by rw [S5.lens.1]; exact ht8)⟩
          rw [List.getElem?_toArray, hlv] at dl
          simp only [List.getElem?_toArray, List.getElem?_cons_succ, List.getElem?_cons_zero] at dc1 dc2
          have t8 : (t : Int) < 8 := by omega
          have S6 := S5.setL ht8 r6 (fun k hk => by have := hxlt.out k hk; rw [HMM.out]; exact this)
          clear hlv s5 bk5 S5 r6
          go_wp2_with fail
          have hk := HK.out
          go_roundg (gn - 1)
          case measure => omega
          case rel =>
            refine ⟨k + 1, _, _, _, _, W', bd, by omega, by go_num, S6, ⟨?_, HW5.out, fun s hs => ?_, fun e => (hkl.out e).elim⟩, by omega⟩
            · rw [HSX.out]
              unfold showS
              rw [if_neg (by omega)]
              exact HP.out.1.show HS.out.lens.2.2.1 ht8 (by omega) tk'.out
            · rw [getD_set _ _ _ _ _ (by rw [HS.out.lens.2.2.1]; exact ht8)]
              by_cases e : s = t
              · rw [if_pos e]; exact t2
              · rw [if_neg e]; exact HP.out.2.2.1 s hs
      | true =>
        go_wp2_with fail
        refine (confirm_fresh (m + 1) m W bd t _ SA.brd HP.out.2.1 hti).mono ?_
        rintro e w5 ⟨P1, p1, q, W', bd', rfl, K5, rq, u5, s5, hfr⟩
        have S5 := SA.board K5 u5 (fun i hi => hi) (fun p hp => .inl (s5.kept p hp))
        have ordS := SA.ord
        have hcb : wr.heap.size ∉ [m + 1, m] := by simp; omega
        have bk5 := bkc.upd u5 hcb
        have hWl5 := (s5.wok HP.out.2.1).2
        have HW5 := Lib.hid (s5.wok HP.out.2.1).1
        have hql := s5.len HP.out.2.1
        have hqb : q.length ≤ 40 * 40 := by omega
        have far5 : ∀ u : Nat, u < 8 → ∀ k, (Value.slice P1 q.length p1).ownBlock = some k → some k ≠ (Gv.getD u nilV).ownBlock := fun u hu k hk e => by
          have h1 := hfr k hk
          have h2 := (SA.ownG u hu).lt k e.symm
          omega
        have I5 : InAt w3 w5 m mL (mL + 1) M Lv Gv L G W' bd' P1 p1 q wr.heap.size #[.bool true, .int .i64 t, .slice xa xl.length xcp] := ⟨S5, rq, far5, bk5⟩
        have hqt : ∀ e ∈ q, 0 ≤ e.tick ∧ e.tick < t ∧ e.tick ≤ 7 := fun e he => by
          by_cases hb : (t : Int) ≤ bd
          · rw [(s5.late hb).1] at he; cases he
          · rw [(s5.okk (by omega)).1, takeL_strip] at he
            obtain ⟨p, hp, hp1, hp2⟩ := takeS_mem he
            have := HP.out.1.keys p hp
            have h3 := this.2.2 e hp2
            have h4 := HP.out.1.bd0
            exact ⟨by omega, by omega, by omega⟩
        have HQT := Lib.hid hqt
        have HS5 := Lib.hid s5
        have HI5 := Lib.hid I5
        have hG0 : ∀ s : Nat, s < 8 → (G.getD s []).length ≤ 6 := fun s hs => by
          by_cases hb : (s : Int) < bd
          · rw [HP.out.1.low s hs hb]; exact HP.out.2.2.1 s hs
          · rw [(HP.out.1.high s hs (by omega)).1]; simp
        have HG0 := Lib.hid hG0
        obtain ⟨K, hK⟩ : ∃ K, K = q.length := ⟨_, rfl⟩
        have HKK := Lib.hid hK
        have hKb : K ≤ 1600 := by omega
        obtain ⟨cb, hcb2⟩ : ∃ cb, cb = wr.heap.size := ⟨_, rfl⟩
        rw [← hcb2] at HI5 ⊢
        rw [← hK]
        clear SA rA bkc K5 rq u5 hfr far5 bk5 S5 I5 s5 hqt hG0 hK hcb hcb2 hql hqb c0 c1 c2
        go_wp2_with fail
        go_loopg [15] K (fun n jv wy => ∃ (j : Nat) (Gw : List Value) (Gx : List (List Eff)), j + n = K ∧ jv = .int .i64 j ∧ InAt w3 wy m mL (mL + 1) M Lv Gw L Gx W' bd' P1 p1 q cb #[.bool true, .int .i64 t, .slice xa xl.length xcp] ∧ Hid (∀ u : Nat, u < 8 → Gx.getD u [] = G.getD u [] ++ (q.take j).filter (fun e => e.tick == (u : Int))))
        case atStart => exact ⟨0, Gv, G, by omega, rfl, HI5.out, fun u hu => by simp⟩
        case round =>
          obtain ⟨j, Gw, Gx, hj, rfl, I, HGx⟩ := hrel
          have HJ := Lib.hid hj
          have hjK : j ≤ K := by omega
          clear hj
          by_cases hjl : j < K
          · have hj1 : j < q.length := by rw [← HKK.out]; exact hjl
            have hqq := HQT.out _ (List.getElem_mem hj1)
            have out := I.out
            rw [← HKK.out] at out
            obtain ⟨gq, oq, rfl, hgq, d0, d1, d2, d3⟩ := out.eff_at hj1
            obtain ⟨y, hy⟩ : ∃ y, y = q[j] := ⟨_, rfl⟩
            rw [← hy] at hqq d0 d1 d2 d3
            obtain ⟨yt, yi, yk, yv⟩ := y
            simp only at hqq d0 d1 d2 d3
            obtain ⟨s, rfl⟩ : ∃ s : Nat, yt = s := ⟨yt.toNat, by omega⟩
            have HY := Lib.hid hy
            have HYT := Lib.hid (by rw [← hy] : q[j].tick = (s : Int))
            obtain ⟨hs0, hs1, hs2⟩ := hqq
            have hs8 : s < 8 := by omega
            have hs3 : ¬ ((s : Int) < 0) := by omega
            have hs4 : ¬ ((t : Int) ≤ s) := by omega
            have hs5 : ¬ ((7 : Int) < s) := by omega
            have hs6 : (s : Int) < 8 := by omega
            have hjj : (j : Int) < K := by omega
            have hjj0 : (0 : Int) ≤ j := by omega
            have cc1 := I.call.cell 1
            simp only [List.getElem?_toArray, List.getElem?_cons_succ, List.getElem?_cons_zero] at cc1
            have eG := I.fin.cellG hs8
            have OG := I.fin.ownG s hs8
            obtain ⟨Ag, cg, hgv, _⟩ := OG.slice
            have HGV := Lib.hid hgv
            rw [hgv] at eG OG
            have hgl2 : (Gx.getD s []).length ≤ 1606 := by
              rw [HGx.out s hs8, List.length_append]
              have h1 := HG0.out s hs8
              have h2 := List.length_filter_le (fun e : Eff => e.tick == (s : Int)) (q.take j)
              have h3 : (q.take j).length ≤ j := List.length_take_le _ _
              omega
            obtain ⟨ng, hng⟩ : ∃ ng, ng = (Gx.getD s []).length := ⟨_, rfl⟩
            have HNG := Lib.hid hng
            rw [← hng] at eG OG hgl2
            have hMw := I.fin.le
            have hne1 : mL + 1 ≠ wr.heap.size := by omega
            have hne2 : mL + 1 < wr.heap.size := by omega
            have I2 := I.new (below_drewN (Below.refl _ _) 1)
            have HI2 := Lib.hid I2
            clear hy hgv hng I I2 out
            go_wp2_with fail
            go_region_law (refine step_push elem_eff rfl (.tmp 95) (.tmp 100) rfl M (.slice Ag ng cg) (Gx.getD s []) rfl (OG.drew.alloc _) wr.heap.size ⟨s, yi, yk, yv⟩ rfl (Blk.new wr.drew _ _) (by have := HNG.out; omega) (by have := HNG.out; omega) (by simp; omega) ?_; intro v7 w7 o7 g7 l7; obtain ⟨A7, c7, rfl, _⟩ := o7.slice; obtain ⟨n7, hn7⟩ : ∃ n, n = (Gx.getD s [] ++ [(⟨s, yi, yk, yv⟩ : Eff)]).length := ⟨_, rfl⟩; rw [← hn7] at o7 l7 ⊢; have HN7 := Lib.hid hn7; clear hn7; have I7 := HI2.out.push _ hs8 o7 (by rw [HGV.out, ← HNG.out]; exact g7) (by rw [HGV.out, ← HNG.out]; exact l7); have C7 := HI2.out.fin.heldG _ hs8 (by rw [HGV.out, ← HNG.out]; exact g7); obtain ⟨C71, C72⟩ := C7; clear o7 g7 l7)
            all_goals
              clear C71 C72 eG OG cc1 d0 d1 d2 d3
              go_wp2_with fail
              have hj := HJ.out
              go_roundg (gk - 1)
              case measure => omega
              case rel =>
                refine ⟨j + 1, Gw.set s (.slice A7 n7 c7), Gx.set s (Gx.getD s [] ++ [(⟨s, yi, yk, yv⟩ : Eff)]), by omega, by go_num, I7, ?_⟩
                have hd := dealt_succ (G0 := G) hj1 HI2.out.fin.lens.2.2.2 hs8 HYT.out HGx.out
                rw [← HY.out] at hd
                exact hd
          · obtain rfl : j = K := by omega
            have F := Lib.hid I.fin
            clear I
            go_wp2_with fail
            have hk := HK.out
            go_roundg (gn - 1)
            case measure => omega
            case rel =>
              have hq : q.take j = q := by rw [HKK.out]; exact List.take_length
              refine ⟨k + 1, Lv, Gw, L, Gx, W', bd', by omega, by go_num, F.out, ⟨?_, HW5.out, HP.out.2.2.1, fun e => ?_⟩, by omega⟩
              · have hx := HGx.out
                rw [hq] at hx
                by_cases hb : (t : Int) ≤ bd
                · obtain ⟨e1, e2, e3⟩ := HS5.out.late hb
                  rw [e2, e3]
                  refine HP.out.1.congr (fun s hs => ?_)
                  rw [hx s hs, e1]
                  simp
                · obtain ⟨e1, e2, e3⟩ := HS5.out.okk (by omega)
                  rw [e2, e3, rest_strip]
                  rw [e1, takeL_strip] at hx
                  exact HP.out.1.conf (by omega) hx
              · have h8 := (hlst.out (by rw [← HN.out]; exact e)).2
                by_cases hb : (t : Int) ≤ bd
                · rw [(HS5.out.late hb).2.2]; omega
                · rw [(HS5.out.okk (by omega)).2.2]; omega
    · obtain rfl : k = N := by omega
      obtain ⟨hM0, hGL⟩ := HP.out.1.done (HP.out.2.2.2 rfl)
      have hbd8 := HP.out.2.2.2 rfl
      have HLL := Lib.hid HP.out.2.2.1
      have HGL := Lib.hid hGL
      obtain rfl : W = [] := by
        cases W with
        | nil => rfl
        | cons p W => cases hM0
      have HWk := Lib.hid HP.out.2.1
      clear hM0 hGL HP hlt
      obtain ⟨w4, rfl⟩ : ∃ y : World, y = wr := ⟨_, rfl⟩
      have HS := Lib.hid S
      clear S
      go_wp2_with fail
      go_loopg [17] 8 (fun n tv wy => ∃ (t : Nat), t + n = 8 ∧ tv = .int .i64 t ∧ FinAt w3 wy m mL (mL + 1) M Lv Gv L G [] bd)
      case atStart => exact ⟨0, by omega, rfl, HS.out⟩
      case round =>
        obtain ⟨t, ht, rfl, S⟩ := hrel
        have HT := Lib.hid ht
        have ht8 : t ≤ 8 := by omega
        clear ht
        by_cases hlt : t < 8
        · have hi0 : (0 : Int) ≤ t := by omega
          have hi1 : (t : Int) < 8 := by omega
          have eL := S.cellL hlt
          have eG := S.cellG hlt
          have dd := below_drewN (Below.refl wr.heap.size wr) 1
          have S2 := S.new dd
          have hl6 := HLL.out t hlt
          have rL := (S2.rowL t hlt).1
          have rG := (S2.ownG t hlt).row
          rw [HGL.out t hlt] at rG
          clear S
          go_wp2_with fail
          go_still_tail 8, (by kernel_rfl)
          change wpList _ _ _ _ _ wr.drew
          go_wp2_with fail
          refine (same_yes _ _ (L.getD t []) wr.drew rL rG (by omega)).mono ?_
          rintro e w5 ⟨rfl, b5⟩
          have S5 := S2.new b5
          clear eL eG dd S2 rL rG b5
          go_wp2_with fail
          have ht := HT.out
          go_roundg (gk - 1)
          case measure => omega
          case rel => exact ⟨t + 1, by omega, by go_num, S5⟩
        · obtain rfl : t = 8 := by omega
          have hl8 : i64 ((lt8 : Int)) := ⟨by omega, by omega⟩
          have hl0 : (0 : Int) ≤ lt8 := by omega
          have hwr : wrong bd lt8 [] = 20 := wrong_late hl0 (by omega) (by omega)
          have HWR := Lib.hid hwr
          clear hwr
          go_wp2_with fail
          refine (around_named late 8 lt8 wr IL.out (by omega) (by omega) HLT.out).mono ?_
          rintro e wz ⟨rfl, rfl⟩
          have U := S.upd
          go_wp2_with fail
          refine (show_wrong (m + 1) m [] bd lt8 _ [] wr S.brd (Row.nil _) hl8 (by simp) (by rw [HWR.out]; decide)).mono ?_
          rintro e w5 ⟨rfl, b5⟩
          rw [HWR.out]
          have S5 := S.new b5
          go_wp2_with fail
          refine (pending_calls (m + 1) m [] bd w5 S5.brd HWk.out).mono ?_
          rintro e w6 ⟨vp, rfl, op, b6⟩
          have S6 := S5.new b6
          obtain ⟨Ap, cp, rfl, _⟩ := op.slice
          have e0 : (takeL 6000 []).length = 0 := rfl
          rw [e0]
          clear op e0
          go_wp2_with fail
          refine (confirm_late (m + 1) m [] bd lt8 w6 S6.brd (by omega)).mono ?_
          rintro e w7 ⟨rfl, b7⟩
          have S7 := S6.new b7
          go_wp2_with fail
          refine (lives_calls w7).mono ?_
          rintro e w8 ⟨rfl, b8⟩
          have U8 := S7.upd.new b8
          go_wp2_with fail
          go_ret
          exact ⟨rfl, B3.trans (U8.below B3.size (fun i hi => by simp at hi; omega))⟩
end Go.Proofs.Ytlmmhgbbfmocaaa
