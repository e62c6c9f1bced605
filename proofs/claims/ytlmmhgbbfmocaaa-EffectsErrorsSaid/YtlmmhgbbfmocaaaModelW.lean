/- EffectsModel, walked. -/
import Derived.Test.YtlmmhgbbfmocaaaModelP
namespace Go.Proofs.Ytlmmhgbbfmocaaa
open Go.RowKit

theorem RefAt.upd {w w' : World} {tv sv : Value} {R : List REnt} {S : List Nat} (h : RefAt w tv sv R) (hu : Upd S w w') (hS : ∀ {α : Type} {E : Enc α} {v : Value} {l : List α}, Row E w v l → (E.T = effE.T ∨ E.T = intE.T ∨ E.T = slE.T) → ∀ k, v.ownBlock = some k → k ∉ S) : RefAt w' tv sv R :=
  ⟨h.ticks.upd hu (hS h.ticks (.inr (.inl rfl))), h.lists.upd hu (hS h.lists (.inr (.inr rfl))), fun p hp => (h.rows p hp).upd hu (hS (h.rows p hp) (.inl rfl))⟩
theorem RefAt.old_row {w : World} {tv sv : Value} {R : List REnt} (h : RefAt w tv sv R) (t : Int) : Row effE w (rold t R).1.v (rold t R).2 := by
  unfold rold
  cases hg : mget t R with
  | none => exact Row.nil w
  | some e => exact h.rows (t, e) (mget_mem hg)

/-- The board and the reference's struct in memory. -/
structure MAt (w2 w : World) (m mb : Nat) (W : List (Int × Ent)) (bd bs : Int) (tv sv : Value) (R : List REnt) : Prop where
  brd : BoardAt w (m + 1) m W bd
  blk : Blk w mb 27 #[tv, sv, .int .i64 bs]
  ref : RefAt w tv sv R
  upd : Upd [m + 1, m, mb] w2 w
  lt : m + 1 < mb
theorem MAt.free {w : World} {m mb : Nat} {W : List (Int × Ent)} {bd bd' : Int} {tv' sv' : Value} (hb : BoardAt w (m + 1) m W bd) (hk : Blk w mb 27 #[tv', sv', .int .i64 bd']) {α : Type} {E : Enc α} {v : Value} {l : List α} (r : Row E w v l) (hT : E.T = effE.T ∨ E.T = intE.T ∨ E.T = slE.T) : ∀ k, v.ownBlock = some k → k ∉ [m + 1, m, mb] := by
  intro k hk' hi
  simp only [List.mem_cons, List.not_mem_nil, or_false] at hi
  rcases hi with rfl | rfl | rfl
  · refine r.ne hb.blk ?_ hk'
    rcases hT with e | e | e <;> rw [e] <;> decide
  · exact hb.map.apart r hk'
  · refine r.ne hk ?_ hk'
    rcases hT with e | e | e <;> rw [e] <;> decide
theorem MAt.new {w2 w w' : World} {m mb : Nat} {W : List (Int × Ent)} {bd bs : Int} {tv sv : Value} {R : List REnt} (h : MAt w2 w m mb W bd bs tv sv R) (hb : Below w.heap.size w w') : MAt w2 w' m mb W bd bs tv sv R :=
  ⟨h.brd.below' hb, h.blk.below' hb, h.ref.below' hb, h.upd.new hb, h.lt⟩
/-- A call on the board: the struct is left, with the boundary that it holds. -/
theorem MAt.board {w2 w w' : World} {m mb : Nat} {W W' : List (Int × Ent)} {bd bd' bs : Int} {tv sv : Value} {R : List REnt} {S : List Nat} (h : MAt w2 w m mb W bd bs tv sv R) (k : BoardAt w' (m + 1) m W' bd') (u : Upd S w w') (hS : ∀ i ∈ S, i ∈ [m + 1, m]) : MAt w2 w' m mb W' bd' bs tv sv R := by
  have hl := h.lt
  refine ⟨k, h.blk.upd u (fun hi => by have := hS _ hi; simp at this; omega), h.ref.upd u (fun r hT j hk hi => ?_), h.upd.trans' u (fun i hi => .inl (by have := hS i hi; simp at this ⊢; omega)), h.lt⟩
  have h1 := MAt.free h.brd h.blk r hT j hk
  have h2 := hS j hi
  simp at h1 h2
  omega
/-- A store into the struct. -/
theorem MAt.put {w2 w w' : World} {m mb : Nat} {W' : List (Int × Ent)} {bs bs' bd' : Int} {tv sv tv' sv' : Value} {R' : List REnt} (hb : BoardAt w (m + 1) m W' bd') (hk : Blk w mb 27 #[tv, sv, .int .i64 bs]) (hu : Upd [m + 1, m, mb] w2 w) (hl : m + 1 < mb) (hr : RefAt w tv' sv' R') (he : w' = ((w.setCell ⟨mb, 0, none⟩ tv').setCell ⟨mb, 1, none⟩ sv').setCell ⟨mb, 2, none⟩ (.int .i64 bs')) : MAt w2 w' m mb W' bd' bs' tv' sv' R' := by
  have u : Upd [mb] w w' := by
    rw [he]
    exact (((Upd.refl [mb] w).setCell (.inl (by simp)) _).setCell (.inl (by simp)) _).setCell (.inl (by simp)) _
  have k1 := ((hk.put 0 tv').put 1 sv').put 2 (.int .i64 bs')
  have fr := fun {α : Type} {E : Enc α} {v : Value} {l : List α} (r : Row E w v l) (hT : E.T = effE.T ∨ E.T = intE.T ∨ E.T = slE.T) => MAt.free hb hk r hT
  refine ⟨hb.upd u (by simp; omega) (by simp; omega) (fun p hp k hk hi => ?_), ?_, hr.upd u (fun r hT k hk hi => ?_), hu.trans' u (fun i hi => .inl (by simp at hi ⊢; omega)), hl⟩
  · have := fr (hb.rows p hp) (.inl rfl) k hk
    simp at this hi
    omega
  · rw [he]
    exact k1
  · have := fr r hT k hk
    simp at this hi
    omega

def RConfPost (w : World) (R : List REnt) (bd t : Int) (tv sv : Value) (e : Ending) (w' : World) : Prop :=
  ∃ A c q bd', e = .returned (.tuple #[.agg #[tv, sv, .int .i64 bd'], .slice A q.length c]) ∧ Row effE w' (.slice A q.length c) q ∧ Below w.heap.size w w' ∧ (t ≤ bd → q = [] ∧ bd' = bd) ∧ (bd < t → q = betweenL bd t R ∧ bd' = t)
theorem refconf_seq (tv sv : Value) (R : List REnt) (bd tick : Int) (w : World) (h : RefAt w tv sv R) (hR : ROk R) :
    Calls Try.prog 13 #[.agg #[tv, sv, .int .i64 bd], .int .i64 tick] w (RConfPost w R bd tick tv sv) := by
  by_cases hb : tick ≤ bd
  · refine (refconfirm_late tv sv R bd tick w h hb).mono ?_
    rintro e w' ⟨rfl, b⟩
    exact ⟨none, 0, [], bd, rfl, Row.nil _, b, fun _ => ⟨rfl, rfl⟩, fun hc => absurd hb (by omega)⟩
  · refine (refconfirm_calls tv sv R bd tick w h hR (by omega)).mono ?_
    rintro e w' ⟨v, rfl, o, b⟩
    obtain ⟨A, c, rfl, _⟩ := o.slice
    exact ⟨A, c, _, tick, rfl, o.row, b, fun hc => absurd hc hb, fun _ => ⟨rfl, rfl⟩⟩

set_option maxHeartbeats 1000000 in
set_option maxRecDepth 100000 in
theorem model_calls (v : Value) (zs : List Int) (w : World) (h : Ints w v zs) (hz : ∀ z ∈ zs, i64 z) (hzl : zs.length ≤ 9223372036854775807) :
    Calls Try.prog 3 #[v] w fun e w' => e = .returned (.bool true) ∧ Below w.heap.size w w' := by
  have h' := h
  obtain ⟨A, c, rfl, hc, -⟩ := h
  have HZ := Lib.hid hz
  have HZL := Lib.hid hzl
  clear hz hzl
  go_enter Try.func3, Try.ntmps3
  go_wp2_with fail
  refine (new_calls w).mono ?_
  rintro e w0 ⟨rfl, K0, b0⟩
  obtain ⟨m, hm⟩ : ∃ m, m = w.heap.size := ⟨_, rfl⟩
  have h0 := h'.below b0
  have hgl := K0.blk.lt
  rw [← hm] at K0 hgl ⊢
  have hmw : w.heap.size ≤ m := by omega
  clear h' hm
  -- body
  go_wp2_with fail
  have bk0 := Blk.new w0 27 #[.slice none 0 0, .slice none 0 0, .int .i64 0]
  have ba := (Below.refl w0.heap.size w0).alloc (Nat.le_refl _) (.cells #[.slice none 0 0, .slice none 0 0, .int .i64 0] 27)
  have h1 := h0.below ba
  have Ka := K0.below' ba
  have Ba := b0.trans (ba.mono b0.size)
  obtain ⟨mb, hmb⟩ : ∃ b, b = w0.heap.size := ⟨_, rfl⟩
  rw [← hmb] at bk0 hgl
  have hszA : (w0.alloc (.cells #[.slice none 0 0, .slice none 0 0, .int .i64 0] 27)).heap.size = mb + 1 := by simp [hmb]
  generalize w0.alloc (.cells #[.slice none 0 0, .slice none 0 0, .int .i64 0] 27) = wa at *
  rw [← hmb]
  have hwm : w.heap.size ≤ mb := by have := b0.size; omega
  clear hmb K0 h0 b0 ba
  refine (calls_calls _ zs wa h1 HZ.out HZL.out).mono ?_
  rintro e w2 ⟨vs, cs, rfl, oc, hcl, hcs, hok, b2⟩
  have B2 := Ba.trans (b2.mono Ba.size)
  have HC := Lib.hid hcs
  have HO := Lib.hid hok
  obtain ⟨As, ns, rfl, _⟩ := oc.slice
  have rc := oc.row
  have K2 := Ka.below' b2
  have bk2 := bk0.below' b2
  have hap : ∀ k, (Value.slice As cs.length ns).ownBlock = some k → k ∉ [m + 1, m, mb] := fun k hk hi => by
    have := oc.ge k hk
    simp at hi
    omega
  obtain ⟨N, hN⟩ : ∃ N, N = cs.length := ⟨_, rfl⟩
  have HN := Lib.hid hN
  rw [← hN] at hcl rc hap ⊢
  have HAP := Lib.hid hap
  have HAC := Lib.hid (fun x hx k hk => MAt.free K2 bk2 (hcs x hx) (.inl rfl) k hk : ∀ x ∈ cs, ∀ k, x.s.v.ownBlock = some k → k ∉ [m + 1, m, mb])
  have HS2 := Lib.hid (⟨K2, bk2, RefAt.nil w2, Upd.refl _ _, hgl⟩ : MAt w2 w2 m mb [] 0 0 (.slice none 0 0) (.slice none 0 0) [])
  clear hcs hok oc hap hN Ba b2 h1 Ka bk0 K2 bk2
  go_wp2_with fail
  go_loopg [6] N (fun n iv wr => ∃ (k : Nat) (W : List (Int × Ent)) (bd : Int) (tv sv : Value) (R : List REnt), k + n = N ∧ iv = .int .i64 k ∧ MAt w2 wr m mb W bd bd tv sv R ∧ Hid (Rel R W bd) ∧ R.length ≤ k ∧ W.length ≤ k)
  case atStart => exact ⟨0, [], 0, _, _, [], by omega, rfl, HS2.out, Rel.nil, by simp, by simp⟩
  case round =>
    obtain ⟨k, W, bd, tv, sv, R, hk, rfl, S, HR, hRl, hWl⟩ := hrel
    have HK := Lib.hid hk
    have hkN : k ≤ N := by omega
    clear hk
    by_cases hlt : k < N
    · have hk1 : k < cs.length := by rw [← HN.out]; exact hlt
      have U := S.upd
      have r3 := rc.upd U HAP.out
      obtain ⟨g1, o1, rfl, hg, c0, c1, c2⟩ := r3.cl_at hk1
      have hxo := Lib.hid (HO.out _ (List.getElem_mem hk1))
      have hxr := (HC.out _ (List.getElem_mem hk1)).upd U (HAC.out _ (List.getElem_mem hk1))
      have hi0 : (0 : Int) ≤ k := by omega
      have hi1 : (k : Int) < N := by omega
      generalize cs[k] = x at *
      obtain ⟨xc, xt, ⟨xa, xn, xcp⟩, xl⟩ := x
      simp only [Sl.v] at c0 c1 c2 hxr
      obtain ⟨Ax, cx, hxs, hxc⟩ := hxr.slice
      cases hxs
      have t0 := hxo.out.lo
      have t1 := hxo.out.hi
      have t2 := hxo.out.len
      simp only at t0 t1 t2
      have ok' := Lib.hid (hxo.out.ok : OkAll xl)
      have tk' := Lib.hid (hxo.out.ticks : ∀ e ∈ xl, e.tick = xt)
      have hti : i64 xt := ⟨by omega, by omega⟩
      have h6 : xt < 6000 := by omega
      have h40 : xl.length ≤ 40 := by omega
      have HS := Lib.hid S
      obtain ⟨T1, tc, rfl, _⟩ := S.ref.ticks.slice
      obtain ⟨T2, sc, rfl, _⟩ := S.ref.lists.slice
      rw [List.length_map, List.length_map] at HS
      clear S U r3 hxo
      -- the call, copied
      have bA := (Below.refl wr.heap.size wr).alloc (Nat.le_refl _) (.cells #[.bool xc, .int .i64 xt, .slice xa xl.length xcp] 32)
      have bkc := Blk.new wr 32 #[.bool xc, .int .i64 xt, .slice xa xl.length xcp]
      have SA := HS.out.new bA
      have rA := hxr.below' bA
      have dm0 := HS.out.blk.cell 0
      have dm1 := HS.out.blk.cell 1
      have dm2 := HS.out.blk.cell 2
      have mlt := HS.out.blk.lt
      simp only [List.getElem?_toArray, List.getElem?_cons_succ, List.getElem?_cons_zero] at dm0 dm1 dm2
      cases xc with
      | true =>
        go_wp2_with fail
        refine (refconf_seq (.slice T1 R.length tc) (.slice T2 R.length sc) R bd xt _ SA.ref HR.out.rok).mono ?_
        rintro e w3 ⟨A6, c6, qr, bs, rfl, rq, b3, hlo, hhi⟩
        have S3 := SA.new b3
        have dc1 := (bkc.below' b3).cell 1
        have fm0 := S3.blk.frozen 0
        have fm1 := S3.blk.frozen 1
        have fm2 := S3.blk.frozen 2
        have em0 := S3.blk.cell 0
        have em1 := S3.blk.cell 1
        have em2 := S3.blk.cell 2
        have mlt3 := S3.blk.lt
        have sz3 : wr.heap.size + 1 ≤ w3.heap.size := by have := b3.size; simpa using this
        simp only [List.getElem?_toArray, List.getElem?_cons_succ, List.getElem?_cons_zero] at dc1 em0 em1 em2
        have hnm : wr.heap.size ≠ mb := by omega
        have M3 := MAt.put S3.brd S3.blk S3.upd S3.lt S3.ref (bs' := bs) rfl
        have rq3 := rq.upd (S := [mb]) ((((Upd.refl [mb] w3).setCell (p := ⟨mb, 0, none⟩) (.inl (by simp)) (.slice T1 R.length tc)).setCell (p := ⟨mb, 1, none⟩) (.inl (by simp)) (.slice T2 R.length sc)).setCell (p := ⟨mb, 2, none⟩) (.inl (by simp)) (.int .i64 bs)) (fun k hk hi => by have := MAt.free S3.brd S3.blk rq (.inl rfl) k hk; simp at this hi; omega)
        have bk3 := (((bkc.below' b3).far (p := ⟨mb, 0, none⟩) hnm (.slice T1 R.length tc)).far (p := ⟨mb, 1, none⟩) hnm (.slice T2 R.length sc)).far (p := ⟨mb, 2, none⟩) hnm (.int .i64 bs)
        have b3a := (Below.refl _ (((w3.setCell ⟨mb, 0, none⟩ (.slice T1 R.length tc)).setCell ⟨mb, 1, none⟩ (.slice T2 R.length sc)).setCell ⟨mb, 2, none⟩ (.int .i64 bs))).alloc (Nat.le_refl _) (.cells #[.slice T1 R.length tc, .slice T2 R.length sc, .int .i64 bs] 27)
        have M4 := M3.new b3a
        have rq4 := rq3.below' b3a
        have dc4 := (bk3.below' b3a).cell 1
        simp only [List.getElem?_toArray, List.getElem?_cons_succ, List.getElem?_cons_zero] at dc4
        clear dm0 dm1 dm2 c0 c1 c2 hxr rA SA bA S3 b3a b3 bkc M3 rq3 bk3
        go_wp2_with fail
        refine (confirm_seq (m + 1) m W bd xt _ M4.brd HR.out.wok hti).mono ?_
        rintro e w5 ⟨A7, c7, q7, W', bd', rfl, K5, r7, u5, s5⟩
        have hbs : bs = bd' := by
          rw [s5.sx.2]
          by_cases hb : xt ≤ bd
          · rw [if_pos hb]; exact (hlo hb).2
          · rw [if_neg hb]; exact (hhi (by omega)).2
        subst hbs
        have hqq : qr = q7 := by
          by_cases hb : xt ≤ bd
          · rw [(hlo hb).1, (s5.late hb).1]
          · rw [(hhi (by omega)).1, (s5.okk (by omega)).1, HR.out.take]
        subst hqq
        have M5 := M4.board K5 u5 (fun i hi => hi)
        have rq5 := M4.brd.row_upd rq4 u5 (fun i hi => hi)
        have HR5 := Lib.hid (HR.out.conf s5)
        have hWl5 := (s5.wok HR.out.wok).2
        have hql := s5.len HR.out.wok
        have hRl5 := hRl
        clear M4 K5 u5 s5 rq4 em0 em1 em2 fm0 fm1 fm2 dc1 dc4 hlo hhi HR HS
        go_wp2_with fail
        refine (same_yes _ _ qr w5 r7 rq5 (by omega)).mono ?_
        rintro e w6 ⟨rfl, b6⟩
        have M6 := M5.new b6
        clear M5 rq5 r7 b6 rq
        obtain ⟨bd6, hbd6⟩ : ∃ b, b = bs := ⟨_, rfl⟩
        rw [← hbd6] at M6 HR5
        clear hbd6
        obtain ⟨T6, tc6, S6, sc6, R6, e1, e2⟩ : ∃ T6 tc6 S6 sc6 R6, R6 = R ∧ (T6 = T1 ∧ tc6 = tc ∧ S6 = T2 ∧ sc6 = sc) := ⟨_, _, _, _, _, rfl, rfl, rfl, rfl, rfl⟩
        obtain ⟨rfl, rfl, rfl, rfl⟩ := e2
        subst e1
        have hW6 : W'.length ≤ k + 1 := by omega
        have hR6 : R6.length ≤ k + 1 := by omega
        have HM6 := Lib.hid M6
        have y0 := M6.blk.cell 0
        have y1 := M6.blk.cell 1
        have y2 := M6.blk.cell 2
        simp only [List.getElem?_toArray, List.getElem?_cons_succ, List.getElem?_cons_zero] at y0 y1 y2
        obtain ⟨T, hT⟩ : ∃ T, T = takeL 6000 W' := ⟨_, rfl⟩
        have HT := Lib.hid hT
        have hTb := Lib.hid (by have h1 := takeL_len (lim := 6000) HR5.out.wok; have h2 := HR5.out.wok.len; rw [hT]; omega : T.length ≤ 140737488355328)
        have KP : Hid (∀ X, Below w6.heap.size w6 X → Calls Try.prog 21 #[.pointer (some ⟨m + 1, 0, none⟩)] X fun e w' => ∃ A c, e = .returned (.slice A T.length c) ∧ Row effE w' (.slice A T.length c) T ∧ Below w6.heap.size w6 w' ∧ Below X.heap.size X w') := fun X hX => by
          refine (pending_calls (m + 1) m W' bd6 X (HM6.out.new hX).brd HR5.out.wok).mono ?_
          rintro e w' ⟨v, rfl, o, b⟩
          rw [← hT] at o
          obtain ⟨A, c, rfl, _⟩ := o.slice
          exact ⟨A, c, rfl, o.row, hX.trans (b.mono hX.size), b⟩
        have KQ : Hid (∀ X, Below w6.heap.size w6 X → Calls Try.prog 22 #[.agg #[.slice T6 R6.length tc6, .slice S6 R6.length sc6, .int .i64 bd6]] X fun e w' => ∃ A c, e = .returned (.slice A T.length c) ∧ Row effE w' (.slice A T.length c) T ∧ Below w6.heap.size w6 w' ∧ Below X.heap.size X w') := fun X hX => by
          refine (refpending_calls _ _ R6 bd6 X (HM6.out.new hX).ref HR5.out.rok).mono ?_
          rintro e w' ⟨v, rfl, o, b⟩
          rw [HR5.out.take, ← hT] at o
          obtain ⟨A, c, rfl, _⟩ := o.slice
          exact ⟨A, c, rfl, o.row, hX.trans (b.mono hX.size), b⟩
        have mlt6 := HM6.out.blk.lt
        have hd6 : Below w6.heap.size w6 w6.drew := below_drewN (Below.refl _ _) 1
        clear hT M6
        go_wp2_with fail
        go_region_law (first
          | (go_simp; go_at_call 21; with_reducible refine (KP.out w6.drew hd6).mono ?_; rintro e wp ⟨Ap, cp, rfl, rp, bp, bp'⟩; have z0 := (bp.cell (p := ⟨mb, 0, none⟩) mlt6).trans y0; have z1 := (bp.cell (p := ⟨mb, 1, none⟩) mlt6).trans y1; have z2 := (bp.cell (p := ⟨mb, 2, none⟩) mlt6).trans y2)
          | (go_simp; go_at_call 22; with_reducible refine (KQ.out wp bp).mono ?_; rintro e wq ⟨Aq, cq, rfl, rq, bq, bq'⟩; have rp2 := rp.below' bq')
          | (go_simp; go_at_call 22; with_reducible refine (KQ.out w6.drew hd6).mono ?_; rintro e wq1 ⟨Aq, cq, rfl, rq, bq, bq'⟩)
          | (go_simp; go_at_call 21; with_reducible refine (KP.out wq1 bq).mono ?_; rintro e wp1 ⟨Ap, cp, rfl, rp, bp, bp'⟩; have rq2 := rq.below' bp')
          | (go_simp; go_at_call 14; with_reducible refine (same_yes _ _ T wq rp2 rq hTb.out).mono ?_; rintro e w9 ⟨rfl, b9⟩; have M9 := HM6.out.new (bq.trans (b9.mono bq.size)))
          | (go_simp; go_at_call 14; with_reducible refine (same_yes _ _ T wp1 rp rq2 hTb.out).mono ?_; rintro e w9 ⟨rfl, b9⟩; have M9 := HM6.out.new (bp.trans (b9.mono bp.size))))
        all_goals (
          clear KP KQ y0 y1 y2 HM6
          go_wp2_with fail
          have hk := HK.out
          go_roundg (gk - 1)
          case measure => omega
          case rel => exact ⟨k + 1, W', bd6, _, _, R6, by omega, by go_num, M9, HR5, hR6, hW6⟩)
      | false =>
        go_wp2_with fail
        refine (refwrong_calls (.slice T1 R.length tc) (.slice T2 R.length sc) _ R bd xt xl _ SA.ref rA (by omega) hti).mono ?_
        rintro e w3 ⟨rfl, b3⟩
        have S3 := SA.new b3
        have r5 := rA.below' b3
        have bk3 := bkc.below' b3
        have dc1 := bk3.cell 1
        have dc2 := bk3.cell 2
        simp only [List.getElem?_toArray, List.getElem?_cons_succ, List.getElem?_cons_zero] at dc1 dc2
        have hqm : wr.heap.size ≠ m := by have h1 := HS.out.lt; omega
        clear dm0 dm1 dm2 c0 c1 c2 hxr rA SA bA b3 bkc HS
        go_wp2_with fail
        refine (show_seq (m + 1) m W bd xt _ xl w3 S3.brd HR.out.wok r5 ok'.out t0 h6 h40 tk'.out).mono ?_
        rintro e w5 hp
        unfold ShowPost at hp
        obtain ⟨P1, p1, d1, P2, p2, d2, n, W', vc, rfl, K5, ra, rb, u5, s5, -, -, -⟩ := hp
        have M5 := S3.board K5 u5 (fun i hi => by simp at hi; simp [hi])
        have r6 := S3.brd.row_upd r5 u5 (fun i hi => by simp at hi; simp [hi])
        have bk5 := bk3.upd u5 (by simp; omega)
        have hWl5 := (s5.wok HR.out.wok (by omega) h40 ok'.out hti).2
        have lnd := s5.len HR.out.wok
        clear S3 r5 bk3 dc1 dc2 K5 u5
        by_cases hb : xt < bd
        · have hw := wrong_late (l := xl) t0 h6 hb
          have hn : n = 20 := by rw [s5.num, if_pos hb]
          obtain ⟨rfl, rfl, rfl⟩ := s5.late hb
          subst hn
          rw [hw]
          have HR5 := HR
          obtain ⟨w6, rfl⟩ : ∃ y : World, y = w5 := ⟨_, rfl⟩
          obtain ⟨bd6, rfl⟩ : ∃ y : Int, y = bd := ⟨_, rfl⟩
          obtain ⟨R6, rfl⟩ : ∃ y : List REnt, y = R := ⟨_, rfl⟩
          obtain ⟨T6, tc6, S6, sc6, rfl, rfl, rfl, rfl⟩ : ∃ a b c d, a = T1 ∧ b = tc ∧ c = T2 ∧ d = sc := ⟨_, _, _, _, rfl, rfl, rfl, rfl⟩
          have M6 := M5
          clear M5 hw s5 HR ra rb r6 bk5 lnd hb
          have hW6 : W'.length ≤ k + 1 := by omega
          have hR6 : R6.length ≤ k + 1 := by omega
          have HM6 := Lib.hid M6
          have y0 := M6.blk.cell 0
          have y1 := M6.blk.cell 1
          have y2 := M6.blk.cell 2
          simp only [List.getElem?_toArray, List.getElem?_cons_succ, List.getElem?_cons_zero] at y0 y1 y2
          obtain ⟨T, hT⟩ : ∃ T, T = takeL 6000 W' := ⟨_, rfl⟩
          have HT := Lib.hid hT
          have hTb := Lib.hid (by have h1 := takeL_len (lim := 6000) HR5.out.wok; have h2 := HR5.out.wok.len; rw [hT]; omega : T.length ≤ 140737488355328)
          have KP : Hid (∀ X, Below w6.heap.size w6 X → Calls Try.prog 21 #[.pointer (some ⟨m + 1, 0, none⟩)] X fun e w' => ∃ A c, e = .returned (.slice A T.length c) ∧ Row effE w' (.slice A T.length c) T ∧ Below w6.heap.size w6 w' ∧ Below X.heap.size X w') := fun X hX => by
            refine (pending_calls (m + 1) m W' bd6 X (HM6.out.new hX).brd HR5.out.wok).mono ?_
            rintro e w' ⟨v, rfl, o, b⟩
            rw [← hT] at o
            obtain ⟨A, c, rfl, _⟩ := o.slice
            exact ⟨A, c, rfl, o.row, hX.trans (b.mono hX.size), b⟩
          have KQ : Hid (∀ X, Below w6.heap.size w6 X → Calls Try.prog 22 #[.agg #[.slice T6 R6.length tc6, .slice S6 R6.length sc6, .int .i64 bd6]] X fun e w' => ∃ A c, e = .returned (.slice A T.length c) ∧ Row effE w' (.slice A T.length c) T ∧ Below w6.heap.size w6 w' ∧ Below X.heap.size X w') := fun X hX => by
            refine (refpending_calls _ _ R6 bd6 X (HM6.out.new hX).ref HR5.out.rok).mono ?_
            rintro e w' ⟨v, rfl, o, b⟩
            rw [HR5.out.take, ← hT] at o
            obtain ⟨A, c, rfl, _⟩ := o.slice
            exact ⟨A, c, rfl, o.row, hX.trans (b.mono hX.size), b⟩
          have mlt6 := HM6.out.blk.lt
          have hd6 : Below w6.heap.size w6 w6.drew := below_drewN (Below.refl _ _) 1
          clear hT M6
          go_wp2_with fail
          go_region_law (first
            | (go_simp; go_at_call 21; with_reducible refine (KP.out w6.drew hd6).mono ?_; rintro e wp ⟨Ap, cp, rfl, rp, bp, bp'⟩; have z0 := (bp.cell (p := ⟨mb, 0, none⟩) mlt6).trans y0; have z1 := (bp.cell (p := ⟨mb, 1, none⟩) mlt6).trans y1; have z2 := (bp.cell (p := ⟨mb, 2, none⟩) mlt6).trans y2)
            | (go_simp; go_at_call 22; with_reducible refine (KQ.out wp bp).mono ?_; rintro e wq ⟨Aq, cq, rfl, rq, bq, bq'⟩; have rp2 := rp.below' bq')
            | (go_simp; go_at_call 22; with_reducible refine (KQ.out w6.drew hd6).mono ?_; rintro e wq1 ⟨Aq, cq, rfl, rq, bq, bq'⟩)
            | (go_simp; go_at_call 21; with_reducible refine (KP.out wq1 bq).mono ?_; rintro e wp1 ⟨Ap, cp, rfl, rp, bp, bp'⟩; have rq2 := rq.below' bp')
            | (go_simp; go_at_call 14; with_reducible refine (same_yes _ _ T wq rp2 rq hTb.out).mono ?_; rintro e w9 ⟨rfl, b9⟩; have M9 := HM6.out.new (bq.trans (b9.mono bq.size)))
            | (go_simp; go_at_call 14; with_reducible refine (same_yes _ _ T wp1 rp rq2 hTb.out).mono ?_; rintro e w9 ⟨rfl, b9⟩; have M9 := HM6.out.new (bp.trans (b9.mono bp.size))))
          all_goals (
            clear KP KQ y0 y1 y2 HM6
            go_wp2_with fail
            have hk := HK.out
            go_roundg (gk - 1)
            case measure => omega
            case rel => exact ⟨k + 1, W', bd6, _, _, R6, by omega, by go_num, M9, HR5, hR6, hW6⟩)
        · have hw := wrong_ok t0 h6 (by omega : bd ≤ xt) h40 tk'.out
          have hn : n = 0 := by rw [s5.num, if_neg hb]
          obtain ⟨hd1, hd2, -⟩ := s5.okk (by omega)
          have HS5 := Lib.hid s5
          subst hn
          rw [hw]
          have ho := HR.out.old (t := xt) (by omega)
          have dm0 := M5.blk.cell 0
          have dm1 := M5.blk.cell 1
          have dm2 := M5.blk.cell 2
          have dc1 := bk5.cell 1
          simp only [List.getElem?_toArray, List.getElem?_cons_succ, List.getElem?_cons_zero] at dm0 dm1 dm2 dc1
          have hob : (rold xt R).2.length ≤ 40 := by
            rw [ho]
            unfold old
            cases hg : mget xt W with
            | none => simp
            | some e => exact (HR.out.wok.each _ (mget_mem hg)).1
          rw [← ho] at hd1 hd2
          have HD1 := Lib.hid hd1
          have HD2 := Lib.hid hd2
          clear ho hd1 hd2 s5 hw
          go_wp2_with fail
          refine (of_calls (.slice T1 R.length tc) (.slice T2 R.length sc) R bd xt w5 M5.ref HR.out.rok).mono ?_
          rintro e w7 ⟨rfl, b7⟩
          have ro := (M5.ref.old_row xt).below' b7
          generalize rold xt R = ov at *
          obtain ⟨⟨Ao, no, co⟩, lo⟩ := ov
          simp only [Sl.v] at ro hob HD1 HD2 ⊢
          obtain ⟨Ao', co', hos, _⟩ := ro.slice
          cases hos
          have M7 := M5.new b7
          have r7 := r6.below' b7
          have ra7 := ra.below' b7
          have rb7 := rb.below' b7
          have bk7 := bk5.below' b7
          have dc7 := bk7.cell 2
          simp only [List.getElem?_toArray, List.getElem?_cons_succ, List.getElem?_cons_zero] at dc7
          clear dm0 dm1 dm2 dc1 M5 r6 ra rb bk5 b7
          go_wp2_with fail
          refine (diffR_calls _ _ xl lo w7 r7 ro (by omega) (by omega)).mono ?_
          rintro e w8 ⟨v8, rfl, o8, b8⟩
          rw [← HD1.out] at o8
          go_wp2_with fail
          refine (same_yes _ _ d1 w8 (ra7.below' b8) o8.row (by omega)).mono ?_
          rintro e w9 ⟨rfl, b9⟩
          have b79 := b8.trans (b9.mono b8.size)
          have M9 := M7.new b79
          have r9 := r7.below' b79
          have ro9 := ro.below' b79
          have rb9 := rb7.below' b79
          have bk9 := bk7.below' b79
          have dc9 := bk9.cell 2
          simp only [List.getElem?_toArray, List.getElem?_cons_succ, List.getElem?_cons_zero] at dc9
          clear dc7 M7 r7 ro ra7 rb7 bk7 b79 b8 b9 o8
          go_wp2_with fail
          refine (diffR_calls _ _ lo xl w9 ro9 r9 (by omega) (by omega)).mono ?_
          rintro e w10 ⟨v10, rfl, o10, b10⟩
          rw [← HD2.out] at o10
          go_wp2_with fail
          refine (same_yes _ _ d2 w10 (rb9.below' b10) o10.row (by omega)).mono ?_
          rintro e w11 ⟨rfl, b11⟩
          have b911 := b10.trans (b11.mono b10.size)
          have M11 := M9.new b911
          have r11 := r9.below' b911
          have bk11 := bk9.below' b911
          have dd1 := bk11.cell 1
          have dd2 := bk11.cell 2
          have dm0 := M11.blk.cell 0
          have dm1 := M11.blk.cell 1
          have dm2 := M11.blk.cell 2
          simp only [List.getElem?_toArray, List.getElem?_cons_succ, List.getElem?_cons_zero] at dd1 dd2 dm0 dm1 dm2
          clear dc9 M9 r9 ro9 rb9 bk9 b911 b10 b11 o10
          go_wp2_with fail
          refine (refshow_calls (.slice T1 R.length tc) (.slice T2 R.length sc) R bd xt xa xl.length xcp xl w11 M11.ref HR.out.rok r11 hti).mono ?_
          rintro e w12 hp
          unfold RShowPost at hp
          obtain ⟨tv6, sv6, rfl, ref12, b12⟩ := hp
          have HR5 := Lib.hid (HR.out.show (u := ⟨xa, xl.length, xcp⟩) (by omega) (by omega) (by omega) h40 ok'.out hti HS5.out)
          have hRl6 : (showF xt (⟨xa, xl.length, xcp⟩, xl) false R).length ≤ R.length + 1 := by rw [showF_mput HR.out.sorted]; exact length_mput _ _ _
          generalize showF xt (⟨xa, xl.length, xcp⟩, xl) false R = R6 at *
          obtain ⟨T6, tc6, rfl, _⟩ := ref12.ticks.slice
          obtain ⟨S6, sc6, rfl, _⟩ := ref12.lists.slice
          rw [List.length_map, List.length_map] at ref12 ⊢
          have M12 := M11.new b12
          have M6 := MAt.put M12.brd M12.blk M12.upd M12.lt ref12 (bs' := bd) rfl
          have fm0 := M12.blk.frozen 0
          have fm1 := M12.blk.frozen 1
          have fm2 := M12.blk.frozen 2
          have em0 := M12.blk.cell 0
          have em1 := M12.blk.cell 1
          have em2 := M12.blk.cell 2
          simp only [List.getElem?_toArray, List.getElem?_cons_succ, List.getElem?_cons_zero] at em0 em1 em2
          clear dd1 dd2 dm0 dm1 dm2 M11 r11 bk11 b12 ref12 M12 HS5 HR
          go_wp2_with fail
          obtain ⟨bd6, rfl⟩ : ∃ y : Int, y = bd := ⟨_, rfl⟩
          generalize ((w12.setCell ⟨mb, 0, none⟩ (.slice T6 R6.length tc6)).setCell ⟨mb, 1, none⟩ (.slice S6 R6.length sc6)).setCell ⟨mb, 2, none⟩ (.int .i64 bd6) = w6 at *
          clear em0 em1 em2 fm0 fm1 fm2
          have hW6 : W'.length ≤ k + 1 := by omega
          have hR6 : R6.length ≤ k + 1 := by omega
          have HM6 := Lib.hid M6
          have y0 := M6.blk.cell 0
          have y1 := M6.blk.cell 1
          have y2 := M6.blk.cell 2
          simp only [List.getElem?_toArray, List.getElem?_cons_succ, List.getElem?_cons_zero] at y0 y1 y2
          obtain ⟨T, hT⟩ : ∃ T, T = takeL 6000 W' := ⟨_, rfl⟩
          have HT := Lib.hid hT
          have hTb := Lib.hid (by have h1 := takeL_len (lim := 6000) HR5.out.wok; have h2 := HR5.out.wok.len; rw [hT]; omega : T.length ≤ 140737488355328)
          have KP : Hid (∀ X, Below w6.heap.size w6 X → Calls Try.prog 21 #[.pointer (some ⟨m + 1, 0, none⟩)] X fun e w' => ∃ A c, e = .returned (.slice A T.length c) ∧ Row effE w' (.slice A T.length c) T ∧ Below w6.heap.size w6 w' ∧ Below X.heap.size X w') := fun X hX => by
            refine (pending_calls (m + 1) m W' bd6 X (HM6.out.new hX).brd HR5.out.wok).mono ?_
            rintro e w' ⟨v, rfl, o, b⟩
            rw [← hT] at o
            obtain ⟨A, c, rfl, _⟩ := o.slice
            exact ⟨A, c, rfl, o.row, hX.trans (b.mono hX.size), b⟩
          have KQ : Hid (∀ X, Below w6.heap.size w6 X → Calls Try.prog 22 #[.agg #[.slice T6 R6.length tc6, .slice S6 R6.length sc6, .int .i64 bd6]] X fun e w' => ∃ A c, e = .returned (.slice A T.length c) ∧ Row effE w' (.slice A T.length c) T ∧ Below w6.heap.size w6 w' ∧ Below X.heap.size X w') := fun X hX => by
            refine (refpending_calls _ _ R6 bd6 X (HM6.out.new hX).ref HR5.out.rok).mono ?_
            rintro e w' ⟨v, rfl, o, b⟩
            rw [HR5.out.take, ← hT] at o
            obtain ⟨A, c, rfl, _⟩ := o.slice
            exact ⟨A, c, rfl, o.row, hX.trans (b.mono hX.size), b⟩
          have mlt6 := HM6.out.blk.lt
          have hd6 : Below w6.heap.size w6 w6.drew := below_drewN (Below.refl _ _) 1
          clear hT M6
          go_region_law (first
            | (go_simp; go_at_call 21; with_reducible refine (KP.out w6.drew hd6).mono ?_; rintro e wp ⟨Ap, cp, rfl, rp, bp, bp'⟩; have z0 := (bp.cell (p := ⟨mb, 0, none⟩) mlt6).trans y0; have z1 := (bp.cell (p := ⟨mb, 1, none⟩) mlt6).trans y1; have z2 := (bp.cell (p := ⟨mb, 2, none⟩) mlt6).trans y2)
            | (go_simp; go_at_call 22; with_reducible refine (KQ.out wp bp).mono ?_; rintro e wq ⟨Aq, cq, rfl, rq, bq, bq'⟩; have rp2 := rp.below' bq')
            | (go_simp; go_at_call 22; with_reducible refine (KQ.out w6.drew hd6).mono ?_; rintro e wq1 ⟨Aq, cq, rfl, rq, bq, bq'⟩)
            | (go_simp; go_at_call 21; with_reducible refine (KP.out wq1 bq).mono ?_; rintro e wp1 ⟨Ap, cp, rfl, rp, bp, bp'⟩; have rq2 := rq.below' bp')
            | (go_simp; go_at_call 14; with_reducible refine (same_yes _ _ T wq rp2 rq hTb.out).mono ?_; rintro e w9 ⟨rfl, b9⟩; have M9 := HM6.out.new (bq.trans (b9.mono bq.size)))
            | (go_simp; go_at_call 14; with_reducible refine (same_yes _ _ T wp1 rp rq2 hTb.out).mono ?_; rintro e w9 ⟨rfl, b9⟩; have M9 := HM6.out.new (bp.trans (b9.mono bp.size))))
          all_goals (
            clear KP KQ y0 y1 y2 HM6
            go_wp2_with fail
            have hk := HK.out
            go_roundg (gk - 1)
            case measure => omega
            case rel => exact ⟨k + 1, W', bd6, _, _, R6, by omega, by go_num, M9, HR5, hR6, hW6⟩)
    · obtain rfl : k = N := by omega
      go_wp2_with fail
      refine (lives_calls wr).mono ?_
      rintro e w12 ⟨rfl, b12⟩
      have U12 := S.upd.new b12
      go_wp2_with fail
      go_ret
      exact ⟨rfl, B2.trans (U12.below B2.size (fun i hi => by simp at hi; omega))⟩
end Go.Proofs.Ytlmmhgbbfmocaaa
