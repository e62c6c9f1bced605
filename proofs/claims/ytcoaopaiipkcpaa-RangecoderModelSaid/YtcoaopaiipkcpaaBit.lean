/- The reference coder's bit. -/
import Derived.Test.YtcoaopaiipkcpaaRef
namespace Go.Proofs.Ytcoaopaiipkcpaa
open Go.RowKit Rc

theorem tab_len (s : St) : ((List.range 256).map s.p).length = 256 := by simp
theorem tab_get (s : St) {k : Nat} (hk : k < 256) : ((List.range 256).map s.p)[k]? = some (s.p k) := by simp [hk]
/-- The table of predictions. -/
structure Tab (l : List Nat) (p : Nat → Nat) : Prop where
  len : l.length = 256
  get : ∀ k, k < 256 → l[k]? = some (p k)
theorem Tab.set {l : List Nat} {p : Nat → Nat} (h : Tab l p) {k : Nat} (_hk : k < 256) (v : Nat) : Tab (l.set k v) (setp p k v) :=
  ⟨by rw [List.length_set]; exact h.len, fun j hj => by
    unfold setp
    by_cases he : j = k
    · subst he; rw [if_pos rfl, List.getElem?_set_self (by rw [h.len]; exact hj)]
    · rw [if_neg he, List.getElem?_set_ne (fun e => he e.symm)]; exact h.get j hj⟩
theorem Tab.init {l : List Nat} (h : l = List.replicate 256 2048) : Tab l St.init.p :=
  ⟨by rw [h, List.length_replicate], fun k hk => by rw [h, List.getElem?_replicate, if_pos hk]; rfl⟩

theorem OwnW.drewN {T : TypeId} {w : World} {base : Nat} {v : Value} {l : List Nat} (h : OwnW T w base v l) (n : Nat) : OwnW T (w.drewN n) base v l := h

theorem OwnW.blk {T : TypeId} {w : World} {base g n c : Nat} {l : List Nat} (h : OwnW T w base (.slice (some ⟨g, 0, none⟩) n c) l) : ∃ cs, Blk w g T cs := by
  rcases h.2 with ⟨he, _⟩ | ⟨g', cap, cur, he, _, hh, _⟩
  · cases he
  · obtain ⟨rfl⟩ : g = g' := by injection he with e1; injection e1 with e2; injection e2
    exact ⟨_, hh⟩
theorem OwnW.grown {T : TypeId} {w w' : World} {base : Nat} {v : Value} {l : List Nat} {row : Option Nat} (h : OwnW T w base v l) (hb : w.grownBy w' row) (hne : ∀ k, v.ownBlock = some k → some k ≠ row) : OwnW T w' base v l := by
  refine ⟨h.1, ?_⟩
  rcases h.2 with h2 | ⟨g, cap, cur, rfl, hg, hh, r⟩
  · exact .inl h2
  · exact .inr ⟨g, cap, cur, rfl, hg, (hb.block g (World.ownsRow.lt h g rfl).2 (hne g rfl)).trans hh, r⟩
theorem OwnW.far {T : TypeId} {w : World} {base : Nat} {v : Value} {l : List Nat} (h : OwnW T w base v l) {p : Addr} (hp : v.ownBlock ≠ some p.block) (u : Value) : OwnW T (w.setCell p u) base v l := ownsRow_setCell_other h hp u
theorem OwnW.store {T : TypeId} {w : World} {base g m : Nat} {l : List Nat} (h : OwnW T w base (.slice (some ⟨g, 0, none⟩) l.length m) l) (j x : Nat) : OwnW T (w.setCell ⟨g, j, none⟩ (.int .u64 (x : Int))) base (.slice (some ⟨g, 0, none⟩) l.length m) (l.set j x) := by
  have := (World.ownsRow.stored h j (.int .u64 (x : Int))).1
  unfold OwnW
  rw [w64_set] at this
  rw [List.length_set]
  exact this

set_option maxHeartbeats 2000000 in
set_option maxRecDepth 100000 in
theorem bit_calls (base : Nat) (s : St) (l out : List Nat) (P O : Value) (k b : Nat) (w : World) (hs : s.Ok) (hk : k < 256) (hb : b ≤ 1) (hl : Tab l s.p) (oP : OwnW 53 w base P l) (oO : OwnB 5 w base O out) (hout : out.length ≤ 1000000) (hbs : base ≤ w.heap.size) (a : Nat) (ca : Array Value) (hba : Blk w a 56 ca) :
    Calls Try.prog 26 #[.agg #[.int .u64 s.lo, .int .u64 s.hi, P, O], .int .i64 k, .bool (b == 1)] w fun e w' => ∃ (l' : List Nat) (O' : Value),
      e = .returned (.agg #[.int .u64 (s.step k (s.mid k) b).2.lo, .int .u64 (s.step k (s.mid k) b).2.hi, P, O']) ∧ Tab l' (s.step k (s.mid k) b).2.p ∧ OwnW 53 w' base P l' ∧ OwnB 5 w' base O' (out ++ (s.step k (s.mid k) b).1) ∧ Below base w w' ∧ Blk w' a 56 ca := by
  obtain ⟨AP, cP, rfl⟩ := own_slice oP
  obtain ⟨AO, cO, rfl⟩ := own_slice oO
  have hll := hl.len
  obtain ⟨gp, cp', hf, hgb, hgl⟩ := World.ownsRow.form oP (by rw [hll]; omega)
  obtain rfl : AP = some ⟨gp, 0, none⟩ := by injection hf
  clear hf
  have hkl : k < l.length := by omega
  have hk0 : (0 : Int) ≤ k := by omega
  have hk1 : (k : Int) < l.length := by omega
  have hlk : l[k] = s.p k := by
    have := hl.get k hk
    rw [List.getElem?_eq_getElem hkl] at this
    injection this
  have hpk := hs.1 k hk
  have hm := St.mid_lt hs hk
  have hlt := hs.lt
  have hh := hs.2.2
  obtain ⟨m, hmid⟩ : ∃ m, m = s.mid k := ⟨_, rfl⟩
  rw [← hmid] at hm ⊢
  have hmz : (s.lo : Int) + ((s.hi : Int) - s.lo) / 4096 * (s.p k : Int) = m := by
    rw [hmid]; unfold St.mid
    rw [Int.natCast_add, Int.natCast_mul, Int.natCast_ediv, Int.natCast_sub (by omega)]; rfl
  have hfin : (norm 4 (nlo s.lo m b) (nhi s.hi m b)).2.1 / 16777216 < (norm 4 (nlo s.lo m b) (nhi s.hi m b)).2.2 / 16777216 := by
    have := (St.Ok.step hs hk (b := b) hm.1 hm.2).2.1
    exact this
  have hprod : 0 ≤ ((s.hi : Int) - s.lo) / 4096 * (s.p k : Int) ∧ ((s.hi : Int) - s.lo) / 4096 * (s.p k : Int) < 4294967296 := by omega
  have hcell := (World.ownsRow.cellAt oP k (by omega)).trans (w64_get l k hkl)
  rw [hlk] at hcell
  have hfr := World.ownsRow.frozenAt oP k
  have HMID := Lib.hid hmid
  obtain ⟨cs, hcs⟩ := OwnW.blk oP
  have hne := own_blk_ne oO hcs (by decide)
  obtain ⟨R, hR⟩ : ∃ R, R = norm 4 (nlo s.lo m b) (nhi s.hi m b) := ⟨_, rfl⟩
  obtain ⟨x, hx⟩ : ∃ x, x = upd (s.p k) b := ⟨_, rfl⟩
  have hst : s.step k m b = (R.1, ⟨setp s.p k x, R.2.1, R.2.2⟩) := by rw [hR, hx]; rfl
  rw [← hR] at hfin
  have hl' := hl.set hk x
  have hneA := own_blk_ne oP hba (by decide)
  have hal := hba.lt
  have ba1 := hba.far (p := ⟨gp, k, none⟩) (fun e => hneA (e ▸ rfl)) (.int .u64 (x : Int))
  have oP' := OwnW.store oP k x
  have oO' : OwnB 5 (w.setCell ⟨gp, k, none⟩ (.int .u64 (x : Int))) base (.slice AO out.length cO) out := OwnB.far oO hne _
  have B' := (Below.refl base w).setCell (p := ⟨gp, k, none⟩) hgb (.int .u64 (x : Int))
  have hw' : (w.setCell ⟨gp, k, none⟩ (.int .u64 (x : Int))).heap.size = w.heap.size := by simp
  have hb2 : (b = 1 ∧ x = s.p k + (4096 - s.p k) / 16 ∧ nlo s.lo m b = s.lo ∧ nhi s.hi m b = m) ∨ (b = 0 ∧ x = s.p k - s.p k / 16 ∧ nlo s.lo m b = m + 1 ∧ nhi s.hi m b = s.hi) := by
    rcases (by omega : b = 1 ∨ b = 0) with rfl | rfl
    · exact .inl ⟨rfl, hx, rfl, rfl⟩
    · exact .inr ⟨rfl, hx, rfl, rfl⟩
  have hlx : (l.set k x).length = 256 := by rw [List.length_set]; exact hll
  obtain ⟨l2, hl2⟩ : ∃ l2, l2 = l.set k x := ⟨_, rfl⟩
  rw [← hl2] at oP' hl' hlx
  have HST := Lib.hid hst
  have HR := Lib.hid hR
  rw [hll] at oP'
  clear hmid hcs hne hx hR hst hs hl hl2 oO
  generalize s.p k = pk at *
  rw [hll]
  rw [hll] at hk1
  clear hll
  rcases hb2 with ⟨rfl, hxv, h1, h2⟩ | ⟨rfl, hxv, h1, h2⟩
  · rw [show ((1 : Nat) == 1) = true from rfl]
    have hv : (x : Int) = (pk : Int) + (4096 - (pk : Int)) / 16 := by omega
    rw [hv] at oP' oO' B' hw' ba1
    rw [h1, h2] at HR
    clear h1 h2 hv hxv
    go_enter Try.func26, Try.ntmps26
    go_wp2_with fail
    generalize (w.setCell ⟨gp, k, none⟩ (.int .u64 ((pk : Int) + (4096 - (pk : Int)) / 16))) = wz at *
    have bS := Blk.alloc (t := 56) (MapKept.heap_alloc wz (Obj.cells #[.int .u64 s.lo, .int .u64 m, .slice (some ⟨gp, 0, none⟩) 256 cP, .slice AO out.length cO] 56)).1 (Obj.cells #[.int .u64 0, .int .u64 0, .slice none 0 0, .slice none 0 0] 56)
    rw [hw'] at bS
    have bR : Blk ((wz.alloc (Obj.cells #[.int .u64 s.lo, .int .u64 m, .slice (some ⟨gp, 0, none⟩) 256 cP, .slice AO out.length cO] 56)).alloc (Obj.cells #[.int .u64 0, .int .u64 0, .slice none 0 0, .slice none 0 0] 56)) (w.heap.size + 1) 56 #[.int .u64 0, .int .u64 0, .slice none 0 0, .slice none 0 0] := by
      have := (MapKept.heap_alloc (wz.alloc (Obj.cells #[.int .u64 s.lo, .int .u64 m, .slice (some ⟨gp, 0, none⟩) 256 cP, .slice AO out.length cO] 56)) (Obj.cells #[.int .u64 0, .int .u64 0, .slice none 0 0, .slice none 0 0] 56)).1
      rwa [show (wz.alloc (Obj.cells #[.int .u64 s.lo, .int .u64 m, .slice (some ⟨gp, 0, none⟩) 256 cP, .slice AO out.length cO] 56)).heap.size = w.heap.size + 1 from by simp [hw']] at this
    have oP2 := World.ownsRow.alloc (World.ownsRow.alloc oP' (Obj.cells #[.int .u64 s.lo, .int .u64 m, .slice (some ⟨gp, 0, none⟩) 256 cP, .slice AO out.length cO] 56)) (Obj.cells #[.int .u64 0, .int .u64 0, .slice none 0 0, .slice none 0 0] 56)
    have oO2 := OwnB.alloc (OwnB.alloc oO' (Obj.cells #[.int .u64 s.lo, .int .u64 m, .slice (some ⟨gp, 0, none⟩) 256 cP, .slice AO out.length cO] 56)) (Obj.cells #[.int .u64 0, .int .u64 0, .slice none 0 0, .slice none 0 0] 56)
    have B2 := (B'.alloc (by omega) (Obj.cells #[.int .u64 s.lo, .int .u64 m, .slice (some ⟨gp, 0, none⟩) 256 cP, .slice AO out.length cO] 56)).alloc (by simp; omega) (Obj.cells #[.int .u64 0, .int .u64 0, .slice none 0 0, .slice none 0 0] 56)
    have ba2 := Blk.alloc (Blk.alloc ba1 (Obj.cells #[.int .u64 s.lo, .int .u64 m, .slice (some ⟨gp, 0, none⟩) 256 cP, .slice AO out.length cO] 56)) (Obj.cells #[.int .u64 0, .int .u64 0, .slice none 0 0, .slice none 0 0] 56)
    generalize (wz.alloc (Obj.cells #[.int .u64 s.lo, .int .u64 m, .slice (some ⟨gp, 0, none⟩) 256 cP, .slice AO out.length cO] 56)).alloc (Obj.cells #[.int .u64 0, .int .u64 0, .slice none 0 0, .slice none 0 0] 56) = w0 at *
    clear hw' B' oO' oP' hcell hmz hprod hfr
    go_loopg [] 4 (fun n wr => ∃ (lo hi : Nat) (done : List Nat) (A' : Option Addr) (c' : Nat), lo ≤ hi ∧ hi < 4294967296 ∧ done.length + n ≤ out.length + 4 ∧ Blk wr w.heap.size 56 #[.int .u64 lo, .int .u64 hi, .slice (some ⟨gp, 0, none⟩) 256 cP, .slice A' done.length c'] ∧ Blk wr (w.heap.size + 1) 56 #[.int .u64 0, .int .u64 0, .slice none 0 0, .slice none 0 0] ∧ OwnW 53 wr base (.slice (some ⟨gp, 0, none⟩) 256 cP) l2 ∧ OwnB 5 wr base (.slice A' done.length c') done ∧ Below base w wr ∧ Blk wr a 56 ca ∧ Hid (done ++ (norm n lo hi).1 = out ++ R.1 ∧ (norm n lo hi).2 = R.2))
    case atStart => exact ⟨s.lo, m, out, AO, cO, by omega, by omega, by omega, bS, bR, oP2, oO2, B2, ba2, by rw [HR.out], by rw [HR.out]⟩
    case round =>
      obtain ⟨lo, hi, done, A', c', hle, hhi, hdl, bS, bR, oP3, oO3, B3, ba3, HN⟩ := hrel
      have s3 := B3.size
      have c0 := bS.cell 0
      have c1 := bS.cell 1
      have c2 := bS.cell 2
      have c3 := bS.cell 3
      have f0 := bS.frozen 0
      have f1 := bS.frozen 1
      have f3 := bS.frozen 3
      simp only [List.getElem?_toArray, List.getElem?_cons_succ, List.getElem?_cons_zero] at c0 c1 c2 c3
      by_cases heq : lo / 16777216 = hi / 16777216
      · have heq' : (lo : Int) / 16777216 = (hi : Int) / 16777216 := by omega
        obtain ⟨n', hn1, hn2, hn3⟩ := norm_go HN.out.1 HN.out.2 hfin heq
        have HN1 := Lib.hid hn1
        have HN2 := Lib.hid hn2
        have HN3 := Lib.hid hn3
        clear hn1 hn2 hn3
        obtain ⟨csP, hcsP⟩ := OwnW.blk oP3
        have hneP := own_blk_ne oO3 hcsP (by decide)
        have hneS := own_blk_ne oO3 bS (by decide)
        have hneR := own_blk_ne oO3 bR (by decide)
        have hneA3 := own_blk_ne oO3 ba3 (by decide)
        have hnS := own_blk_ne oP3 bS (by decide)
        have hlt3 := bR.lt
        go_wp2_with (at_builtin; refine wpList_push elem_u8 rfl (.tmp 56) (.tmp 61) rfl base _ _ _ rfl (OwnB.alloc oO3 _) wr.heap.size (.int .u8 ((hi / 16777216 : Nat) : Int)) rfl ?c1 rfl ?c2 ?c3 ?c4 ?_)
        case c1 => simp
        case c2 => omega
        case c3 => omega
        case c4 => simp; omega
        intro v' w2 h4 h5 h6
        obtain ⟨y, hy⟩ : ∃ y, y = done ++ [hi / 16777216] := ⟨_, rfl⟩
        have rO : OwnB 5 w2 base v' y := by rw [hy]; unfold OwnB; rw [u8s_append, List.length_append]; exact h4
        have HYL := Lib.hid (show y.length = done.length + 1 by rw [hy]; simp)
        have rS := (bS.alloc (Obj.cells #[Value.int IntKind.u8 ((hi / 16777216 : Nat) : Int)] 5)).grown h5 (fun e => hneS e.symm)
        have rR := (bR.alloc (Obj.cells #[Value.int IntKind.u8 ((hi / 16777216 : Nat) : Int)] 5)).grown h5 (fun e => hneR e.symm)
        have rP := OwnW.grown (World.ownsRow.alloc oP3 (Obj.cells #[Value.int IntKind.u8 ((hi / 16777216 : Nat) : Int)] 5)) h5 (fun k hk e => hneP (e.symm.trans hk.symm))
        have rB := (B3.alloc (by omega) (Obj.cells #[Value.int IntKind.u8 ((hi / 16777216 : Nat) : Int)] 5)).grown h5 (by simp; omega) (fun k hk => (World.ownsRow.lt oO3 k hk).1)
        have rA := (ba3.alloc (Obj.cells #[Value.int IntKind.u8 ((hi / 16777216 : Nat) : Int)] 5)).grown h5 (fun e => hneA3 e.symm)
        rw [← hy] at HN2
        clear h4 h5 h6 hy c0 c1 c2 c3 f0 f1 f3 bS bR oP3 oO3 B3 hcsP hneP hneS hneR
        have hnO := own_blk_ne rO rS (by decide)
        obtain ⟨A2, c2, rfl⟩ := own_slice rO
        have d0 := rS.cell 0
        have d1 := rS.cell 1
        have d3 := rS.cell 3
        have f0 := rS.frozen 0
        have f1 := rS.frozen 1
        have f3 := rS.frozen 3
        simp only [List.getElem?_toArray, List.getElem?_cons_succ, List.getElem?_cons_zero] at d0 d1 d3
        go_wp2_with fail
        have e0 : (lo : Int) * 256 % 4294967296 = ((lo * 256 % 4294967296 : Nat) : Int) := by omega
        have e1 : ((hi : Int) * 256 + 255) % 4294967296 = ((hi * 256 % 4294967296 + 255 : Nat) : Int) := by omega
        rw [e0, e1]
        have hn1 := HN1.out
        have hyl := HYL.out
        go_roundg n'
        case measure => omega
        case rel =>
          exact ⟨lo * 256 % 4294967296, hi * 256 % 4294967296 + 255, y, A2, c2, by omega, by omega, by omega,
            (((rS.put 3 _).put 0 _).put 1 _), ((rR.far (by simp) _).far (by simp) _).far (by simp) _,
            ((rP.far hnS _).far hnS _).far hnS _, ((OwnB.far rO hnO _).far hnO _).far hnO _,
            ((rB.setCell (p := ⟨w.heap.size, 3, none⟩) hbs _).setCell (p := ⟨w.heap.size, 0, none⟩) hbs _).setCell (p := ⟨w.heap.size, 1, none⟩) hbs _, ((rA.far (by show a ≠ w.heap.size; omega) _).far (by show a ≠ w.heap.size; omega) _).far (by show a ≠ w.heap.size; omega) _, HN2.out, HN3.out⟩
      · have heq' : ((lo : Int) / 16777216 == (hi : Int) / 16777216) = false := by rw [beq_eq_false_iff_ne]; omega
        have g0 := bR.cell 0
        have g1 := bR.cell 1
        have g2 := bR.cell 2
        have g3 := bR.cell 3
        have r0 := bR.frozen 0
        have r1 := bR.frozen 1
        have r2 := bR.frozen 2
        have r3 := bR.frozen 3
        simp only [List.getElem?_toArray, List.getElem?_cons_succ, List.getElem?_cons_zero] at g0 g1 g2 g3
        go_wp2_with fail
        have hnO := own_blk_ne oO3 bR (by decide)
        have hnP := own_blk_ne oP3 bR (by decide)
        have rR := (((bR.put 0 (.int .u64 (lo : Int))).put 1 (.int .u64 (hi : Int))).put 2 (.slice (some ⟨gp, 0, none⟩) 256 cP)).put 3 (.slice A' done.length c')
        have rP := (((OwnW.far oP3 (p := ⟨w.heap.size + 1, 0, none⟩) hnP (.int .u64 (lo : Int))).far (p := ⟨w.heap.size + 1, 1, none⟩) hnP (.int .u64 (hi : Int))).far (p := ⟨w.heap.size + 1, 2, none⟩) hnP (.slice (some ⟨gp, 0, none⟩) 256 cP)).far (p := ⟨w.heap.size + 1, 3, none⟩) hnP (.slice A' done.length c')
        have rO := (((OwnB.far oO3 (p := ⟨w.heap.size + 1, 0, none⟩) hnO (.int .u64 (lo : Int))).far (p := ⟨w.heap.size + 1, 1, none⟩) hnO (.int .u64 (hi : Int))).far (p := ⟨w.heap.size + 1, 2, none⟩) hnO (.slice (some ⟨gp, 0, none⟩) 256 cP)).far (p := ⟨w.heap.size + 1, 3, none⟩) hnO (.slice A' done.length c')
        have hb1 : base ≤ w.heap.size + 1 := by omega
        have hna : a ≠ w.heap.size + 1 := by omega
        have rA := (((ba3.far (p := ⟨w.heap.size + 1, 0, none⟩) hna (.int .u64 (lo : Int))).far (p := ⟨w.heap.size + 1, 1, none⟩) hna (.int .u64 (hi : Int))).far (p := ⟨w.heap.size + 1, 2, none⟩) hna (.slice (some ⟨gp, 0, none⟩) 256 cP)).far (p := ⟨w.heap.size + 1, 3, none⟩) hna (.slice A' done.length c')
        have rB := (((B3.setCell (p := ⟨w.heap.size + 1, 0, none⟩) hb1 (.int .u64 (lo : Int))).setCell (p := ⟨w.heap.size + 1, 1, none⟩) hb1 (.int .u64 (hi : Int))).setCell (p := ⟨w.heap.size + 1, 2, none⟩) hb1 (.slice (some ⟨gp, 0, none⟩) 256 cP)).setCell (p := ⟨w.heap.size + 1, 3, none⟩) hb1 (.slice A' done.length c')
        generalize (((wr.setCell ⟨w.heap.size + 1, 0, none⟩ (.int .u64 (lo : Int))).setCell ⟨w.heap.size + 1, 1, none⟩ (.int .u64 (hi : Int))).setCell ⟨w.heap.size + 1, 2, none⟩ (.slice (some ⟨gp, 0, none⟩) 256 cP)).setCell ⟨w.heap.size + 1, 3, none⟩ (.slice A' done.length c') = w9 at *
        have d0 : w9.cell? ⟨w.heap.size + 1, 0, none⟩ = some (.int .u64 (lo : Int)) := rR.cell 0
        have d1 : w9.cell? ⟨w.heap.size + 1, 1, none⟩ = some (.int .u64 (hi : Int)) := rR.cell 1
        have d2 : w9.cell? ⟨w.heap.size + 1, 2, none⟩ = some (.slice (some ⟨gp, 0, none⟩) 256 cP) := rR.cell 2
        have d3 : w9.cell? ⟨w.heap.size + 1, 3, none⟩ = some (.slice A' done.length c') := rR.cell 3
        have h3 := HN.out
        rw [norm_stop heq] at h3
        refine bodyPost_ret (v := .agg #[.int .u64 lo, .int .u64 hi, .slice (some ⟨gp, 0, none⟩) 256 cP, .slice A' done.length c']) (by simp [results, Try.results26, go_sem, d0, d1, d2, d3]) rfl ?_
        rw [HST.out]
        have e2 : R.2 = (lo, hi) := h3.2.symm
        have e1 : out ++ R.1 = done := by rw [← h3.1]; simp
        refine ⟨l2, .slice A' done.length c', by rw [e2], hl', rP, ?_, rB, rA⟩
        show OwnB 5 w9 base _ (out ++ R.1)
        rw [e1]
        exact rO
  · rw [show ((0 : Nat) == 1) = false from rfl]
    have hv : (x : Int) = (pk : Int) - (pk : Int) / 16 := by omega
    rw [hv] at oP' oO' B' hw' ba1
    rw [h1, h2] at HR
    clear h1 h2 hv hxv
    go_enter Try.func26, Try.ntmps26
    go_wp2_with fail
    generalize (w.setCell ⟨gp, k, none⟩ (.int .u64 ((pk : Int) - (pk : Int) / 16))) = wz at *
    have bS := Blk.alloc (t := 56) (MapKept.heap_alloc wz (Obj.cells #[.int .u64 ((m : Int) + 1), .int .u64 s.hi, .slice (some ⟨gp, 0, none⟩) 256 cP, .slice AO out.length cO] 56)).1 (Obj.cells #[.int .u64 0, .int .u64 0, .slice none 0 0, .slice none 0 0] 56)
    rw [hw'] at bS
    have bR : Blk ((wz.alloc (Obj.cells #[.int .u64 ((m : Int) + 1), .int .u64 s.hi, .slice (some ⟨gp, 0, none⟩) 256 cP, .slice AO out.length cO] 56)).alloc (Obj.cells #[.int .u64 0, .int .u64 0, .slice none 0 0, .slice none 0 0] 56)) (w.heap.size + 1) 56 #[.int .u64 0, .int .u64 0, .slice none 0 0, .slice none 0 0] := by
      have := (MapKept.heap_alloc (wz.alloc (Obj.cells #[.int .u64 ((m : Int) + 1), .int .u64 s.hi, .slice (some ⟨gp, 0, none⟩) 256 cP, .slice AO out.length cO] 56)) (Obj.cells #[.int .u64 0, .int .u64 0, .slice none 0 0, .slice none 0 0] 56)).1
      rwa [show (wz.alloc (Obj.cells #[.int .u64 ((m : Int) + 1), .int .u64 s.hi, .slice (some ⟨gp, 0, none⟩) 256 cP, .slice AO out.length cO] 56)).heap.size = w.heap.size + 1 from by simp [hw']] at this
    have oP2 := World.ownsRow.alloc (World.ownsRow.alloc oP' (Obj.cells #[.int .u64 ((m : Int) + 1), .int .u64 s.hi, .slice (some ⟨gp, 0, none⟩) 256 cP, .slice AO out.length cO] 56)) (Obj.cells #[.int .u64 0, .int .u64 0, .slice none 0 0, .slice none 0 0] 56)
    have oO2 := OwnB.alloc (OwnB.alloc oO' (Obj.cells #[.int .u64 ((m : Int) + 1), .int .u64 s.hi, .slice (some ⟨gp, 0, none⟩) 256 cP, .slice AO out.length cO] 56)) (Obj.cells #[.int .u64 0, .int .u64 0, .slice none 0 0, .slice none 0 0] 56)
    have B2 := (B'.alloc (by omega) (Obj.cells #[.int .u64 ((m : Int) + 1), .int .u64 s.hi, .slice (some ⟨gp, 0, none⟩) 256 cP, .slice AO out.length cO] 56)).alloc (by simp; omega) (Obj.cells #[.int .u64 0, .int .u64 0, .slice none 0 0, .slice none 0 0] 56)
    have ba2 := Blk.alloc (Blk.alloc ba1 (Obj.cells #[.int .u64 ((m : Int) + 1), .int .u64 s.hi, .slice (some ⟨gp, 0, none⟩) 256 cP, .slice AO out.length cO] 56)) (Obj.cells #[.int .u64 0, .int .u64 0, .slice none 0 0, .slice none 0 0] 56)
    generalize (wz.alloc (Obj.cells #[.int .u64 ((m : Int) + 1), .int .u64 s.hi, .slice (some ⟨gp, 0, none⟩) 256 cP, .slice AO out.length cO] 56)).alloc (Obj.cells #[.int .u64 0, .int .u64 0, .slice none 0 0, .slice none 0 0] 56) = w0 at *
    clear hw' B' oO' oP' hcell hmz hprod hfr
    go_loopg [] 4 (fun n wr => ∃ (lo hi : Nat) (done : List Nat) (A' : Option Addr) (c' : Nat), lo ≤ hi ∧ hi < 4294967296 ∧ done.length + n ≤ out.length + 4 ∧ Blk wr w.heap.size 56 #[.int .u64 lo, .int .u64 hi, .slice (some ⟨gp, 0, none⟩) 256 cP, .slice A' done.length c'] ∧ Blk wr (w.heap.size + 1) 56 #[.int .u64 0, .int .u64 0, .slice none 0 0, .slice none 0 0] ∧ OwnW 53 wr base (.slice (some ⟨gp, 0, none⟩) 256 cP) l2 ∧ OwnB 5 wr base (.slice A' done.length c') done ∧ Below base w wr ∧ Blk wr a 56 ca ∧ Hid (done ++ (norm n lo hi).1 = out ++ R.1 ∧ (norm n lo hi).2 = R.2))
    case atStart => exact ⟨m + 1, s.hi, out, AO, cO, by omega, by omega, by omega, bS, bR, oP2, oO2, B2, ba2, by rw [HR.out], by rw [HR.out]⟩
    case round =>
      obtain ⟨lo, hi, done, A', c', hle, hhi, hdl, bS, bR, oP3, oO3, B3, ba3, HN⟩ := hrel
      have s3 := B3.size
      have c0 := bS.cell 0
      have c1 := bS.cell 1
      have c2 := bS.cell 2
      have c3 := bS.cell 3
      have f0 := bS.frozen 0
      have f1 := bS.frozen 1
      have f3 := bS.frozen 3
      simp only [List.getElem?_toArray, List.getElem?_cons_succ, List.getElem?_cons_zero] at c0 c1 c2 c3
      by_cases heq : lo / 16777216 = hi / 16777216
      · have heq' : (lo : Int) / 16777216 = (hi : Int) / 16777216 := by omega
        obtain ⟨n', hn1, hn2, hn3⟩ := norm_go HN.out.1 HN.out.2 hfin heq
        have HN1 := Lib.hid hn1
        have HN2 := Lib.hid hn2
        have HN3 := Lib.hid hn3
        clear hn1 hn2 hn3
        obtain ⟨csP, hcsP⟩ := OwnW.blk oP3
        have hneP := own_blk_ne oO3 hcsP (by decide)
        have hneS := own_blk_ne oO3 bS (by decide)
        have hneR := own_blk_ne oO3 bR (by decide)
        have hneA3 := own_blk_ne oO3 ba3 (by decide)
        have hnS := own_blk_ne oP3 bS (by decide)
        have hlt3 := bR.lt
        go_wp2_with (at_builtin; refine wpList_push elem_u8 rfl (.tmp 56) (.tmp 61) rfl base _ _ _ rfl (OwnB.alloc oO3 _) wr.heap.size (.int .u8 ((hi / 16777216 : Nat) : Int)) rfl ?c1 rfl ?c2 ?c3 ?c4 ?_)
        case c1 => simp
        case c2 => omega
        case c3 => omega
        case c4 => simp; omega
        intro v' w2 h4 h5 h6
        obtain ⟨y, hy⟩ : ∃ y, y = done ++ [hi / 16777216] := ⟨_, rfl⟩
        have rO : OwnB 5 w2 base v' y := by rw [hy]; unfold OwnB; rw [u8s_append, List.length_append]; exact h4
        have HYL := Lib.hid (show y.length = done.length + 1 by rw [hy]; simp)
        have rS := (bS.alloc (Obj.cells #[Value.int IntKind.u8 ((hi / 16777216 : Nat) : Int)] 5)).grown h5 (fun e => hneS e.symm)
        have rR := (bR.alloc (Obj.cells #[Value.int IntKind.u8 ((hi / 16777216 : Nat) : Int)] 5)).grown h5 (fun e => hneR e.symm)
        have rP := OwnW.grown (World.ownsRow.alloc oP3 (Obj.cells #[Value.int IntKind.u8 ((hi / 16777216 : Nat) : Int)] 5)) h5 (fun k hk e => hneP (e.symm.trans hk.symm))
        have rB := (B3.alloc (by omega) (Obj.cells #[Value.int IntKind.u8 ((hi / 16777216 : Nat) : Int)] 5)).grown h5 (by simp; omega) (fun k hk => (World.ownsRow.lt oO3 k hk).1)
        have rA := (ba3.alloc (Obj.cells #[Value.int IntKind.u8 ((hi / 16777216 : Nat) : Int)] 5)).grown h5 (fun e => hneA3 e.symm)
        rw [← hy] at HN2
        clear h4 h5 h6 hy c0 c1 c2 c3 f0 f1 f3 bS bR oP3 oO3 B3 hcsP hneP hneS hneR
        have hnO := own_blk_ne rO rS (by decide)
        obtain ⟨A2, c2, rfl⟩ := own_slice rO
        have d0 := rS.cell 0
        have d1 := rS.cell 1
        have d3 := rS.cell 3
        have f0 := rS.frozen 0
        have f1 := rS.frozen 1
        have f3 := rS.frozen 3
        simp only [List.getElem?_toArray, List.getElem?_cons_succ, List.getElem?_cons_zero] at d0 d1 d3
        go_wp2_with fail
        have e0 : (lo : Int) * 256 % 4294967296 = ((lo * 256 % 4294967296 : Nat) : Int) := by omega
        have e1 : ((hi : Int) * 256 + 255) % 4294967296 = ((hi * 256 % 4294967296 + 255 : Nat) : Int) := by omega
        rw [e0, e1]
        have hn1 := HN1.out
        have hyl := HYL.out
        go_roundg n'
        case measure => omega
        case rel =>
          exact ⟨lo * 256 % 4294967296, hi * 256 % 4294967296 + 255, y, A2, c2, by omega, by omega, by omega,
            (((rS.put 3 _).put 0 _).put 1 _), ((rR.far (by simp) _).far (by simp) _).far (by simp) _,
            ((rP.far hnS _).far hnS _).far hnS _, ((OwnB.far rO hnO _).far hnO _).far hnO _,
            ((rB.setCell (p := ⟨w.heap.size, 3, none⟩) hbs _).setCell (p := ⟨w.heap.size, 0, none⟩) hbs _).setCell (p := ⟨w.heap.size, 1, none⟩) hbs _, ((rA.far (by show a ≠ w.heap.size; omega) _).far (by show a ≠ w.heap.size; omega) _).far (by show a ≠ w.heap.size; omega) _, HN2.out, HN3.out⟩
      · have heq' : ((lo : Int) / 16777216 == (hi : Int) / 16777216) = false := by rw [beq_eq_false_iff_ne]; omega
        have g0 := bR.cell 0
        have g1 := bR.cell 1
        have g2 := bR.cell 2
        have g3 := bR.cell 3
        have r0 := bR.frozen 0
        have r1 := bR.frozen 1
        have r2 := bR.frozen 2
        have r3 := bR.frozen 3
        simp only [List.getElem?_toArray, List.getElem?_cons_succ, List.getElem?_cons_zero] at g0 g1 g2 g3
        go_wp2_with fail
        have hnO := own_blk_ne oO3 bR (by decide)
        have hnP := own_blk_ne oP3 bR (by decide)
        have rR := (((bR.put 0 (.int .u64 (lo : Int))).put 1 (.int .u64 (hi : Int))).put 2 (.slice (some ⟨gp, 0, none⟩) 256 cP)).put 3 (.slice A' done.length c')
        have rP := (((OwnW.far oP3 (p := ⟨w.heap.size + 1, 0, none⟩) hnP (.int .u64 (lo : Int))).far (p := ⟨w.heap.size + 1, 1, none⟩) hnP (.int .u64 (hi : Int))).far (p := ⟨w.heap.size + 1, 2, none⟩) hnP (.slice (some ⟨gp, 0, none⟩) 256 cP)).far (p := ⟨w.heap.size + 1, 3, none⟩) hnP (.slice A' done.length c')
        have rO := (((OwnB.far oO3 (p := ⟨w.heap.size + 1, 0, none⟩) hnO (.int .u64 (lo : Int))).far (p := ⟨w.heap.size + 1, 1, none⟩) hnO (.int .u64 (hi : Int))).far (p := ⟨w.heap.size + 1, 2, none⟩) hnO (.slice (some ⟨gp, 0, none⟩) 256 cP)).far (p := ⟨w.heap.size + 1, 3, none⟩) hnO (.slice A' done.length c')
        have hb1 : base ≤ w.heap.size + 1 := by omega
        have hna : a ≠ w.heap.size + 1 := by omega
        have rA := (((ba3.far (p := ⟨w.heap.size + 1, 0, none⟩) hna (.int .u64 (lo : Int))).far (p := ⟨w.heap.size + 1, 1, none⟩) hna (.int .u64 (hi : Int))).far (p := ⟨w.heap.size + 1, 2, none⟩) hna (.slice (some ⟨gp, 0, none⟩) 256 cP)).far (p := ⟨w.heap.size + 1, 3, none⟩) hna (.slice A' done.length c')
        have rB := (((B3.setCell (p := ⟨w.heap.size + 1, 0, none⟩) hb1 (.int .u64 (lo : Int))).setCell (p := ⟨w.heap.size + 1, 1, none⟩) hb1 (.int .u64 (hi : Int))).setCell (p := ⟨w.heap.size + 1, 2, none⟩) hb1 (.slice (some ⟨gp, 0, none⟩) 256 cP)).setCell (p := ⟨w.heap.size + 1, 3, none⟩) hb1 (.slice A' done.length c')
        generalize (((wr.setCell ⟨w.heap.size + 1, 0, none⟩ (.int .u64 (lo : Int))).setCell ⟨w.heap.size + 1, 1, none⟩ (.int .u64 (hi : Int))).setCell ⟨w.heap.size + 1, 2, none⟩ (.slice (some ⟨gp, 0, none⟩) 256 cP)).setCell ⟨w.heap.size + 1, 3, none⟩ (.slice A' done.length c') = w9 at *
        have d0 : w9.cell? ⟨w.heap.size + 1, 0, none⟩ = some (.int .u64 (lo : Int)) := rR.cell 0
        have d1 : w9.cell? ⟨w.heap.size + 1, 1, none⟩ = some (.int .u64 (hi : Int)) := rR.cell 1
        have d2 : w9.cell? ⟨w.heap.size + 1, 2, none⟩ = some (.slice (some ⟨gp, 0, none⟩) 256 cP) := rR.cell 2
        have d3 : w9.cell? ⟨w.heap.size + 1, 3, none⟩ = some (.slice A' done.length c') := rR.cell 3
        have h3 := HN.out
        rw [norm_stop heq] at h3
        refine bodyPost_ret (v := .agg #[.int .u64 lo, .int .u64 hi, .slice (some ⟨gp, 0, none⟩) 256 cP, .slice A' done.length c']) (by simp [results, Try.results26, go_sem, d0, d1, d2, d3]) rfl ?_
        rw [HST.out]
        have e2 : R.2 = (lo, hi) := h3.2.symm
        have e1 : out ++ R.1 = done := by rw [← h3.1]; simp
        refine ⟨l2, .slice A' done.length c', by rw [e2], hl', rP, ?_, rB, rA⟩
        show OwnB 5 w9 base _ (out ++ R.1)
        rw [e1]
        exact rO
end Go.Proofs.Ytcoaopaiipkcpaa
