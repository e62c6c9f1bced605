/- EffectsErrors: what its walk wants of the memory (a row under a store of a tick). And the walk. -/
import Derived.Test.YtlmmhgbbfmocaaaModelW
import Derived.Deep.CutBlock
namespace Go.Proofs.Ytlmmhgbbfmocaaa
open Go.RowKit

theorem all_set (l : List Eff) (k : Nat) (x : Eff) (hk : k < l.length) : ∀ i u, (effE.all (l.set k x))[i]? = some u → (i / 4 = k ∧ (effE.cells x)[i % 4]? = some u) ∨ (i / 4 ≠ k ∧ (effE.all l)[i]? = some u) := by
  intro i u hu
  have hlen : (effE.all (l.set k x)).length = l.length * 4 := by have := effE.all_len (l.set k x); rw [List.length_set] at this; exact this
  have hi : i < l.length * 4 := by
    rw [← hlen]
    exact (List.getElem?_eq_some_iff.1 hu).1
  have h1 : i / 4 < l.length := by omega
  have h2 : i = i / 4 * 4 + i % 4 := by omega
  have h1' : i / 4 < (l.set k x).length := by rw [List.length_set]; exact h1
  have hm : i % 4 < 4 := by omega
  have key : ∀ (l' : List Eff) (h : i / 4 < l'.length), (effE.all l')[i]? = (effE.cells l'[i / 4])[i % 4]? := by
    intro l' h
    have hl4 : (effE.cells l'[i / 4]).length = 4 := effE.len _
    have hs : (effE.cells l'[i / 4])[i % 4]? = some ((effE.cells l'[i / 4])[i % 4]'(by omega)) := List.getElem?_eq_getElem (by omega)
    have := effE.all_get l' (i / 4) h (i % 4) _ hs
    rw [hs, ← this]
    exact congrArg _ h2
  rw [key _ h1'] at hu
  by_cases hc : i / 4 = k
  · left
    refine ⟨hc, ?_⟩
    subst hc
    rw [List.getElem_set_self] at hu
    exact hu
  · right
    refine ⟨hc, ?_⟩
    rw [List.getElem_set_ne (fun e => hc e.symm)] at hu
    rw [key _ h1]
    exact hu
theorem Row.put_tick {w : World} {g o n c : Nat} {l : List Eff} (h : Row effE w (.slice (some ⟨g, o, none⟩) n c) l) {k : Nat} (hk : k < l.length) (z : Int) :
    Row effE (w.setCell ⟨g, o + k * 4, none⟩ (.int .i64 z)) (.slice (some ⟨g, o, none⟩) n c) (l.set k { l[k] with tick := z }) := by
  obtain ⟨A', c', he, hc, hr⟩ := h
  injection he with e1 e2 e3
  subst e2 e3
  rcases hr with ⟨h0, _⟩ | ⟨g', o', cs, hA, hb, hcell⟩
  · rw [h0] at e1; cases e1
  · rw [hA] at e1
    injection e1 with e1
    injection e1 with e1 e2 _
    subst e1 e2
    refine ⟨_, _, by rw [List.length_set], by rw [List.length_set]; exact hc, .inr ⟨g, o, _, rfl, hb.put _ _, fun j u hu => ?_⟩⟩
    have hsz : o + k * 4 < cs.size := by
      have := hcell (k * 4) _ (effE.all_get l k hk 0 _ rfl)
      exact (Array.getElem?_eq_some_iff.1 this).1
    rw [Array.getElem?_setIfInBounds]
    rcases all_set l k _ hk j u hu with ⟨h1, h2⟩ | ⟨h1, h2⟩
    · by_cases h0 : j % 4 = 0
      · have hj : j = k * 4 := by omega
        rw [if_pos (by omega), if_pos hsz]
        rw [h0] at h2
        exact h2
      · rw [if_neg (by omega)]
        refine hcell j u ?_
        have hj : j = k * 4 + j % 4 := by omega
        rw [hj]
        refine effE.all_get l k hk (j % 4) u ?_
        have h3 : j % 4 = 1 ∨ j % 4 = 2 ∨ j % 4 = 3 := by omega
        rcases h3 with e | e | e <;> rw [e] at h2 ⊢ <;> exact h2
    · rw [if_neg (by omega)]
      exact hcell j u h2

theorem OkAll.set_tick {l : List Eff} (h : OkAll l) {k : Nat} {hk : k < l.length} {z : Int} (hz : i64 z) : OkAll (l.set k { l[k] with tick := z }) := fun x hx => by
  rcases List.mem_or_eq_of_mem_set hx with h1 | h1
  · exact h x h1
  · have := h _ (List.getElem_mem hk)
    rw [h1]
    exact ⟨hz, this.2⟩

set_option maxHeartbeats 1000000 in
set_option maxRecDepth 100000 in
theorem errors_calls (boundary tick many other at_ : Int) (w : World) (i1 : i64 boundary) (i2 : i64 tick) (i3 : i64 many) (i4 : i64 other) (i5 : i64 at_) :
    Calls Try.prog 4 #[.int .i64 boundary, .int .i64 tick, .int .i64 many, .int .i64 other, .int .i64 at_] w fun e w' => e = .returned (.bool true) ∧ Below w.heap.size w w' := by
  obtain ⟨bd, hbd, hbd2⟩ := around_nat boundary 12 (by omega)
  obtain ⟨p, hp, hp2⟩ := around_nat tick 14 (by omega)
  obtain ⟨q, hq, hq2⟩ := around_nat tick 5 (by omega)
  obtain ⟨M, hM, hM2⟩ := around_nat many 46 (by omega)
  obtain ⟨ot, hot, hot2⟩ := around_nat other 3 (by omega)
  have HBD := Lib.hid hbd
  have HP := Lib.hid hp
  have HQ := Lib.hid hq
  have HM := Lib.hid hM
  have HOT := Lib.hid hot
  have I1 := Lib.hid i1
  have I2 := Lib.hid i2
  have I3 := Lib.hid i3
  have I4 := Lib.hid i4
  have I5 := Lib.hid i5
  clear hbd hp hq hM hot i1 i3 i4 i5
  obtain ⟨X, hX⟩ : ∃ X, X = listL 9 5 := ⟨_, rfl⟩
  have h9 : i64 (9 : Int) := ⟨by omega, by omega⟩
  have h5 : i64 (5 : Int) := ⟨by omega, by omega⟩
  have hXl : X.length ≤ 6 := by rw [hX]; exact listL_len _ _
  have kX := Lib.hid (by rw [hX]; exact listL_ok _ _ h9 : OkAll X)
  have wX := Lib.hid (wrong_ok (by omega) (by omega) (by omega) (by omega) (by rw [hX]; exact fun x hx => (listL_each _ _ h9 x hx).1) : wrong 0 9 X = 0)
  have HX := Lib.hid hX
  clear hX
  go_enter Try.func4, Try.ntmps4
  go_wp2_with fail
  refine (new_calls w).mono ?_
  rintro e w0 ⟨rfl, K0, b0⟩
  obtain ⟨m, hm⟩ : ∃ m, m = w.heap.size := ⟨_, rfl⟩
  rw [← hm] at K0 ⊢
  have hmw : w.heap.size ≤ m := by omega
  clear hm
  go_wp2_with fail
  refine (list_calls 9 5 w0 h9 h5).mono ?_
  rintro e w1 ⟨vx, rfl, ox, b1⟩
  rw [← HX.out] at ox
  have K1 := K0.below' b1
  have B1 := b0.trans (b1.mono b0.size)
  clear K0 b0 b1
  go_wp2_with fail
  refine (show_one (m + 1) m [] 9 _ [] X X [] w1 K1 (.inl ⟨rfl, rfl⟩) (by simp) OkAll.nil ox.row kX.out wX.out h9 (diff_nil X).symm rfl).mono ?_
  rintro e w2 ⟨A1, q1, A2, q2, vc, X1, rfl, K2, -, -, -, -, -, u2⟩
  have U2 : Upd [m + 1, m] w1 w2 := u2.mono (fun i hi => .inl (by simp at hi; simp [hi]))
  clear K1 ox u2
  go_wp2_with fail
  refine (around_named boundary 12 bd w2 I1.out (by omega) (by omega) HBD.out).mono ?_
  rintro e wz ⟨rfl, rfl⟩
  go_wp2_with fail
  refine (confirm_seq (m + 1) m _ 0 bd w2 K2 (WOk.one (by show X.length ≤ 40; omega) kX.out h9) ⟨by omega, by omega⟩).mono ?_
  rintro e w3 ⟨A3, c3, q3, W3, bd3, rfl, K3, -, u3, s3⟩
  have hb3 : bd3 = (bd : Int) := by
    rw [s3.sx.2]
    by_cases hc : (bd : Int) ≤ 0
    · rw [if_pos hc]; omega
    · rw [if_neg hc]
  subst hb3
  have ok3 := (s3.wok (WOk.one (by show X.length ≤ 40; omega) kX.out h9)).1
  have l3 := (s3.wok (WOk.one (by show X.length ≤ 40; omega) kX.out h9)).2
  simp only [List.length_singleton] at l3
  have U3 := U2.trans' u3 (fun i hi => .inl hi)
  clear K2 U2 u3 s3
  go_wp2_with fail
  refine (around_named boundary 12 bd w3 I1.out (by omega) (by omega) HBD.out).mono ?_
  rintro e wz ⟨rfl, rfl⟩
  have hmax : max (0 : Int) bd = bd := by omega
  go_wp2_with fail
  refine (around_named tick 14 p _ I2.out (by omega) (by omega) HP.out).mono ?_
  rintro e wz ⟨rfl, rfl⟩
  go_wp2_with fail
  refine (around_named tick 5 q _ I2.out (by omega) (by omega) HQ.out).mono ?_
  rintro e wz ⟨rfl, rfl⟩
  have bkm := Blk.new w3 27 #[.slice none 0 0, .slice none 0 0, .int .i64 (bd : Int)]
  have ba := (Below.refl w3.heap.size w3).alloc (Nat.le_refl _) (.cells #[.slice none 0 0, .slice none 0 0, .int .i64 (bd : Int)] 27)
  have Ka := K3.below' ba
  have hg3 := K3.blk.lt
  have U4 := U3.new ba
  go_wp2_with fail
  have bkt := Blk.new (w3.alloc (.cells #[.slice none 0 0, .slice none 0 0, .int .i64 (bd : Int)] 27)) 3 #[.int .i64 tick, .int .i64 ((p : Int) - 1), .int .i64 ((q : Int) + 5997)]
  have bb := (Below.refl _ (w3.alloc (.cells #[.slice none 0 0, .slice none 0 0, .int .i64 (bd : Int)] 27))).alloc (Nat.le_refl _) (.cells #[.int .i64 tick, .int .i64 ((p : Int) - 1), .int .i64 ((q : Int) + 5997)] 3)
  have Kb := Ka.below' bb
  have bkm2 := bkm.below' bb
  have U5 := U4.new bb
  obtain ⟨mb, hmb⟩ : ∃ b, b = w3.heap.size := ⟨_, rfl⟩
  have hsz : (w3.alloc (.cells #[.slice none 0 0, .slice none 0 0, .int .i64 (bd : Int)] 27)).heap.size = mb + 1 := by simp [hmb]
  rw [hsz] at bkt
  rw [← hmb] at bkm2 hg3 ⊢
  have B5 : Below w.heap.size w ((w3.alloc (.cells #[.slice none 0 0, .slice none 0 0, .int .i64 (bd : Int)] 27)).alloc (.cells #[.int .i64 tick, .int .i64 ((p : Int) - 1), .int .i64 ((q : Int) + 5997)] 3)) := B1.trans (U5.below B1.size (fun i hi => by simp at hi; omega))
  generalize ((w3.alloc (.cells #[.slice none 0 0, .slice none 0 0, .int .i64 (bd : Int)] 27)).alloc (.cells #[.int .i64 tick, .int .i64 ((p : Int) - 1), .int .i64 ((q : Int) + 5997)] 3)) = wB at *
  have HS0 := Lib.hid (⟨Kb, bkm2, RefAt.nil wB, Upd.refl _ _, hg3⟩ : MAt wB wB m mb W3 bd bd (.slice none 0 0) (.slice none 0 0) [])
  have HK3 := Lib.hid ok3
  clear bkm ba Ka U4 bb Kb bkm2 U5 U3 K3 hsz B1 ok3 hmb
  go_loopg [14] 3 (fun n iv wr => ∃ (i : Nat) (W : List (Int × Ent)), i + n = 3 ∧ iv = .int .i64 i ∧ MAt wB wr m mb W bd bd (.slice none 0 0) (.slice none 0 0) [] ∧ Hid (WOk W) ∧ W.length ≤ i + 1 ∧ Blk wr (mb + 1) 3 #[.int .i64 tick, .int .i64 ((p : Int) - 1), .int .i64 ((q : Int) + 5997)])
  case atStart => exact ⟨0, W3, by omega, rfl, HS0.out, HK3, by omega, bkt⟩
  case round =>
    obtain ⟨i, W, hi, rfl, S, HW, hWl, bt⟩ := hrel
    have HI := Lib.hid hi
    have hi3 : i ≤ 3 := by omega
    clear hi
    by_cases hlt : i < 3
    · obtain ⟨tv, ct, htv⟩ : ∃ tv, wr.cell? ⟨mb + 1, i, none⟩ = some (.int .i64 tv) ∧ i64 tv := by
        have h3 : i = 0 ∨ i = 1 ∨ i = 2 := by omega
        rcases h3 with rfl | rfl | rfl
        · exact ⟨tick, bt.cell 0, i2⟩
        · exact ⟨(p : Int) - 1, bt.cell 1, by unfold i64; omega⟩
        · exact ⟨(q : Int) + 5997, bt.cell 2, by unfold i64; omega⟩
      have hi0 : (0 : Int) ≤ i := by omega
      have hi1 : (i : Int) < 3 := by omega
      have btl := bt.lt
      have HBT := Lib.hid bt
      have HS := Lib.hid S
      clear bt S
      go_upto_block 2 with fail
      obtain ⟨w5, rfl⟩ : ∃ y : World, y = wr := ⟨_, rfl⟩
      go_cut [15] (fun v wx => ∃ l : List Eff, Own effE wx w5.heap.size v l ∧ l.length = M ∧ Hid (OkAll l) ∧ Below w5.heap.size w5 wx)
      case first =>
        go_wp2_with fail
        go_loopg [15, 16] M (fun n v kv wr => ∃ (k : Nat) (l : List Eff), k + n = M ∧ kv = .int .i64 k ∧ Own effE wr w5.heap.size v l ∧ l.length = k ∧ Hid (OkAll l) ∧ Below w5.heap.size w5 wr)
        case atStart => exact ⟨0, [], by omega, rfl, Own.nil _ _, by simp, OkAll.nil, Below.refl _ _⟩
        case round =>
          obtain ⟨k, l, hk, rfl, o, hll, HL, B⟩ := hrel
          have HK := Lib.hid hk
          have HLL := Lib.hid hll
          have hll' : l.length ≤ k := by omega
          have hkM : k ≤ M := by omega
          clear hk hll
          have sB := B.size
          obtain ⟨A5, c5, rfl, hc5⟩ := o.slice
          go_wp2_with fail
          refine (around_named many 46 M wr I3.out (by omega) (by omega) HM.out).mono ?_
          rintro e wz ⟨rfl, rfl⟩
          by_cases hlk : k < M
          · have hk1 : (k : Int) < M := by omega
            have ct2 := (B.cell (p := ⟨mb + 1, i, none⟩) btl).trans ct
            have o2 := o.alloc (.cells #[.int .i64 tv, .int .i64 k, .int .i64 0, .int .i64 0] 51)
            go_wp2_with (at_builtin; refine wpList_push elem_eff rfl (.tmp 54) (.tmp 61) rfl w5.heap.size (.slice A5 l.length c5) l rfl o2 wr.heap.size ⟨tv, k, 0, 0⟩ rfl ?q1 ?q2 ?q3 ?q4 ?_)
            case q1 => exact Blk.new _ _ _
            case q2 => omega
            case q3 => omega
            case q4 => first | omega | (simp; omega)
            intro v7 w7 o7 g7 l7
            have B7 := (B.alloc sB (.cells #[.int .i64 tv, .int .i64 k, .int .i64 0, .int .i64 0] 51)).grown g7 (by simp; omega) (fun j hj => o.ge j hj)
            clear o o2 g7 l7 ct2
            go_wp2_with fail
            have hk := HK.out
            have hl9 := HLL.out
            go_roundg (gk - 1)
            case measure => omega
            case rel => exact ⟨k + 1, _, by omega, by go_num, o7, by simp; omega, HL.out.append (OkAll.cons ⟨htv, by unfold i64; simp only; omega, by unfold i64; simp only; omega, by unfold i64; simp only; omega⟩ OkAll.nil), B7⟩
          · obtain rfl : k = M := by omega
            go_wp2_with fail
            go_meet
            exact ⟨l, o, HLL.out, HL, B⟩
      obtain ⟨l, o, hll, HL, B⟩ := hcut
      have HLL := Lib.hid hll
      obtain ⟨A5, c5, rfl, hc5⟩ := o.slice
      rw [hll] at o hc5 ⊢
      have hlM : l.length ≤ M := by omega
      have hMl : M ≤ l.length := by omega
      clear hll
      obtain ⟨w6, rfl⟩ : ∃ y : World, y = wc := ⟨_, rfl⟩
      have ge6 := o.ge
      have r6 := o.row
      have sB := B.size
      clear o
      go_upto_region 16 with fail
      go_cut [70] (fun c wx => (c = .bool (decide (0 < M ∧ ot = 0))) ∧ wx = w6)
      case first =>
        by_cases hM0 : 0 < M
        · have hM1 : (0 : Int) < M := by omega
          by_cases ho : ot = 0
          · subst ho
            go_wp2_with fail
            refine (around_named other 3 0 w6 I4.out (by omega) (by omega) HOT.out).mono ?_
            rintro e wz ⟨rfl, rfl⟩
            go_wp2_with fail
            go_meet
            exact ⟨by simp [hM0], rfl⟩
          · have ho' : ((ot : Int) == 0) = false := by simp; omega
            go_wp2_with fail
            refine (around_named other 3 ot w6 I4.out (by omega) (by omega) HOT.out).mono ?_
            rintro e wz ⟨rfl, rfl⟩
            go_wp2_with fail
            go_meet
            exact ⟨by simp [ho], rfl⟩
        · have hM1 : ¬ (0 : Int) < M := by omega
          go_wp2_with fail
          go_meet
          exact ⟨by simp [hM0], rfl⟩
      obtain ⟨rfl, rfl⟩ := hcut
      go_upto_if 70 with fail
      go_cut [] (fun wx => ∃ l' : List Eff, Row effE wx (.slice A5 M c5) l' ∧ l'.length = M ∧ Hid (OkAll l') ∧ Below w5.heap.size w5 wx)
      case first =>
        by_cases hc : 0 < M ∧ ot = 0
        · obtain ⟨k, hk, hk2⟩ := around_nat at_ M (by omega)
          have HKK := Lib.hid hk
          have hkl : k < l.length := by omega
          obtain ⟨g, o, hA, hg, -⟩ := r6.at_ hkl
          obtain ⟨cs, hbk⟩ : ∃ cs, Blk wc g effE.T cs ∧ ∃ z, cs[o + k * 4]? = some (.int .i64 z) := by
            obtain ⟨A', c', he, _, hr⟩ := r6
            injection he with e1 e2 e3
            rcases hr with ⟨h0, _⟩ | ⟨g', o', cs, hA', hb, hcell⟩
            · rw [← e1, hA] at h0; cases h0
            · rw [← e1, hA] at hA'
              injection hA' with hA'
              injection hA' with e4 e5 _
              subst e4 e5
              exact ⟨cs, hb, _, by have := hcell (k * 4) _ (effE.all_get l k hkl 0 _ rfl); exact this⟩
          obtain ⟨hbk, z, hz⟩ := hbk
          have hc0 : wc.cell? ⟨g, o + k * 4, none⟩ = some (.int .i64 z) := (hbk.cell _).trans hz
          have hf0 : wc.frozen? ⟨g, o + k * 4, none⟩ = false := hbk.frozen _
          have hi0 : (0 : Int) ≤ k := by omega
          have hi1 : (k : Int) < M := by omega
          have hM1 : (0 : Int) < M := by omega
          have hgB := ge6
          subst hA
          have hgB := hgB g rfl
          have hcd : decide (0 < M ∧ ot = 0) = true := by simp [hc]
          rw [hcd]
          clear hk hz hbk ge6 hc hcd
          go_wp2_with fail
          refine (around_named at_ M k wc I5.out (by omega) (by omega) HKK.out).mono ?_
          rintro e wz ⟨rfl, rfl⟩
          go_wp2_with fail
          go_meet
          exact ⟨_, r6.put_tick hkl other, by rw [List.length_set]; exact HLL.out, HL.out.set_tick I4.out, B.setCell hgB _⟩
        · have hcd : decide (0 < M ∧ ot = 0) = false := by simp [hc]
          rw [hcd]
          clear hc hcd
          go_wp2_with fail
          go_meet
          exact ⟨l, r6, HLL.out, HL, B⟩
      clear r6 ge6 sB B HLL HL hlM hMl
      obtain ⟨l7, r7, hl7, HL7, B7⟩ := hcut
      have hlM7 : l7.length ≤ 45 := by omega
      have HLL7 := Lib.hid hl7
      clear hl7
      obtain ⟨w7, rfl⟩ : ∃ y : World, y = wc := ⟨_, rfl⟩
      have S7 := HS.out.new B7
      have bt7 := Lib.hid (HBT.out.below' B7)
      have ct7 := (B7.cell (p := ⟨mb + 1, i, none⟩) btl).trans ct
      obtain ⟨T, hT⟩ : ∃ T, T = takeL 6000 W := ⟨_, rfl⟩
      have HT := Lib.hid hT
      have hTb := by have h1 := takeL_len (lim := 6000) HW.out; have h2 := HW.out.len; exact (by rw [hT]; omega : T.length ≤ 140737488355328)
      clear hT ct HS HBT B7
      go_wp2_with fail
      refine (pending_calls (m + 1) m W bd w7 S7.brd HW.out).mono ?_
      rintro e w8 ⟨vp, rfl, op, b8⟩
      rw [← HT.out] at op
      obtain ⟨Ap, cp, rfl, _⟩ := op.slice
      have rp8 := op.row
      have S8 := S7.new b8
      have r8 := r7.below' b8
      have bt8 := Lib.hid (bt7.out.below' b8)
      have btl8 := bt8.out.lt
      have ct8 := (b8.cell (p := ⟨mb + 1, i, none⟩) bt7.out.lt).trans ct7
      have y0 := S8.blk.cell 0
      have y1 := S8.blk.cell 1
      have y2 := S8.blk.cell 2
      simp only [List.getElem?_toArray, List.getElem?_cons_succ, List.getElem?_cons_zero] at y0 y1 y2
      have HS8 := Lib.hid S8
      clear S7 r7 op b8 ct7 bt7 S8
      go_wp2_with fail
      have dd := below_drewN (Below.refl w8.heap.size w8) 1
      go_still_tail 6, (by kernel_rfl)
      change wpList _ _ _ _ _ w8.drew
      go_wp2_with fail
      refine (refwrong_calls _ _ _ [] bd tv l7 w8.drew (HS8.out.new dd).ref r8.drew (by omega) htv).mono ?_
      rintro e w9 ⟨rfl, b9⟩
      have d9 := dd.trans (b9.mono (Nat.le_refl _))
      have S9 := HS8.out.new d9
      have r9 := r8.below' d9
      have rp9 := rp8.below' d9
      have bt9 := Lib.hid (bt8.out.below' d9)
      have ct9 := (d9.cell (p := ⟨mb + 1, i, none⟩) btl8).trans ct8
      clear y0 y1 y2 HS8 r8 rp8 bt8 ct8 dd b9 d9 btl8
      by_cases hw : wrong bd tv l7 = 0
      · have HWR := Lib.hid hw
        rw [hw]
        clear hw
        go_wp2_with fail
        refine (show_named (m + 1) m W bd tv _ l7 _ _ w9 S9.brd HW.out r9 HL7.out HWR.out rfl rfl).mono ?_
        rintro e w10 ⟨A1, c1, A2, c2, vc, X, rfl, K10, -, -, -, -, u10⟩
        have S10 := S9.board K10 u10 (fun j hj => by simp at hj; simp [hj])
        have hlt9 := S9.lt
        have bt10 := bt9.out.upd u10 (by simp; omega)
        have HW10 := Lib.hid (HW.out.put (by omega) (t := tv) (e := (vc, l7)) (wrong_zero HWR.out).2.2.2.1 HL7.out htv)
        have hl10 := length_mput tv (vc, l7) W
        clear S9 r9 rp9 ct9 K10 u10 bt9
        go_wp2_with fail
        have hi := HI.out
        go_roundg (gk - 1)
        case measure => omega
        case rel => exact ⟨i + 1, _, by omega, by go_num, S10, HW10, by omega, bt10⟩
      · obtain ⟨n, hn⟩ : ∃ n, n = wrong bd tv l7 := ⟨_, rfl⟩
        have HN := Lib.hid hn
        have hn0 : ((n : Int) == 0) = false := by rw [hn]; simp; omega
        have hn1 : ¬ n = 0 := by rw [hn]; exact hw
        have hn2 : ¬ (n : Int) = 0 := by omega
        have HWR := Lib.hid hw
        rw [← hn]
        clear hw hn
        go_wp2_with fail
        refine (show_wrong (m + 1) m W bd tv _ l7 w9 S9.brd r9 htv (by omega) HWR.out).mono ?_
        rintro e w10 ⟨rfl, b10⟩
        rw [← HN.out]
        have S10 := S9.new b10
        have rp10 := rp9.below' b10
        have bt10 := Lib.hid (bt9.out.below' b10)
        clear S9 r9 rp9 ct9 b10 bt9
        go_wp2_with fail
        refine (pending_calls (m + 1) m W bd w10 S10.brd HW.out).mono ?_
        rintro e w11 ⟨vq, rfl, oq, b11⟩
        rw [← HT.out] at oq
        obtain ⟨Aq, cq, rfl, _⟩ := oq.slice
        have rp11 := rp10.below' b11
        go_wp2_with fail
        refine (same_yes _ _ T w11 rp11 oq.row hTb).mono ?_
        rintro e w12 ⟨rfl, b12⟩
        have b1112 := b11.trans (b12.mono b11.size)
        have S12 := S10.new b1112
        have bt12 := bt10.out.below' b1112
        clear S10 rp10 bt10 b11 b12 oq rp11 b1112
        go_wp2_with fail
        have hi := HI.out
        go_roundg (gk - 1)
        case measure => omega
        case rel => exact ⟨i + 1, W, by omega, by go_num, S12, HW, by omega, bt12⟩
    · obtain rfl : i = 3 := by omega
      go_wp2_with fail
      refine (lives_calls wr).mono ?_
      rintro e w12 ⟨rfl, b12⟩
      have U12 := S.upd.new b12
      go_wp2_with fail
      go_ret
      exact ⟨rfl, B5.trans (U12.below B5.size (fun i hi => by simp at hi; omega))⟩
end Go.Proofs.Ytlmmhgbbfmocaaa
