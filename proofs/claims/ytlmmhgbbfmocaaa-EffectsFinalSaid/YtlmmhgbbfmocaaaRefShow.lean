/- The reference's Show, walked. Printed by gen_refshow.py. -/
import Derived.Test.YtlmmhgbbfmocaaaRefS
import Derived.Deep.DeepCutAuto
namespace Go.Proofs.Ytlmmhgbbfmocaaa
open Go.RowKit

/-- What Show leaves. -/
def RShowPost (w : World) (R : List REnt) (bd t : Int) (x : Sl × List Eff) (e : Ending) (w' : World) : Prop :=
  ∃ tv sv, e = .returned (.agg #[tv, sv, .int .i64 bd]) ∧ RefAt w' tv sv (showF t x false R) ∧ Below w.heap.size w w'

set_option maxHeartbeats 4000000 in
set_option maxRecDepth 100000 in
theorem refshow_calls (tv sv : Value) (R : List REnt) (bd t : Int) (A : Option Addr) (nl c : Nat) (l : List Eff) (w : World) (h : RefAt w tv sv R) (hR : ROk R) (r : Row effE w (.slice A nl c) l) (_ht : i64 t) :
    Calls Try.prog 20 #[.agg #[tv, sv, .int .i64 bd], .int .i64 t, .slice A nl c] w (RShowPost w R bd t (⟨A, nl, c⟩, l)) := by
  obtain ⟨A1, c1, rfl, hc1⟩ := h.ticks.slice
  obtain ⟨A2, c2, rfl, hc2⟩ := h.lists.slice
  obtain ⟨N, hN⟩ : ∃ N, N = R.length := ⟨_, rfl⟩
  obtain ⟨T, hT⟩ : ∃ T, T = showF t (⟨A, nl, c⟩, l) false R := ⟨_, rfl⟩
  have HT := Lib.hid hT
  have HN := Lib.hid hN
  have hNl := hR.len
  have HRL := Lib.hid r
  rw [List.length_map] at hc1 hc2
  rw [List.length_map, List.length_map] at h ⊢
  rw [← hN] at h hc1 hc2 hNl ⊢
  clear hT hN hR r
  go_enter Try.func20, Try.ntmps20
  go_wp2_with fail
  have bA := (Below.refl w.heap.size w).alloc (Nat.le_refl _) (.cells #[.slice A1 N c1, .slice A2 N c2, .int .i64 bd] 27)
  have bB := bA.alloc (by simp) (.cells #[.slice none 0 0, .slice none 0 0, .int .i64 0] 27)
  have bC := bB.alloc (by simp; omega) (.cells #[.slice none 0 0, .slice none 0 0, .int .i64 bd] 27)
  have kA := ((Blk.new w 27 #[.slice A1 N c1, .slice A2 N c2, .int .i64 bd]).alloc (.cells #[.slice none 0 0, .slice none 0 0, .int .i64 0] 27)).alloc (.cells #[.slice none 0 0, .slice none 0 0, .int .i64 bd] 27)
  have kB := (Blk.new1 w (.cells #[.slice A1 N c1, .slice A2 N c2, .int .i64 bd] 27) 27 #[.slice none 0 0, .slice none 0 0, .int .i64 0]).alloc (.cells #[.slice none 0 0, .slice none 0 0, .int .i64 bd] 27)
  have kC := Blk.new2 w (.cells #[.slice A1 N c1, .slice A2 N c2, .int .i64 bd] 27) (.cells #[.slice none 0 0, .slice none 0 0, .int .i64 0] 27) 27 #[.slice none 0 0, .slice none 0 0, .int .i64 bd]
  have nC : NextAt (((w.alloc (.cells #[.slice A1 N c1, .slice A2 N c2, .int .i64 bd] 27)).alloc (.cells #[.slice none 0 0, .slice none 0 0, .int .i64 0] 27)).alloc (.cells #[.slice none 0 0, .slice none 0 0, .int .i64 bd] 27)) (w.heap.size + 3) (w.heap.size + 2) bd [] [] := ⟨none, 0, none, 0, kC, Own.nil _ _, Own.nil _ _⟩
  have B0 : Below w.heap.size w (((w.alloc (.cells #[.slice A1 N c1, .slice A2 N c2, .int .i64 bd] 27)).alloc (.cells #[.slice none 0 0, .slice none 0 0, .int .i64 0] 27)).alloc (.cells #[.slice none 0 0, .slice none 0 0, .int .i64 bd] 27)) := bC
  have s0 : w.heap.size + 3 ≤ (((w.alloc (.cells #[.slice A1 N c1, .slice A2 N c2, .int .i64 bd] 27)).alloc (.cells #[.slice none 0 0, .slice none 0 0, .int .i64 0] 27)).alloc (.cells #[.slice none 0 0, .slice none 0 0, .int .i64 bd] 27)).heap.size := by simp
  clear bA bB bC
  generalize (((w.alloc (.cells #[.slice A1 N c1, .slice A2 N c2, .int .i64 bd] 27)).alloc (.cells #[.slice none 0 0, .slice none 0 0, .int .i64 0] 27)).alloc (.cells #[.slice none 0 0, .slice none 0 0, .int .i64 bd] 27)) = w0 at *
  obtain ⟨M, hM⟩ : ∃ M, M = w.heap.size + 2 := ⟨_, rfl⟩
  have HM := Lib.hid hM
  have hMw : w.heap.size < M := by omega
  have s0 : M + 1 ≤ w0.heap.size := by omega
  have nC : NextAt w0 (M + 1) M bd [] [] := by rw [hM]; exact nC
  have hA := Lib.hid kA
  have hB := Lib.hid kB
  rw [← hM]
  clear hM kA kB kC
  go_loopg [8, 9] N (fun n av iv wr => ∃ (k : Nat) (a : Bool) (out : List REnt) (ts : List Int) (ss : List Sl), k + n = N ∧ iv = .int .i64 k ∧ av = .bool a ∧ NextAt wr (M + 1) M bd ts ss ∧ ts.length ≤ k + 1 ∧ ss.length ≤ k + 1 ∧ (a = false → ts.length ≤ k ∧ ss.length ≤ k) ∧ Below M w0 wr ∧ M + 1 ≤ wr.heap.size ∧ Hid (out ++ showF t (⟨A, nl, c⟩, l) a (R.drop k) = T ∧ ts = out.map (·.1) ∧ ss = out.map (·.2.1)))
  case atStart => exact ⟨0, false, [], [], [], by omega, rfl, rfl, nC, by simp, by simp, by simp, Below.refl _ _, s0, by rw [HT.out]; rfl, rfl, rfl⟩
  case round =>
    obtain ⟨k, a, out, ts, ss, hk, rfl, rfl, nx, htl, hsl, hal, B, sB, H⟩ := hrel
    have HK := Lib.hid hk
    have hkN : k ≤ N := by omega
    clear hk nC s0
    have x0 := (hA.out.below B (by have := HM.out; omega)).cell 0
    have x1 := (hA.out.below B (by have := HM.out; omega)).cell 1
    simp only [List.getElem?_toArray, List.getElem?_cons_succ, List.getElem?_cons_zero] at x0 x1
    by_cases hlt : k < N
    · have hk1 : k < R.length := by rw [← HN.out]; exact hlt
      obtain ⟨g1, o1, rfl, hg1, y1⟩ := h.tick_at hk1
      obtain ⟨g2, o2, rfl, hg2, y2⟩ := h.list_at hk1
      have hi0 : (0 : Int) ≤ k := by omega
      have hi1 : (k : Int) < N := by omega
      have H2 := H.out.1
      have HTS := Lib.hid H.out.2.1
      have HSS := Lib.hid H.out.2.2
      rw [List.drop_eq_getElem_cons hk1] at H2
      have H3 := Lib.hid (showF_go H2)
      generalize R[k] = p at *
      obtain ⟨u, ⟨As, ns, cs⟩, ls⟩ := p
      simp only at y1 y2 H3
      have HS := Lib.hid (fun (X : World) (hX : Below M w0 X) => (⟨(hA.out.below hX (by have := HM.out; omega)).cell 0, (hA.out.below hX (by have := HM.out; omega)).cell 1, ((B0.trans (hX.mono (by omega))).cell (p := ⟨g1, o1 + k, none⟩) hg1).trans y1, ((B0.trans (hX.mono (by omega))).cell (p := ⟨g2, o2 + k, none⟩) hg2).trans y2⟩ :
        X.cell? ⟨w.heap.size, 0, none⟩ = some (.slice (some ⟨g1, o1, none⟩) N c1) ∧ X.cell? ⟨w.heap.size, 1, none⟩ = some (.slice (some ⟨g2, o2, none⟩) N c2) ∧ X.cell? ⟨g1, o1 + k, none⟩ = some (.int .i64 u) ∧ X.cell? ⟨g2, o2 + k, none⟩ = some (.slice As ns cs)))
      clear H2 H y1 y2 x0 x1
      by_cases hc : a = false ∧ t ≤ u
      · obtain ⟨rfl, hle⟩ := hc
        obtain ⟨ha1, ha2⟩ := hal rfl
        by_cases hu : u = t
        · have hu' : (u != t) = false := by simp [hu]
          have H4 := Lib.hid (H3.out.1 ⟨rfl, hle⟩ hu)
          clear hu H3 hal
          obtain ⟨P1, q1, P2, q2, bk0, oT0, oS0⟩ := nx
          obtain ⟨ya0, yb0, yc0, yd0⟩ := HS.out _ B
          have d0 := bk0.cell 0
          have f0 := bk0.frozen 0
          simp only [List.getElem?_toArray, List.getElem?_cons_zero] at d0
          go_wp2_with (at_builtin; refine wpList_push elem_int rfl (.tmp 32) (.tmp 34) rfl (M + 1) (.slice P1 ts.length q1) ts rfl (oT0.alloc _) (wr.heap.size) t rfl ?p1 ?p2 ?p3 ?p4 ?_)
          case p1 => exact Blk.new _ _ _
          case p2 => omega
          case p3 => omega
          case p4 => first | omega | (simp; omega)
          intro v1 w1 o1 g1 l1
          clear l1
          obtain ⟨z1, hz1⟩ : ∃ y, y = ts ++ [t] := ⟨_, rfl⟩
          rw [← hz1] at o1
          have hzl1 : z1.length ≤ ts.length + 1 := by rw [hz1, List.length_append]; exact Nat.le_refl _
          have HZ1 := Lib.hid hz1
          clear hz1
          have C1 : Below M w0 w1 := (B.alloc (by omega) (.cells #[.int .i64 t] 3)).grown g1 (by simp; omega) (fun k hk => by have := oT0.ge k hk; omega)
          obtain ⟨k1, r1, nx1, A1, cx1, rfl⟩ := next_tick (.cells #[.int .i64 t] 3) bk0 oT0 oS0 o1 g1
          have t1 : M + 1 ≤ w1.heap.size := by have := g1.size; simp at this; omega
          have f1 := k1.frozen 0
          have d1 := k1.cell 0
          simp only [List.getElem?_toArray, List.getElem?_cons_zero] at d1
          have D1 := C1.setCell (p := ⟨M, 0, none⟩) (Nat.le_refl _) (.slice A1 z1.length cx1)
          have hs1 : (w1.setCell ⟨M, 0, none⟩ (.slice A1 z1.length cx1)).heap.size = w1.heap.size := by simp [World.setCell]
          clear g1 k1 o1 r1
          obtain ⟨P1, q1, P2, q2, bk1, oT1, oS1⟩ := nx1
          have dd1 := bk1.cell 1
          simp only [List.getElem?_toArray, List.getElem?_cons_succ, List.getElem?_cons_zero] at dd1
          go_wp2_with (at_builtin; refine wpList_push elem_sl rfl (.tmp 38) (.tmp 40) rfl (M + 1) (.slice P2 ss.length q2) ss rfl (oS1.alloc _) (w1.heap.size) ⟨A, nl, c⟩ rfl ?p1 ?p2 ?p3 ?p4 ?_)
          case p1 => rw [← hs1]; exact Blk.new _ _ _
          case p2 => omega
          case p3 => omega
          case p4 => first | omega | (simp; omega)
          intro v2 w2 o2 g2 l2
          clear l2
          obtain ⟨z2, hz2⟩ : ∃ y, y = ss ++ [⟨A, nl, c⟩] := ⟨_, rfl⟩
          rw [← hz2] at o2
          have hzl2 : z2.length ≤ ss.length + 1 := by rw [hz2, List.length_append]; exact Nat.le_refl _
          have HZ2 := Lib.hid hz2
          clear hz2
          have C2 : Below M w0 w2 := (D1.alloc (by rw [hs1]; omega) (.cells #[.slice A nl c] 30)).grown g2 (by simp [hs1]; omega) (fun k hk => by have := oS1.ge k hk; omega)
          obtain ⟨k2, nx2, A2, cx2, rfl⟩ := next_list (.cells #[.slice A nl c] 30) bk1 oT1 oS1 o2 g2
          have t2 : M + 1 ≤ w2.heap.size := by have := g2.size; simp [hs1] at this; omega
          have f2 := k2.frozen 1
          have d2 := k2.cell 1
          simp only [List.getElem?_toArray, List.getElem?_cons_succ, List.getElem?_cons_zero] at d2
          have D2 := C2.setCell (p := ⟨M, 1, none⟩) (Nat.le_refl _) (.slice A2 z2.length cx2)
          have hs2 : (w2.setCell ⟨M, 1, none⟩ (.slice A2 z2.length cx2)).heap.size = w2.heap.size := by simp [World.setCell]
          clear g2 k2 o2 
          obtain ⟨ya2, yb2, yc2, yd2⟩ := HS.out _ C2
          have hne1 : w.heap.size ≠ M := by omega
          have hne2 : g1 ≠ M := by omega
          go_wp2_with fail
          have hk := HK.out
          have h4 := H4.out
          have e1 : z1 = (out ++ [(t, ⟨A, nl, c⟩, l)] : List REnt).map (·.1) := by rw [HZ1.out, HTS.out]; simp
          have e2 : z2 = (out ++ [(t, ⟨A, nl, c⟩, l)] : List REnt).map (·.2.1) := by rw [HZ2.out, HSS.out]; simp
          have fz : M + 1 ≤ (w2.setCell ⟨M, 1, none⟩ (.slice A2 z2.length cx2)).heap.size := by rw [hs2]; omega
          go_roundg (gk - 1)
          case measure => omega
          case rel => exact ⟨k + 1, true, out ++ [(t, ⟨A, nl, c⟩, l)], z1, z2, by omega, by go_num, rfl, nx2, by omega, by omega, fun hx => by first | omega | contradiction, D2, fz, h4, e1, e2⟩
        · have hu' : (u != t) = true := by simp [hu]
          have H4 := Lib.hid (H3.out.2.1 ⟨rfl, hle⟩ hu)
          clear hu H3 hal
          obtain ⟨P1, q1, P2, q2, bk0, oT0, oS0⟩ := nx
          obtain ⟨ya0, yb0, yc0, yd0⟩ := HS.out _ B
          have d0 := bk0.cell 0
          have f0 := bk0.frozen 0
          simp only [List.getElem?_toArray, List.getElem?_cons_zero] at d0
          go_wp2_with (at_builtin; refine wpList_push elem_int rfl (.tmp 32) (.tmp 34) rfl (M + 1) (.slice P1 ts.length q1) ts rfl (oT0.alloc _) (wr.heap.size) t rfl ?p1 ?p2 ?p3 ?p4 ?_)
          case p1 => exact Blk.new _ _ _
          case p2 => omega
          case p3 => omega
          case p4 => first | omega | (simp; omega)
          intro v3 w3 o3 g3 l3
          clear l3
          obtain ⟨z3, hz3⟩ : ∃ y, y = ts ++ [t] := ⟨_, rfl⟩
          rw [← hz3] at o3
          have hzl3 : z3.length ≤ ts.length + 1 := by rw [hz3, List.length_append]; exact Nat.le_refl _
          have HZ3 := Lib.hid hz3
          clear hz3
          have C3 : Below M w0 w3 := (B.alloc (by omega) (.cells #[.int .i64 t] 3)).grown g3 (by simp; omega) (fun k hk => by have := oT0.ge k hk; omega)
          obtain ⟨k3, r3, nx3, A3, cx3, rfl⟩ := next_tick (.cells #[.int .i64 t] 3) bk0 oT0 oS0 o3 g3
          have t3 : M + 1 ≤ w3.heap.size := by have := g3.size; simp at this; omega
          have f3 := k3.frozen 0
          have d3 := k3.cell 0
          simp only [List.getElem?_toArray, List.getElem?_cons_zero] at d3
          have D3 := C3.setCell (p := ⟨M, 0, none⟩) (Nat.le_refl _) (.slice A3 z3.length cx3)
          have hs3 : (w3.setCell ⟨M, 0, none⟩ (.slice A3 z3.length cx3)).heap.size = w3.heap.size := by simp [World.setCell]
          clear g3 k3 o3 r3
          obtain ⟨P1, q1, P2, q2, bk3, oT3, oS3⟩ := nx3
          have dd3 := bk3.cell 1
          simp only [List.getElem?_toArray, List.getElem?_cons_succ, List.getElem?_cons_zero] at dd3
          go_wp2_with (at_builtin; refine wpList_push elem_sl rfl (.tmp 38) (.tmp 40) rfl (M + 1) (.slice P2 ss.length q2) ss rfl (oS3.alloc _) (w3.heap.size) ⟨A, nl, c⟩ rfl ?p1 ?p2 ?p3 ?p4 ?_)
          case p1 => rw [← hs3]; exact Blk.new _ _ _
          case p2 => omega
          case p3 => omega
          case p4 => first | omega | (simp; omega)
          intro v4 w4 o4 g4 l4
          clear l4
          obtain ⟨z4, hz4⟩ : ∃ y, y = ss ++ [⟨A, nl, c⟩] := ⟨_, rfl⟩
          rw [← hz4] at o4
          have hzl4 : z4.length ≤ ss.length + 1 := by rw [hz4, List.length_append]; exact Nat.le_refl _
          have HZ4 := Lib.hid hz4
          clear hz4
          have C4 : Below M w0 w4 := (D3.alloc (by rw [hs3]; omega) (.cells #[.slice A nl c] 30)).grown g4 (by simp [hs3]; omega) (fun k hk => by have := oS3.ge k hk; omega)
          obtain ⟨k4, nx4, A4, cx4, rfl⟩ := next_list (.cells #[.slice A nl c] 30) bk3 oT3 oS3 o4 g4
          have t4 : M + 1 ≤ w4.heap.size := by have := g4.size; simp [hs3] at this; omega
          have f4 := k4.frozen 1
          have d4 := k4.cell 1
          simp only [List.getElem?_toArray, List.getElem?_cons_succ, List.getElem?_cons_zero] at d4
          have D4 := C4.setCell (p := ⟨M, 1, none⟩) (Nat.le_refl _) (.slice A4 z4.length cx4)
          have hs4 : (w4.setCell ⟨M, 1, none⟩ (.slice A4 z4.length cx4)).heap.size = w4.heap.size := by simp [World.setCell]
          clear g4 k4 o4 
          obtain ⟨ya4, yb4, yc4, yd4⟩ := HS.out _ C4
          have hne1 : w.heap.size ≠ M := by omega
          have hne2 : g1 ≠ M := by omega
          go_wp2_with fail
          clear ya4 yb4 yc4 yd4
          have s5 : M + 1 ≤ (w4.setCell ⟨M, 1, none⟩ (.slice A4 z4.length cx4)).heap.size := by rw [hs4]; exact t4
          clear hs4 d4 f4
          generalize (w4.setCell ⟨M, 1, none⟩ (.slice A4 z4.length cx4)) = w5 at *
          obtain ⟨P1, q1, P2, q2, bk5, oT5, oS5⟩ := nx4
          obtain ⟨ya5, yb5, yc5, yd5⟩ := HS.out _ D4
          have d5 := bk5.cell 0
          have f5 := bk5.frozen 0
          simp only [List.getElem?_toArray, List.getElem?_cons_zero] at d5
          go_wp2_with fail
          obtain ⟨z6, hz6⟩ : ∃ y, y = z3 ++ [u] := ⟨_, rfl⟩
          have hzl6 : z6.length ≤ z3.length + 1 := by rw [hz6, List.length_append]; exact Nat.le_refl _
          have HZ6 := Lib.hid hz6
          clear hz6
          have hm6 : M < w5.heap.size := by omega
          have hn6 : w.heap.size < w5.heap.size := by omega
          have hp6 : g1 < w5.heap.size := by omega
          have hq6 : g2 < w5.heap.size := by omega
          go_cut [] (fun wx => NextAt wx (M + 1) M bd z6 z4 ∧ Below M w0 wx ∧ M + 1 ≤ wx.heap.size)
          case first =>
            go_region_law (refine step_push elem_int rfl (.tmp 51) (.tmp 57) rfl (M + 1) (.slice P1 z3.length q1) z3 rfl ((oT5.alloc _).drew) (w5.heap.size) u rfl (by exact (Blk.new w5 _ _).drew) (by omega) (by omega) (by simp; omega) ?_; intro v6 w6 o6 g6 l6; clear l6; have gg6 : (w5.alloc (.cells #[.int .i64 u] 3)).grownBy w6 (Value.slice P1 z3.length q1).ownBlock := ⟨g6.os, g6.tape, g6.output, g6.size, g6.block⟩; clear g6; rw [← HZ6.out] at o6; have C6 : Below M w0 w6 := (D4.alloc (by omega) (.cells #[.int .i64 u] 3)).grown gg6 (by simp; omega) (fun k hk => by have := oT5.ge k hk; omega); obtain ⟨k6, r6, nx6, A6, cx6, rfl⟩ := next_tick (.cells #[.int .i64 u] 3) bk5 oT5 oS5 o6 gg6; have t6 : M + 1 ≤ w6.heap.size := (by have := gg6.size; simp at this; omega); have f6 := k6.frozen 0; have d6 := k6.cell 0; simp only [List.getElem?_toArray, List.getElem?_cons_zero] at d6; have D6 := C6.setCell (p := ⟨M, 0, none⟩) (Nat.le_refl _) (.slice A6 z6.length cx6); have hs6 : (w6.setCell ⟨M, 0, none⟩ (.slice A6 z6.length cx6)).heap.size = w6.heap.size := (by simp [World.setCell]); clear gg6 k6 o6 r6)
            all_goals (go_wp2_with fail; go_meet; exact ⟨nx6, D6, by rw [hs6]; exact t6⟩)
          clear hm6 hn6 hp6 hq6 bk5 oT5 oS5 d5 f5 ya5 yb5 yc5 yd5
          obtain ⟨nx6, D6, t6⟩ := hcut
          obtain ⟨wc6, rfl⟩ : ∃ y : World, y = wc := ⟨_, rfl⟩
          go_wp2_with fail
          obtain ⟨P1, q1, P2, q2, bk6, oT6, oS6⟩ := nx6
          obtain ⟨ya6, yb6, yc6, yd6⟩ := HS.out _ D6
          have d6 := bk6.cell 1
          have f6 := bk6.frozen 1
          simp only [List.getElem?_toArray, List.getElem?_cons_succ, List.getElem?_cons_zero] at d6
          obtain ⟨z7, hz7⟩ : ∃ y, y = z4 ++ [⟨As, ns, cs⟩] := ⟨_, rfl⟩
          have hzl7 : z7.length ≤ z4.length + 1 := by rw [hz7, List.length_append]; exact Nat.le_refl _
          have HZ7 := Lib.hid hz7
          clear hz7
          have hm7 : M < wc6.heap.size := by omega
          have hn7 : w.heap.size < wc6.heap.size := by omega
          have hp7 : g1 < wc6.heap.size := by omega
          have hq7 : g2 < wc6.heap.size := by omega
          go_region_law (refine step_push elem_sl rfl (.tmp 61) (.tmp 67) rfl (M + 1) (.slice P2 z4.length q2) z4 rfl ((oS6.alloc _).drew) (wc6.heap.size) ⟨As, ns, cs⟩ rfl (by exact (Blk.new wc6 _ _).drew) (by omega) (by omega) (by simp; omega) ?_; intro v7 w7 o7 g7 l7; clear l7; have gg7 : (wc6.alloc (.cells #[.slice As ns cs] 30)).grownBy w7 (Value.slice P2 z4.length q2).ownBlock := ⟨g7.os, g7.tape, g7.output, g7.size, g7.block⟩; clear g7; rw [← HZ7.out] at o7; have C7 : Below M w0 w7 := (D6.alloc (by omega) (.cells #[.slice As ns cs] 30)).grown gg7 (by simp; omega) (fun k hk => by have := oS6.ge k hk; omega); obtain ⟨k7, nx7, A7, cx7, rfl⟩ := next_list (.cells #[.slice As ns cs] 30) bk6 oT6 oS6 o7 gg7; have t7 : M + 1 ≤ w7.heap.size := (by have := gg7.size; simp at this; omega); have f7 := k7.frozen 1; have d7 := k7.cell 1; simp only [List.getElem?_toArray, List.getElem?_cons_succ, List.getElem?_cons_zero] at d7; have D7 := C7.setCell (p := ⟨M, 1, none⟩) (Nat.le_refl _) (.slice A7 z7.length cx7); have hs7 : (w7.setCell ⟨M, 1, none⟩ (.slice A7 z7.length cx7)).heap.size = w7.heap.size := (by simp [World.setCell]); clear gg7 k7 o7)
          all_goals
            go_wp2_with fail
            have hk := HK.out
            have h4 := H4.out
            have e1 : z6 = (out ++ [(t, ⟨A, nl, c⟩, l)] ++ [(u, ⟨As, ns, cs⟩, ls)] : List REnt).map (·.1) := by rw [HZ6.out, HZ3.out, HTS.out]; simp
            have e2 : z7 = (out ++ [(t, ⟨A, nl, c⟩, l)] ++ [(u, ⟨As, ns, cs⟩, ls)] : List REnt).map (·.2.1) := by rw [HZ7.out, HZ4.out, HSS.out]; simp
            have fz : M + 1 ≤ (w7.setCell ⟨M, 1, none⟩ (.slice A7 z7.length cx7)).heap.size := by rw [hs7]; omega
            go_roundg (gk - 1)
            case measure => omega
            case rel => exact ⟨k + 1, true, out ++ [(t, ⟨A, nl, c⟩, l)] ++ [(u, ⟨As, ns, cs⟩, ls)], z6, z7, by omega, by go_num, rfl, nx7, by omega, by omega, fun hx => by first | omega | contradiction, D7, fz, h4, e1, e2⟩
      · by_cases hu : u = t
        · have hu' : (u != t) = false := by simp [hu]
          have H4 := Lib.hid (H3.out.2.2.1 hc hu)
          cases a
          · exact absurd ⟨rfl, by omega⟩ hc
          · clear hc hu H3
            obtain ⟨ya0, yb0, yc0, yd0⟩ := HS.out _ B
            go_wp2_with fail
            have hk := HK.out
            have h4 := H4.out
            have e1 : ts = (out : List REnt).map (·.1) := by exact HTS.out
            have e2 : ss = (out : List REnt).map (·.2.1) := by exact HSS.out
            have fz : M + 1 ≤ wr.heap.size := by omega
            go_roundg (gk - 1)
            case measure => omega
            case rel => exact ⟨k + 1, true, out, ts, ss, by omega, by go_num, rfl, nx, by omega, by omega, fun hx => by first | omega | contradiction, B, fz, h4, e1, e2⟩
        · have hu' : (u != t) = true := by simp [hu]
          have H4 := Lib.hid (H3.out.2.2.2 hc hu)
          cases a
          · have hle : ¬ t ≤ u := fun h => hc ⟨rfl, h⟩
            obtain ⟨ha1, ha2⟩ := hal rfl
            clear hc hu H3 hal
            obtain ⟨P1, q1, P2, q2, bk0, oT0, oS0⟩ := nx
            obtain ⟨ya0, yb0, yc0, yd0⟩ := HS.out _ B
            have d0 := bk0.cell 0
            have f0 := bk0.frozen 0
            simp only [List.getElem?_toArray, List.getElem?_cons_zero] at d0
            go_wp2_with fail
            obtain ⟨z8, hz8⟩ : ∃ y, y = ts ++ [u] := ⟨_, rfl⟩
            have hzl8 : z8.length ≤ ts.length + 1 := by rw [hz8, List.length_append]; exact Nat.le_refl _
            have HZ8 := Lib.hid hz8
            clear hz8
            have hm8 : M < wr.heap.size := by omega
            have hn8 : w.heap.size < wr.heap.size := by omega
            have hp8 : g1 < wr.heap.size := by omega
            have hq8 : g2 < wr.heap.size := by omega
            go_cut [] (fun wx => NextAt wx (M + 1) M bd z8 ss ∧ Below M w0 wx ∧ M + 1 ≤ wx.heap.size)
            case first =>
              go_region_law (refine step_push elem_int rfl (.tmp 51) (.tmp 57) rfl (M + 1) (.slice P1 ts.length q1) ts rfl ((oT0.alloc _).drew) (wr.heap.size) u rfl (by exact (Blk.new wr _ _).drew) (by omega) (by omega) (by simp; omega) ?_; intro v8 w8 o8 g8 l8; clear l8; have gg8 : (wr.alloc (.cells #[.int .i64 u] 3)).grownBy w8 (Value.slice P1 ts.length q1).ownBlock := ⟨g8.os, g8.tape, g8.output, g8.size, g8.block⟩; clear g8; rw [← HZ8.out] at o8; have C8 : Below M w0 w8 := (B.alloc (by omega) (.cells #[.int .i64 u] 3)).grown gg8 (by simp; omega) (fun k hk => by have := oT0.ge k hk; omega); obtain ⟨k8, r8, nx8, A8, cx8, rfl⟩ := next_tick (.cells #[.int .i64 u] 3) bk0 oT0 oS0 o8 gg8; have t8 : M + 1 ≤ w8.heap.size := (by have := gg8.size; simp at this; omega); have f8 := k8.frozen 0; have d8 := k8.cell 0; simp only [List.getElem?_toArray, List.getElem?_cons_zero] at d8; have D8 := C8.setCell (p := ⟨M, 0, none⟩) (Nat.le_refl _) (.slice A8 z8.length cx8); have hs8 : (w8.setCell ⟨M, 0, none⟩ (.slice A8 z8.length cx8)).heap.size = w8.heap.size := (by simp [World.setCell]); clear gg8 k8 o8 r8)
              all_goals (go_wp2_with fail; go_meet; exact ⟨nx8, D8, by rw [hs8]; exact t8⟩)
            clear hm8 hn8 hp8 hq8 bk0 oT0 oS0 d0 f0 ya0 yb0 yc0 yd0
            obtain ⟨nx8, D8, t8⟩ := hcut
            obtain ⟨wc8, rfl⟩ : ∃ y : World, y = wc := ⟨_, rfl⟩
            go_wp2_with fail
            obtain ⟨P1, q1, P2, q2, bk8, oT8, oS8⟩ := nx8
            obtain ⟨ya8, yb8, yc8, yd8⟩ := HS.out _ D8
            have d8 := bk8.cell 1
            have f8 := bk8.frozen 1
            simp only [List.getElem?_toArray, List.getElem?_cons_succ, List.getElem?_cons_zero] at d8
            obtain ⟨z9, hz9⟩ : ∃ y, y = ss ++ [⟨As, ns, cs⟩] := ⟨_, rfl⟩
            have hzl9 : z9.length ≤ ss.length + 1 := by rw [hz9, List.length_append]; exact Nat.le_refl _
            have HZ9 := Lib.hid hz9
            clear hz9
            have hm9 : M < wc8.heap.size := by omega
            have hn9 : w.heap.size < wc8.heap.size := by omega
            have hp9 : g1 < wc8.heap.size := by omega
            have hq9 : g2 < wc8.heap.size := by omega
            go_region_law (refine step_push elem_sl rfl (.tmp 61) (.tmp 67) rfl (M + 1) (.slice P2 ss.length q2) ss rfl ((oS8.alloc _).drew) (wc8.heap.size) ⟨As, ns, cs⟩ rfl (by exact (Blk.new wc8 _ _).drew) (by omega) (by omega) (by simp; omega) ?_; intro v9 w9 o9 g9 l9; clear l9; have gg9 : (wc8.alloc (.cells #[.slice As ns cs] 30)).grownBy w9 (Value.slice P2 ss.length q2).ownBlock := ⟨g9.os, g9.tape, g9.output, g9.size, g9.block⟩; clear g9; rw [← HZ9.out] at o9; have C9 : Below M w0 w9 := (D8.alloc (by omega) (.cells #[.slice As ns cs] 30)).grown gg9 (by simp; omega) (fun k hk => by have := oS8.ge k hk; omega); obtain ⟨k9, nx9, A9, cx9, rfl⟩ := next_list (.cells #[.slice As ns cs] 30) bk8 oT8 oS8 o9 gg9; have t9 : M + 1 ≤ w9.heap.size := (by have := gg9.size; simp at this; omega); have f9 := k9.frozen 1; have d9 := k9.cell 1; simp only [List.getElem?_toArray, List.getElem?_cons_succ, List.getElem?_cons_zero] at d9; have D9 := C9.setCell (p := ⟨M, 1, none⟩) (Nat.le_refl _) (.slice A9 z9.length cx9); have hs9 : (w9.setCell ⟨M, 1, none⟩ (.slice A9 z9.length cx9)).heap.size = w9.heap.size := (by simp [World.setCell]); clear gg9 k9 o9)
            all_goals
              go_wp2_with fail
              have hk := HK.out
              have h4 := H4.out
              have e1 : z8 = (out ++ [(u, ⟨As, ns, cs⟩, ls)] : List REnt).map (·.1) := by rw [HZ8.out, HTS.out]; simp
              have e2 : z9 = (out ++ [(u, ⟨As, ns, cs⟩, ls)] : List REnt).map (·.2.1) := by rw [HZ9.out, HSS.out]; simp
              have fz : M + 1 ≤ (w9.setCell ⟨M, 1, none⟩ (.slice A9 z9.length cx9)).heap.size := by rw [hs9]; omega
              go_roundg (gk - 1)
              case measure => omega
              case rel => exact ⟨k + 1, false, out ++ [(u, ⟨As, ns, cs⟩, ls)], z8, z9, by omega, by go_num, rfl, nx9, by omega, by omega, fun hx => by first | omega | contradiction, D9, fz, h4, e1, e2⟩
          · clear hc hu H3
            obtain ⟨P1, q1, P2, q2, bk0, oT0, oS0⟩ := nx
            obtain ⟨ya0, yb0, yc0, yd0⟩ := HS.out _ B
            have d0 := bk0.cell 0
            have f0 := bk0.frozen 0
            simp only [List.getElem?_toArray, List.getElem?_cons_zero] at d0
            go_wp2_with fail
            obtain ⟨z10, hz10⟩ : ∃ y, y = ts ++ [u] := ⟨_, rfl⟩
            have hzl10 : z10.length ≤ ts.length + 1 := by rw [hz10, List.length_append]; exact Nat.le_refl _
            have HZ10 := Lib.hid hz10
            clear hz10
            have hm10 : M < wr.heap.size := by omega
            have hn10 : w.heap.size < wr.heap.size := by omega
            have hp10 : g1 < wr.heap.size := by omega
            have hq10 : g2 < wr.heap.size := by omega
            go_cut [] (fun wx => NextAt wx (M + 1) M bd z10 ss ∧ Below M w0 wx ∧ M + 1 ≤ wx.heap.size)
            case first =>
              go_region_law (refine step_push elem_int rfl (.tmp 51) (.tmp 57) rfl (M + 1) (.slice P1 ts.length q1) ts rfl ((oT0.alloc _).drew) (wr.heap.size) u rfl (by exact (Blk.new wr _ _).drew) (by omega) (by omega) (by simp; omega) ?_; intro v10 w10 o10 g10 l10; clear l10; have gg10 : (wr.alloc (.cells #[.int .i64 u] 3)).grownBy w10 (Value.slice P1 ts.length q1).ownBlock := ⟨g10.os, g10.tape, g10.output, g10.size, g10.block⟩; clear g10; rw [← HZ10.out] at o10; have C10 : Below M w0 w10 := (B.alloc (by omega) (.cells #[.int .i64 u] 3)).grown gg10 (by simp; omega) (fun k hk => by have := oT0.ge k hk; omega); obtain ⟨k10, r10, nx10, A10, cx10, rfl⟩ := next_tick (.cells #[.int .i64 u] 3) bk0 oT0 oS0 o10 gg10; have t10 : M + 1 ≤ w10.heap.size := (by have := gg10.size; simp at this; omega); have f10 := k10.frozen 0; have d10 := k10.cell 0; simp only [List.getElem?_toArray, List.getElem?_cons_zero] at d10; have D10 := C10.setCell (p := ⟨M, 0, none⟩) (Nat.le_refl _) (.slice A10 z10.length cx10); have hs10 : (w10.setCell ⟨M, 0, none⟩ (.slice A10 z10.length cx10)).heap.size = w10.heap.size := (by simp [World.setCell]); clear gg10 k10 o10 r10)
              all_goals (go_wp2_with fail; go_meet; exact ⟨nx10, D10, by rw [hs10]; exact t10⟩)
            clear hm10 hn10 hp10 hq10 bk0 oT0 oS0 d0 f0 ya0 yb0 yc0 yd0
            obtain ⟨nx10, D10, t10⟩ := hcut
            obtain ⟨wc10, rfl⟩ : ∃ y : World, y = wc := ⟨_, rfl⟩
            go_wp2_with fail
            obtain ⟨P1, q1, P2, q2, bk10, oT10, oS10⟩ := nx10
            obtain ⟨ya10, yb10, yc10, yd10⟩ := HS.out _ D10
            have d10 := bk10.cell 1
            have f10 := bk10.frozen 1
            simp only [List.getElem?_toArray, List.getElem?_cons_succ, List.getElem?_cons_zero] at d10
            obtain ⟨z11, hz11⟩ : ∃ y, y = ss ++ [⟨As, ns, cs⟩] := ⟨_, rfl⟩
            have hzl11 : z11.length ≤ ss.length + 1 := by rw [hz11, List.length_append]; exact Nat.le_refl _
            have HZ11 := Lib.hid hz11
            clear hz11
            have hm11 : M < wc10.heap.size := by omega
            have hn11 : w.heap.size < wc10.heap.size := by omega
            have hp11 : g1 < wc10.heap.size := by omega
            have hq11 : g2 < wc10.heap.size := by omega
            go_region_law (refine step_push elem_sl rfl (.tmp 61) (.tmp 67) rfl (M + 1) (.slice P2 ss.length q2) ss rfl ((oS10.alloc _).drew) (wc10.heap.size) ⟨As, ns, cs⟩ rfl (by exact (Blk.new wc10 _ _).drew) (by omega) (by omega) (by simp; omega) ?_; intro v11 w11 o11 g11 l11; clear l11; have gg11 : (wc10.alloc (.cells #[.slice As ns cs] 30)).grownBy w11 (Value.slice P2 ss.length q2).ownBlock := ⟨g11.os, g11.tape, g11.output, g11.size, g11.block⟩; clear g11; rw [← HZ11.out] at o11; have C11 : Below M w0 w11 := (D10.alloc (by omega) (.cells #[.slice As ns cs] 30)).grown gg11 (by simp; omega) (fun k hk => by have := oS10.ge k hk; omega); obtain ⟨k11, nx11, A11, cx11, rfl⟩ := next_list (.cells #[.slice As ns cs] 30) bk10 oT10 oS10 o11 gg11; have t11 : M + 1 ≤ w11.heap.size := (by have := gg11.size; simp at this; omega); have f11 := k11.frozen 1; have d11 := k11.cell 1; simp only [List.getElem?_toArray, List.getElem?_cons_succ, List.getElem?_cons_zero] at d11; have D11 := C11.setCell (p := ⟨M, 1, none⟩) (Nat.le_refl _) (.slice A11 z11.length cx11); have hs11 : (w11.setCell ⟨M, 1, none⟩ (.slice A11 z11.length cx11)).heap.size = w11.heap.size := (by simp [World.setCell]); clear gg11 k11 o11)
            all_goals
              go_wp2_with fail
              have hk := HK.out
              have h4 := H4.out
              have e1 : z10 = (out ++ [(u, ⟨As, ns, cs⟩, ls)] : List REnt).map (·.1) := by rw [HZ10.out, HTS.out]; simp
              have e2 : z11 = (out ++ [(u, ⟨As, ns, cs⟩, ls)] : List REnt).map (·.2.1) := by rw [HZ11.out, HSS.out]; simp
              have fz : M + 1 ≤ (w11.setCell ⟨M, 1, none⟩ (.slice A11 z11.length cx11)).heap.size := by rw [hs11]; omega
              go_roundg (gk - 1)
              case measure => omega
              case rel => exact ⟨k + 1, true, out ++ [(u, ⟨As, ns, cs⟩, ls)], z10, z11, by omega, by go_num, rfl, nx11, by omega, by omega, fun hx => by first | omega | contradiction, D11, fz, h4, e1, e2⟩
    · obtain rfl : k = N := by omega
      have H2 := H.out.1
      rw [List.drop_of_length_le (Nat.le_of_eq HN.out.symm)] at H2
      have HTS := Lib.hid H.out.2.1
      have HSS := Lib.hid H.out.2.2
      have hMM : w.heap.size + 1 ≠ M := by have := HM.out; omega
      cases a
      · obtain ⟨ha1, ha2⟩ := hal rfl
        have H4 := Lib.hid (H2 : out ++ [(t, (⟨A, nl, c⟩ : Sl), l)] = T)
        clear H2 H hal
        obtain ⟨P1, q1, P2, q2, bk0, oT0, oS0⟩ := nx
        have d0 := bk0.cell 0
        have f0 := bk0.frozen 0
        simp only [List.getElem?_toArray, List.getElem?_cons_zero] at d0
        go_wp2_with (at_builtin; refine wpList_push elem_int rfl (.tmp 73) (.tmp 75) rfl (M + 1) (.slice P1 ts.length q1) ts rfl (oT0.alloc _) (wr.heap.size) t rfl ?p1 ?p2 ?p3 ?p4 ?_)
        case p1 => exact Blk.new _ _ _
        case p2 => omega
        case p3 => omega
        case p4 => first | omega | (simp; omega)
        intro v51 w51 o51 g51 l51
        clear l51
        obtain ⟨z51, hz51⟩ : ∃ y, y = ts ++ [t] := ⟨_, rfl⟩
        rw [← hz51] at o51
        have hzl51 : z51.length ≤ ts.length + 1 := by rw [hz51, List.length_append]; exact Nat.le_refl _
        have HZ51 := Lib.hid hz51
        clear hz51
        have C51 : Below M w0 w51 := (B.alloc (by omega) (.cells #[.int .i64 t] 3)).grown g51 (by simp; omega) (fun k hk => by have := oT0.ge k hk; omega)
        obtain ⟨k51, r51, nx51, A51, cx51, rfl⟩ := next_tick (.cells #[.int .i64 t] 3) bk0 oT0 oS0 o51 g51
        have t51 : M + 1 ≤ w51.heap.size := by have := g51.size; simp at this; omega
        have f51 := k51.frozen 0
        have d51 := k51.cell 0
        simp only [List.getElem?_toArray, List.getElem?_cons_zero] at d51
        have D51 := C51.setCell (p := ⟨M, 0, none⟩) (Nat.le_refl _) (.slice A51 z51.length cx51)
        have hs51 : (w51.setCell ⟨M, 0, none⟩ (.slice A51 z51.length cx51)).heap.size = w51.heap.size := by simp [World.setCell]
        clear g51 k51 o51 r51
        obtain ⟨P1, q1, P2, q2, bk51, oT51, oS51⟩ := nx51
        have dd51 := bk51.cell 1
        simp only [List.getElem?_toArray, List.getElem?_cons_succ, List.getElem?_cons_zero] at dd51
        go_wp2_with (at_builtin; refine wpList_push elem_sl rfl (.tmp 79) (.tmp 81) rfl (M + 1) (.slice P2 ss.length q2) ss rfl (oS51.alloc _) (w51.heap.size) ⟨A, nl, c⟩ rfl ?p1 ?p2 ?p3 ?p4 ?_)
        case p1 => rw [← hs51]; exact Blk.new _ _ _
        case p2 => omega
        case p3 => omega
        case p4 => first | omega | (simp; omega)
        intro v52 w52 o52 g52 l52
        clear l52
        obtain ⟨z52, hz52⟩ : ∃ y, y = ss ++ [⟨A, nl, c⟩] := ⟨_, rfl⟩
        rw [← hz52] at o52
        have hzl52 : z52.length ≤ ss.length + 1 := by rw [hz52, List.length_append]; exact Nat.le_refl _
        have HZ52 := Lib.hid hz52
        clear hz52
        have C52 : Below M w0 w52 := (D51.alloc (by rw [hs51]; omega) (.cells #[.slice A nl c] 30)).grown g52 (by simp [hs51]; omega) (fun k hk => by have := oS51.ge k hk; omega)
        obtain ⟨k52, nx52, A52, cx52, rfl⟩ := next_list (.cells #[.slice A nl c] 30) bk51 oT51 oS51 o52 g52
        have t52 : M + 1 ≤ w52.heap.size := by have := g52.size; simp [hs51] at this; omega
        have f52 := k52.frozen 1
        have d52 := k52.cell 1
        simp only [List.getElem?_toArray, List.getElem?_cons_succ, List.getElem?_cons_zero] at d52
        have D52 := C52.setCell (p := ⟨M, 1, none⟩) (Nat.le_refl _) (.slice A52 z52.length cx52)
        have hs52 : (w52.setCell ⟨M, 1, none⟩ (.slice A52 z52.length cx52)).heap.size = w52.heap.size := by simp [World.setCell]
        clear g52 k52 o52 
        obtain ⟨P1, q1, P2, q2, bz, oTz, oSz⟩ := nx52
        have b9 := hB.out.below D52 (by have := HM.out; omega)
        have z0 := bz.cell 0
        have z1 := bz.cell 1
        have z2 := bz.cell 2
        have u0 := b9.cell 0
        have u1 := b9.cell 1
        have u2 := b9.cell 2
        have f0 := b9.frozen 0
        have f1 := b9.frozen 1
        have f2 := b9.frozen 2
        simp only [List.getElem?_toArray, List.getElem?_cons_succ, List.getElem?_cons_zero] at z0 z1 z2 u0 u1 u2
        go_wp2_with fail
        have kZ := ((b9.put 0 (.slice P1 z51.length q1)).put 1 (.slice P2 z52.length q2)).put 2 (.int .i64 bd)
        have nT := oTz.ne b9 (by decide)
        have nS := oSz.ne b9 (by decide)
        have oT9 := ((oTz.far (p := ⟨w.heap.size + 1, 0, none⟩) nT (.slice P1 z51.length q1)).far (p := ⟨w.heap.size + 1, 1, none⟩) nT (.slice P2 z52.length q2)).far (p := ⟨w.heap.size + 1, 2, none⟩) nT (.int .i64 bd)
        have oS9 := ((oSz.far (p := ⟨w.heap.size + 1, 0, none⟩) nS (.slice P1 z51.length q1)).far (p := ⟨w.heap.size + 1, 1, none⟩) nS (.slice P2 z52.length q2)).far (p := ⟨w.heap.size + 1, 2, none⟩) nS (.int .i64 bd)
        have BZ := (((B0.trans (D52.mono (by omega))).setCell (p := ⟨w.heap.size + 1, 0, none⟩) (by simp) (.slice P1 z51.length q1)).setCell (p := ⟨w.heap.size + 1, 1, none⟩) (by simp) (.slice P2 z52.length q2)).setCell (p := ⟨w.heap.size + 1, 2, none⟩) (by simp) (.int .i64 bd)
        have e1 : z51 = T.map (·.1) := by rw [← H4.out]; rw [HZ51.out, HTS.out]; simp [showF]
        have e2 : z52 = T.map (·.2.1) := by rw [← H4.out]; rw [HZ52.out, HSS.out]; simp [showF]
        have RR := ref_done HT.out e1 e2 oT9 oS9 h.rows HRL.out BZ
        clear e1 e2 oT9 oS9
        generalize ((((w52.setCell ⟨M, 1, none⟩ (.slice A52 z52.length cx52)).setCell ⟨w.heap.size + 1, 0, none⟩ (.slice P1 z51.length q1)).setCell ⟨w.heap.size + 1, 1, none⟩ (.slice P2 z52.length q2)).setCell ⟨w.heap.size + 1, 2, none⟩ (.int .i64 bd)) = wz at *
        have y0 := kZ.cell 0
        have y1 := kZ.cell 1
        have y2 := kZ.cell 2
        simp only [List.setIfInBounds_toArray, List.set_cons_zero, List.set_cons_succ, List.getElem?_toArray, List.getElem?_cons_succ, List.getElem?_cons_zero] at y0 y1 y2
        exact bodyPost_ret (v := .agg #[.slice P1 z51.length q1, .slice P2 z52.length q2, .int .i64 bd]) (by simp [results, Try.results20, go_sem, y0, y1, y2]) rfl ⟨_, _, rfl, RR, BZ⟩
      · have H4 := Lib.hid (by simpa [showF] using H2 : out = T)
        clear H2 H hal
        obtain ⟨P1, q1, P2, q2, bz, oTz, oSz⟩ := nx
        have b9 := hB.out.below B (by have := HM.out; omega)
        have z0 := bz.cell 0
        have z1 := bz.cell 1
        have z2 := bz.cell 2
        have u0 := b9.cell 0
        have u1 := b9.cell 1
        have u2 := b9.cell 2
        have f0 := b9.frozen 0
        have f1 := b9.frozen 1
        have f2 := b9.frozen 2
        simp only [List.getElem?_toArray, List.getElem?_cons_succ, List.getElem?_cons_zero] at z0 z1 z2 u0 u1 u2
        go_wp2_with fail
        have kZ := ((b9.put 0 (.slice P1 ts.length q1)).put 1 (.slice P2 ss.length q2)).put 2 (.int .i64 bd)
        have nT := oTz.ne b9 (by decide)
        have nS := oSz.ne b9 (by decide)
        have oT9 := ((oTz.far (p := ⟨w.heap.size + 1, 0, none⟩) nT (.slice P1 ts.length q1)).far (p := ⟨w.heap.size + 1, 1, none⟩) nT (.slice P2 ss.length q2)).far (p := ⟨w.heap.size + 1, 2, none⟩) nT (.int .i64 bd)
        have oS9 := ((oSz.far (p := ⟨w.heap.size + 1, 0, none⟩) nS (.slice P1 ts.length q1)).far (p := ⟨w.heap.size + 1, 1, none⟩) nS (.slice P2 ss.length q2)).far (p := ⟨w.heap.size + 1, 2, none⟩) nS (.int .i64 bd)
        have BZ := (((B0.trans (B.mono (by omega))).setCell (p := ⟨w.heap.size + 1, 0, none⟩) (by simp) (.slice P1 ts.length q1)).setCell (p := ⟨w.heap.size + 1, 1, none⟩) (by simp) (.slice P2 ss.length q2)).setCell (p := ⟨w.heap.size + 1, 2, none⟩) (by simp) (.int .i64 bd)
        have e1 : ts = T.map (·.1) := by rw [← H4.out]; exact HTS.out
        have e2 : ss = T.map (·.2.1) := by rw [← H4.out]; exact HSS.out
        have RR := ref_done HT.out e1 e2 oT9 oS9 h.rows HRL.out BZ
        clear e1 e2 oT9 oS9
        generalize (((wr.setCell ⟨w.heap.size + 1, 0, none⟩ (.slice P1 ts.length q1)).setCell ⟨w.heap.size + 1, 1, none⟩ (.slice P2 ss.length q2)).setCell ⟨w.heap.size + 1, 2, none⟩ (.int .i64 bd)) = wz at *
        have y0 := kZ.cell 0
        have y1 := kZ.cell 1
        have y2 := kZ.cell 2
        simp only [List.setIfInBounds_toArray, List.set_cons_zero, List.set_cons_succ, List.getElem?_toArray, List.getElem?_cons_succ, List.getElem?_cons_zero] at y0 y1 y2
        exact bodyPost_ret (v := .agg #[.slice P1 ts.length q1, .slice P2 ss.length q2, .int .i64 bd]) (by simp [results, Try.results20, go_sem, y0, y1, y2]) rfl ⟨_, _, rfl, RR, BZ⟩
end Go.Proofs.Ytlmmhgbbfmocaaa
