/- The document's example, walked; the board's contracts in the form that the laws use. -/
import Derived.Test.YtlmmhgbbfmocaaaRefShow
import Derived.Test.YtlmmhgbbfmocaaaDiffR
namespace Go.Proofs.Ytlmmhgbbfmocaaa
open Go.RowKit

/-- show_ok, its outcome named. -/
theorem show_named (g m : Nat) (W : List (Int × Ent)) (bd tick : Int) (v : Value) (l d1 d2 : List Eff) (w : World) (h : BoardAt w g m W bd) (hW : WOk W) (r : Row effE w v l) (ko : OkAll l) (hw : wrong bd tick l = 0)
    (h1 : d1 = diff l (old tick W).2) (h2 : d2 = diff (old tick W).2 l) :
    Calls Try.prog 17 #[.pointer (some ⟨g, 0, none⟩), .int .i64 tick, v] w fun e w' => ∃ A1 c1 A2 c2 vc B, e = .returned (.tuple #[.slice A1 d1.length c1, .slice A2 d2.length c2, .int .i64 0]) ∧
      BoardAt w' g m (mput tick (vc, l) W) bd ∧ Own effE w' B (.slice A1 d1.length c1) d1 ∧ Own effE w' B (.slice A2 d2.length c2) d2 ∧ w.heap.size ≤ B ∧ (∀ k, vc.ownBlock = some k → w.heap.size ≤ k ∧ k < B) ∧ Upd [m] w w' := by
  subst h1 h2
  refine (show_ok g m W bd tick v l w h hW r ko hw).mono ?_
  rintro e w' ⟨v1, v2, vc, B, rfl, hb, o1, o2, hB, hv, hu⟩
  obtain ⟨A1, c1, rfl, _⟩ := o1.slice
  obtain ⟨A2, c2, rfl, _⟩ := o2.slice
  exact ⟨A1, c1, A2, c2, vc, B, rfl, hb, o1, o2, hB, hv, hu⟩

/-- A slice that has just been laid. -/
theorem Row.made {α : Type} {E : Enc α} {w : World} {g : Nat} {l : List α} (hb : Blk w g E.T (E.all l).toArray) : Row E w (.slice (some ⟨g, 0, none⟩) l.length l.length) l :=
  ⟨_, _, rfl, Nat.le_refl _, .inr ⟨g, 0, _, rfl, hb, fun j u hu => by rw [Nat.zero_add, List.getElem?_toArray]; exact hu⟩⟩

/-- Same, where it says yes. -/
theorem same_yes (v1 v2 : Value) (xs : List Eff) (w : World) (h1 : Row effE w v1 xs) (h2 : Row effE w v2 xs) (l1 : xs.length ≤ 140737488355328) :
    Calls Try.prog 14 #[v1, v2] w fun e w' => e = .returned (.bool true) ∧ Below w.heap.size w w' := by
  refine (same_calls v1 v2 xs xs w h1 h2 l1 l1).mono ?_
  rintro e w' ⟨rfl, hb⟩
  exact ⟨by rw [decide_eq_true rfl], hb⟩
theorem WOk.nil : WOk [] := ⟨by simp, fun p hp => by cases hp⟩
theorem WOk.put {W : List (Int × Ent)} (h : WOk W) (hl : W.length ≤ 900) {t : Int} {e : Ent} (h1 : e.2.length ≤ 40) (h2 : OkAll e.2) (h3 : i64 t) : WOk (mput t e W) :=
  ⟨by have := length_mput t e W; omega, fun p hp => by
    rcases (mem_mput t e W p).1 hp with rfl | ⟨hp, _⟩
    · exact ⟨h1, h2, h3⟩
    · exact h.each p hp⟩

def ea : Eff := ⟨3, 0, 1, 0⟩
def eb : Eff := ⟨3, 0, 2, 0⟩
def ec : Eff := ⟨3, 0, 3, 0⟩
theorem ok_abc : OkAll [ea, ea, eb] ∧ OkAll [ea, ec] := by
  have h : ea.Ok ∧ eb.Ok ∧ ec.Ok := by refine ⟨⟨?_, ?_, ?_, ?_⟩, ⟨?_, ?_, ?_, ?_⟩, ⟨?_, ?_, ?_, ?_⟩⟩ <;> exact ⟨by decide, by decide⟩
  exact ⟨(((OkAll.nil.cons h.2.1).cons h.1).cons h.1), (OkAll.nil.cons h.2.2).cons h.1⟩

set_option maxHeartbeats 4000000 in
set_option maxRecDepth 100000 in
theorem lives_calls (w : World) : Calls Try.prog 23 #[] w fun e w' => e = .returned (.bool true) ∧ Below w.heap.size w w' := by
  go_enter Try.func23, Try.ntmps23
  go_wp2_with fail
  have b0 := (((Below.refl w.heap.size w).alloc (Nat.le_refl _) (.cells #[.int .i64 3, .int .i64 0, .int .i64 1, .int .i64 0] 51)).alloc (by simp) (.cells #[.int .i64 3, .int .i64 0, .int .i64 2, .int .i64 0] 51)).alloc (by simp; omega) (.cells #[.int .i64 3, .int .i64 0, .int .i64 3, .int .i64 0] 51)
  have ka := ((Blk.new w 51 #[.int .i64 3, .int .i64 0, .int .i64 1, .int .i64 0]).alloc (.cells #[.int .i64 3, .int .i64 0, .int .i64 2, .int .i64 0] 51)).alloc (.cells #[.int .i64 3, .int .i64 0, .int .i64 3, .int .i64 0] 51)
  have kb := (Blk.new1 w (.cells #[.int .i64 3, .int .i64 0, .int .i64 1, .int .i64 0] 51) 51 #[.int .i64 3, .int .i64 0, .int .i64 2, .int .i64 0]).alloc (.cells #[.int .i64 3, .int .i64 0, .int .i64 3, .int .i64 0] 51)
  have kc : Blk _ (w.heap.size + 1 + 1) _ _ := Blk.new2 w (.cells #[.int .i64 3, .int .i64 0, .int .i64 1, .int .i64 0] 51) (.cells #[.int .i64 3, .int .i64 0, .int .i64 2, .int .i64 0] 51) 51 #[.int .i64 3, .int .i64 0, .int .i64 3, .int .i64 0]
  have s0 : (((w.alloc (.cells #[.int .i64 3, .int .i64 0, .int .i64 1, .int .i64 0] 51)).alloc (.cells #[.int .i64 3, .int .i64 0, .int .i64 2, .int .i64 0] 51)).alloc (.cells #[.int .i64 3, .int .i64 0, .int .i64 3, .int .i64 0] 51)).heap.size = w.heap.size + 3 := by simp
  generalize (((w.alloc (.cells #[.int .i64 3, .int .i64 0, .int .i64 1, .int .i64 0] 51)).alloc (.cells #[.int .i64 3, .int .i64 0, .int .i64 2, .int .i64 0] 51)).alloc (.cells #[.int .i64 3, .int .i64 0, .int .i64 3, .int .i64 0] 51)) = w0 at *
  have HS0 := Lib.hid s0
  have s0' : w.heap.size + 3 ≤ w0.heap.size := by omega
  clear s0
  refine (new_calls w0).mono ?_
  rintro e w1 ⟨rfl, B1, b1⟩
  obtain ⟨m, hm⟩ : ∃ m, m = w0.heap.size := ⟨_, rfl⟩
  rw [← hm] at B1 ⊢
  have HM := Lib.hid hm
  have hmw : w.heap.size + 3 ≤ m := by omega
  clear hm
  have s1 := b1.size
  have ka1 := ka.below' b1
  have kb1 := kb.below' b1
  have kc1 := kc.below' b1
  have HA := Lib.hid ka1
  have HB := Lib.hid kb1
  have HC := Lib.hid kc1
  have BB1 := b0.trans (b1.mono (by omega))
  -- the three effects' cells in every later world
  have HS := Lib.hid (fun (X : World) (hX : Upd [m + 1, m] w1 X) => (⟨HA.out.upd hX (by simp; omega), HB.out.upd hX (by simp; omega), HC.out.upd hX (by simp; omega)⟩ :
    Blk X w.heap.size 51 #[.int .i64 3, .int .i64 0, .int .i64 1, .int .i64 0] ∧ Blk X (w.heap.size + 1) 51 #[.int .i64 3, .int .i64 0, .int .i64 2, .int .i64 0] ∧ Blk X (w.heap.size + 1 + 1) 51 #[.int .i64 3, .int .i64 0, .int .i64 3, .int .i64 0]))
  have a0 := ka1.cell 0
  have a1 := ka1.cell 1
  have a2 := ka1.cell 2
  have a3 := ka1.cell 3
  have c0 := kb1.cell 0
  have c1 := kb1.cell 1
  have c2 := kb1.cell 2
  have c3 := kb1.cell 3
  simp only [List.getElem?_toArray, List.getElem?_cons_succ, List.getElem?_cons_zero] at a0 a1 a2 a3 c0 c1 c2 c3
  clear ka kb kc ka1 kb1 kc1 b0
  go_wp2_with fail
  have r1 : Row effE (w1.alloc (.cells #[.int .i64 3, .int .i64 0, .int .i64 1, .int .i64 0, .int .i64 3, .int .i64 0, .int .i64 1, .int .i64 0, .int .i64 3, .int .i64 0, .int .i64 2, .int .i64 0] 51)) (.slice (some ⟨w1.heap.size, 0, none⟩) 3 3) [ea, ea, eb] := Row.made (l := [ea, ea, eb]) (Blk.new w1 _ _)
  refine (show_named (m + 1) m [] 0 3 _ [ea, ea, eb] [ea, ea, eb] [] _ (B1.below' ((Below.refl _ _).alloc (Nat.le_refl _) _)) WOk.nil r1 ok_abc.1 (by decide) (by decide) (by decide)).mono ?_
  rintro e w2 ⟨A1, q1, A2, q2, vc, X1, rfl, B2, o1, o2, hX1, hv1, u2⟩
  have U2 : Upd [m + 1, m] w1 w2 := ((Upd.refl _ w1).alloc _).trans' u2 (fun i hi => .inl (by simp at hi; simp [hi]))
  simp only [List.length_cons, List.length_nil, Nat.zero_add, Nat.reduceAdd] at o1 o2 ⊢
  obtain ⟨ta, tb, tc⟩ := HS.out w2 U2
  have a0 := ta.cell 0
  have a1 := ta.cell 1
  have a2 := ta.cell 2
  have a3 := ta.cell 3
  have d0 := tc.cell 0
  have d1 := tc.cell 1
  have d2 := tc.cell 2
  have d3 := tc.cell 3
  simp only [List.getElem?_toArray, List.getElem?_cons_succ, List.getElem?_cons_zero] at a0 a1 a2 a3 d0 d1 d2 d3
  have rr1 := o1.row
  clear r1 hX1 hv1 u2 o1 o2 ta tb tc c0 c1 c2 c3
  go_wp2_with fail
  have r2 : Row effE (w2.alloc (.cells #[.int .i64 3, .int .i64 0, .int .i64 1, .int .i64 0, .int .i64 3, .int .i64 0, .int .i64 3, .int .i64 0] 51)) (.slice (some ⟨w2.heap.size, 0, none⟩) 2 2) [ea, ec] := Row.made (l := [ea, ec]) (Blk.new w2 _ _)
  have hW1 : WOk (mput 3 (vc, [ea, ea, eb]) []) := WOk.nil.put (by simp) (by simp) ok_abc.1 ⟨by omega, by omega⟩
  refine (show_named (m + 1) m (mput 3 (vc, [ea, ea, eb]) []) 0 3 _ [ea, ec] [ec] [ea, eb] _ (B2.below' ((Below.refl _ _).alloc (Nat.le_refl _) _)) hW1 r2 ok_abc.2 (by decide) (by show [ec] = diff [ea, ec] [ea, ea, eb]; decide) (by show [ea, eb] = diff [ea, ea, eb] [ea, ec]; decide)).mono ?_
  rintro e w3 ⟨A3, q3, A4, q4, vd, X2, rfl, B3, o3, o4, hX2, hv2, u3⟩
  have U3 : Upd [m + 1, m] w1 w3 := (U2.alloc _).trans' u3 (fun i hi => .inl (by simp at hi; simp [hi]))
  simp only [List.length_cons, List.length_nil, Nat.zero_add, Nat.reduceAdd] at o3 o4 ⊢
  have hW2 : WOk (mput 3 (vd, [ea, ec]) (mput 3 (vc, [ea, ea, eb]) [])) := hW1.put (by show 1 ≤ 900; omega) (by simp) ok_abc.2 ⟨by omega, by omega⟩
  have hT : takeL 4 (mput 3 (vd, [ea, ec]) (mput 3 (vc, [ea, ea, eb]) [])) = [ea, ec] := rfl
  have HT := Lib.hid hT
  have HW2 := Lib.hid hW2
  have r3 := o3.row
  have r4 := o4.row
  have HB3 := Lib.hid B3
  clear r2 hX2 hv2 u3 o3 o4 hT hW1 hW2 rr1 B1 B2 a0 a1 a2 a3 d0 d1 d2 d3
  have HC12 := Lib.hid (fun (X : World) (hX : Upd [m + 1, m] w1 X) => (⟨(HS.out X hX).1.cell 0, (HS.out X hX).1.cell 1, (HS.out X hX).1.cell 2, (HS.out X hX).1.cell 3, (HS.out X hX).2.1.cell 0, (HS.out X hX).2.1.cell 1, (HS.out X hX).2.1.cell 2, (HS.out X hX).2.1.cell 3, (HS.out X hX).2.2.cell 0, (HS.out X hX).2.2.cell 1, (HS.out X hX).2.2.cell 2, (HS.out X hX).2.2.cell 3⟩ :
    X.cell? ⟨w.heap.size, 0, none⟩ = some (.int .i64 3) ∧ X.cell? ⟨w.heap.size, 1, none⟩ = some (.int .i64 0) ∧ X.cell? ⟨w.heap.size, 2, none⟩ = some (.int .i64 1) ∧ X.cell? ⟨w.heap.size, 3, none⟩ = some (.int .i64 0) ∧
    X.cell? ⟨w.heap.size + 1, 0, none⟩ = some (.int .i64 3) ∧ X.cell? ⟨w.heap.size + 1, 1, none⟩ = some (.int .i64 0) ∧ X.cell? ⟨w.heap.size + 1, 2, none⟩ = some (.int .i64 2) ∧ X.cell? ⟨w.heap.size + 1, 3, none⟩ = some (.int .i64 0) ∧
    X.cell? ⟨w.heap.size + 1 + 1, 0, none⟩ = some (.int .i64 3) ∧ X.cell? ⟨w.heap.size + 1 + 1, 1, none⟩ = some (.int .i64 0) ∧ X.cell? ⟨w.heap.size + 1 + 1, 2, none⟩ = some (.int .i64 3) ∧ X.cell? ⟨w.heap.size + 1 + 1, 3, none⟩ = some (.int .i64 0)))
  have K1 := Lib.hid (fun (X : World) (h1 : Row effE X (.slice A3 1 q3) [ec]) (g : Nat) (h2 : Row effE X (.slice (some ⟨g, 0, none⟩) 1 1) [ec]) => same_yes _ _ _ X h1 h2 (by decide))
  have K2 := Lib.hid (fun (X : World) (h1 : Row effE X (.slice A4 2 q4) [ea, eb]) (g : Nat) (h2 : Row effE X (.slice (some ⟨g, 0, none⟩) 2 2) [ea, eb]) => same_yes _ _ _ X h1 h2 (by decide))
  have u3 := U3.drew
  have KF := Lib.hid (fun (X : World) (hX : BoardAt X (m + 1) m (mput 3 (vd, [ea, ec]) (mput 3 (vc, [ea, ea, eb]) [])) 0) => ((confirm_calls (m + 1) m _ 0 4 X hX HW2.out ⟨by omega, by omega⟩ (by omega)).mono (fun e w' h => by
    obtain ⟨v, rfl, o, _, u⟩ := h
    rw [HT.out] at o
    obtain ⟨A5, q5, rfl, _⟩ := o.slice
    exact ⟨A5, q5, rfl, o.row, u⟩) : Calls Try.prog 15 #[.pointer (some ⟨m + 1, 0, none⟩), .int .i64 4] X (fun e w' => ∃ A5 q5, e = .returned (.slice A5 2 q5) ∧ Row effE w' (.slice A5 2 q5) [ea, ec] ∧ Upd [m + 1, m] X w')))
  have mk1 : Row effE (w3.alloc (.cells #[.int .i64 3, .int .i64 0, .int .i64 3, .int .i64 0] 51)).drew (.slice (some ⟨w3.heap.size, 0, none⟩) 1 1) [ec] := Row.made (E := effE) (l := [ec]) (Blk.new w3 51 #[.int .i64 3, .int .i64 0, .int .i64 3, .int .i64 0]).drew
  have K3 := Lib.hid (fun (X : World) (q5 : Nat) (A5 : Option Addr) (h1 : Row effE X (.slice A5 2 q5) [ea, ec]) (g : Nat) (h2 : Row effE X (.slice (some ⟨g, 0, none⟩) 2 2) [ea, ec]) => same_yes _ _ _ X h1 h2 (by decide))
  have r4' := ((r4.alloc (.cells #[.int .i64 3, .int .i64 0, .int .i64 3, .int .i64 0] 51)).drew)
  have b3' : Below w3.heap.size w3 ((w3.alloc (.cells #[.int .i64 3, .int .i64 0, .int .i64 3, .int .i64 0] 51)).drew) := ((Below.refl _ _).alloc (Nat.le_refl _) _).drew
  go_wp2_with fail
  go_region_held3 (fun X => X.cell? ⟨w.heap.size, 0, none⟩ = some (.int .i64 3) ∧ X.cell? ⟨w.heap.size, 1, none⟩ = some (.int .i64 0) ∧ X.cell? ⟨w.heap.size, 2, none⟩ = some (.int .i64 1) ∧ X.cell? ⟨w.heap.size, 3, none⟩ = some (.int .i64 0) ∧
    X.cell? ⟨w.heap.size + 1, 0, none⟩ = some (.int .i64 3) ∧ X.cell? ⟨w.heap.size + 1, 1, none⟩ = some (.int .i64 0) ∧ X.cell? ⟨w.heap.size + 1, 2, none⟩ = some (.int .i64 2) ∧ X.cell? ⟨w.heap.size + 1, 3, none⟩ = some (.int .i64 0) ∧
    X.cell? ⟨w.heap.size + 1 + 1, 0, none⟩ = some (.int .i64 3) ∧ X.cell? ⟨w.heap.size + 1 + 1, 1, none⟩ = some (.int .i64 0) ∧ X.cell? ⟨w.heap.size + 1 + 1, 2, none⟩ = some (.int .i64 3) ∧ X.cell? ⟨w.heap.size + 1 + 1, 3, none⟩ = some (.int .i64 0))
    (first | exact HC12.out _ u3 | exact HC12.out _ (u3.alloc _) | exact HC12.out _ u4 | exact HC12.out _ (u4.alloc _) | exact HC12.out _ u5 | exact HC12.out _ (u5.alloc _) | exact HC12.out _ U6 | exact HC12.out _ (U6.alloc _) | exact HC12.out _ U7 | go_keep)
    (first
      | (go_at_call 14; (with_reducible refine (K1.out _ (by exact (r3.alloc _).drew) _ (by exact mk1)).mono ?_); rintro e w4 ⟨rfl, b4⟩; have B4 := b3'.trans (b4.mono b3'.size); have u4 := U3.new B4; have r44 := (r4'.below' b4).alloc (.cells #[.int .i64 3, .int .i64 0, .int .i64 1, .int .i64 0, .int .i64 3, .int .i64 0, .int .i64 2, .int .i64 0] 51); have mk2 : Row effE (w4.alloc (.cells #[.int .i64 3, .int .i64 0, .int .i64 1, .int .i64 0, .int .i64 3, .int .i64 0, .int .i64 2, .int .i64 0] 51)) (.slice (some ⟨w4.heap.size, 0, none⟩) 2 2) [ea, eb] := Row.made (E := effE) (l := [ea, eb]) (Blk.new w4 _ _))
      | (go_at_call 14; (with_reducible refine (K2.out _ (by exact r44) _ (by exact mk2)).mono ?_); rintro e w5 ⟨rfl, b5⟩; have B5 := (B4.alloc B4.size (.cells #[.int .i64 3, .int .i64 0, .int .i64 1, .int .i64 0, .int .i64 3, .int .i64 0, .int .i64 2, .int .i64 0] 51)).trans (b5.mono (by have := B4.size; simp; omega)); have u5 := U3.new B5; have hb5 := HB3.out.below' B5; have hb5a := hb5.below' ((Below.refl _ _).alloc (Nat.le_refl _) (.cells #[.int .i64 3, .int .i64 0, .int .i64 1, .int .i64 0, .int .i64 3, .int .i64 0, .int .i64 3, .int .i64 0] 51)); have mk5 : Row effE (w5.alloc (.cells #[.int .i64 3, .int .i64 0, .int .i64 1, .int .i64 0, .int .i64 3, .int .i64 0, .int .i64 3, .int .i64 0] 51)) (.slice (some ⟨w5.heap.size, 0, none⟩) 2 2) [ea, ec] := Row.made (E := effE) (l := [ea, ec]) (Blk.new w5 _ _))
      | (go_at_call 15; (with_reducible refine (KF.out _ (by first | exact hb5 | exact hb5a)).mono ?_); rintro e w6 ⟨A5, q5, rfl, r5, u6⟩; (first | (have U6 : Upd [m + 1, m] w1 w6 := u5.trans u6; have r56 := r5.alloc (.cells #[.int .i64 3, .int .i64 0, .int .i64 1, .int .i64 0, .int .i64 3, .int .i64 0, .int .i64 3, .int .i64 0] 51); have mk3 : Row effE (w6.alloc (.cells #[.int .i64 3, .int .i64 0, .int .i64 1, .int .i64 0, .int .i64 3, .int .i64 0, .int .i64 3, .int .i64 0] 51)) (.slice (some ⟨w6.heap.size, 0, none⟩) 2 2) [ea, ec] := Row.made (E := effE) (l := [ea, ec]) (Blk.new w6 _ _)) | (have U6 : Upd [m + 1, m] w1 w6 := (u5.alloc _).trans u6; have r56 := r5; have mk3 : Row effE w6 (.slice (some ⟨w5.heap.size, 0, none⟩) 2 2) [ea, ec] := mk5.upd u6 (hb5a.apart mk5))))
      | (go_at_call 14; (with_reducible refine (K3.out _ _ _ (by exact r56) _ (by exact mk3)).mono ?_); rintro e w7 ⟨rfl, b7⟩; (first | (have U7 : Upd [m + 1, m] w1 w7 := U6.new b7) | (have U7 : Upd [m + 1, m] w1 w7 := (U6.alloc _).new b7))))
  all_goals
    go_wp2_with fail
    go_ret
    exact ⟨rfl, BB1.trans (U7.below (by omega) (fun i hi => by simp at hi; omega))⟩
end Go.Proofs.Ytlmmhgbbfmocaaa
