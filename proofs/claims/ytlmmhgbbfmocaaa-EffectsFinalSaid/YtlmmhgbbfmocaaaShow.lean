/- Show of the board. -/
import Derived.Test.YtlmmhgbbfmocaaaLib
namespace Go.Proofs.Ytlmmhgbbfmocaaa
open Go.RowKit

/-- The error that Show reports. -/
def wrong (bd tick : Int) (l : List Eff) : Nat :=
  if tick < 0 ∨ 6000 ≤ tick then 18 else if tick < bd then 20 else if 40 < l.length then 2 else if (l.any fun x => x.tick != tick) = true then 1 else 0

set_option maxHeartbeats 2000000 in
theorem show_wrong (g m : Nat) (W : List (Int × Ent)) (bd tick : Int) (v : Value) (l : List Eff) (w : World) (h : BoardAt w g m W bd) (r : Row effE w v l) (_ht : i64 tick) (hl : l.length ≤ 1000000) (hw : wrong bd tick l ≠ 0) :
    Calls Try.prog 17 #[.pointer (some ⟨g, 0, none⟩), .int .i64 tick, v] w fun e w' => e = .returned (.tuple #[.slice none 0 0, .slice none 0 0, .int .i64 (wrong bd tick l : Nat)]) ∧ Below w.heap.size w w' := by
  obtain ⟨A, c, rfl, hc⟩ := r.slice
  have d1 := h.blk.cell 1
  simp only [List.getElem?_toArray, List.getElem?_cons_succ, List.getElem?_cons_zero] at d1
  have hgl := h.blk.lt
  have hgn : g ≠ w.heap.size := by omega
  have hll : ((l.length : Int)) ≤ 1000000 := by omega
  by_cases h1 : tick < 0
  · rw [show wrong bd tick l = 18 from if_pos (.inl h1)]
    go_enter Try.func17, Try.ntmps17
    go_wp2_with fail
    go_ret3
    exact ⟨rfl, (Below.refl _ _).alloc (Nat.le_refl _) _⟩
  by_cases h2 : 6000 ≤ tick
  · rw [show wrong bd tick l = 18 from if_pos (.inr h2)]
    go_enter Try.func17, Try.ntmps17
    go_wp2_with fail
    go_ret3
    exact ⟨rfl, (Below.refl _ _).alloc (Nat.le_refl _) _⟩
  have h12 : ¬ (tick < 0 ∨ 6000 ≤ tick) := by omega
  by_cases h3 : tick < bd
  · rw [show wrong bd tick l = 20 by unfold wrong; rw [if_neg h12, if_pos h3]]
    clear h12
    go_enter Try.func17, Try.ntmps17
    go_wp2_with fail
    go_quiet (fail)
    go_wp2_with fail
    go_ret3
    exact ⟨rfl, below_drewN ((Below.refl _ _).alloc (Nat.le_refl _) _) _⟩
  by_cases h4 : 40 < l.length
  · rw [show wrong bd tick l = 2 by unfold wrong; rw [if_neg h12, if_neg h3, if_pos h4]]
    clear h12
    have h4' : (40 : Int) < l.length := by omega
    go_enter Try.func17, Try.ntmps17
    go_wp2_with fail
    go_quiet (fail)
    go_wp2_with fail
    go_ret3
    exact ⟨rfl, below_drewN ((Below.refl _ _).alloc (Nat.le_refl _) _) _⟩
  have h4' : ¬ (40 : Int) < l.length := by omega
  by_cases h5 : (l.any fun x => x.tick != tick) = true
  · rw [show wrong bd tick l = 1 by unfold wrong; rw [if_neg h12, if_neg h3, if_neg h4, if_pos h5]]
    clear h12
    have H5 := Lib.hid h5
    clear h5
    go_enter Try.func17, Try.ntmps17
    go_wp2_with fail
    go_quiet (fail)
    go_wp2_with fail
    refine (contains_calls _ l w.heap.size tick _ ((r.alloc _).drewN _) hl (by simp)).mono ?_
    rintro e w1 ⟨rfl, b1⟩
    rw [H5.out]
    go_wp2_with fail
    go_ret3
    exact ⟨rfl, (below_drewN ((Below.refl _ _).alloc (Nat.le_refl _) _) _).trans (b1.mono (by simp))⟩
  · exact absurd (by unfold wrong; rw [if_neg h12, if_neg h3, if_neg h4, if_neg h5]) hw
/-- A store into a map as a step of a region that draws its order, its run known. -/
theorem step_mapUpdate {P : Program} {ops : Array Oper} {o : Oper} {a : Act} {w w' : World} {K : Act → World → Prop} {Q : Exit → Act → World → Prop} {E0 : Prop} (hgd : o.guard = none) (t : TypeId) (m x v : Operand) (hop : o.op = Op.mapUpdate t m x v)
    (mv xv vv : Value) (hm : a.eval m = mv) (hx : a.eval x = xv) (hv : a.eval v = vv) (hrun : (Instr.mapUpdate t mv xv vv).run P w = .ok () w') (k : K (a.put o.dst undef) w') :
    if Region.wanted o (yielded ops a.tmps) = true then Oper.wp P o a w K Q else E0 := by
  have hw : Region.wanted o (yielded ops a.tmps) = true := by simp [Region.wanted, hgd]
  rw [if_pos hw]
  unfold Oper.wp
  simp [execOp, hop, hm, hx, hv, hrun, Result.andThen]
  exact k

theorem grown_cell {w w' : World} {m : Nat} {p : Addr} (h : w.grownBy w' (some m)) (hl : p.block < w.heap.size) (hn : p.block ≠ m) : w'.cell? p = w.cell? p :=
  World.cell?_of_block (h.block _ hl (fun e => hn (by injection e)))
theorem wrong_zero {bd tick : Int} {l : List Eff} (h : wrong bd tick l = 0) : 0 ≤ tick ∧ tick < 6000 ∧ bd ≤ tick ∧ l.length ≤ 40 ∧ (l.any fun x => x.tick != tick) = false := by
  unfold wrong at h
  split at h
  · cases h
  · split at h
    · cases h
    · split at h
      · cases h
      · split at h
        · cases h
        · rename_i h1 h2 h3 h4
          exact ⟨by omega, by omega, by omega, by omega, by simpa using h4⟩

set_option maxHeartbeats 2000000 in
theorem show_ok (g m : Nat) (W : List (Int × Ent)) (bd tick : Int) (v : Value) (l : List Eff) (w : World) (h : BoardAt w g m W bd) (hW : WOk W) (r : Row effE w v l) (ko : OkAll l) (hw : wrong bd tick l = 0) :
    Calls Try.prog 17 #[.pointer (some ⟨g, 0, none⟩), .int .i64 tick, v] w fun e w' => ∃ v1 v2 vc B, e = .returned (.tuple #[v1, v2, .int .i64 0]) ∧
      BoardAt w' g m (mput tick (vc, l) W) bd ∧ Own effE w' B v1 (diff l (old tick W).2) ∧ Own effE w' B v2 (diff (old tick W).2 l) ∧ w.heap.size ≤ B ∧ (∀ k, vc.ownBlock = some k → w.heap.size ≤ k ∧ k < B) ∧ Upd [m] w w' := by
  obtain ⟨A, c, rfl, hc⟩ := r.slice
  obtain ⟨ht0, ht1, h3, h4, h5⟩ := wrong_zero hw
  have d0 := h.blk.cell 0
  have d1 := h.blk.cell 1
  simp only [List.getElem?_toArray, List.getElem?_cons_succ, List.getElem?_cons_zero] at d0 d1
  have hgl := h.blk.lt
  have hml := h.map.lt
  have hgn : g ≠ w.heap.size := by omega
  have hti : i64 tick := ⟨by omega, by omega⟩
  have hll : ¬ (40 : Int) < l.length := by omega
  have h1 : ¬ tick < 0 := by omega
  have h2 : ¬ 6000 ≤ tick := by omega
  have h3' : ¬ tick < bd := by omega
  have H5 := Lib.hid h5
  have HH := Lib.hid h
  have HW := Lib.hid hW
  have HK := Lib.hid ko
  have hor := h.old_row tick
  have hLL := fun n => (h.map.drewN n).look hti
  have holk : (old tick W).2.length ≤ 40 ∧ OkAll (old tick W).2 := by
    unfold old
    cases hg : mget tick W with
    | none => exact ⟨by simp, OkAll.nil⟩
    | some e => exact ⟨(hW.each _ (mget_mem hg)).1, (hW.each _ (mget_mem hg)).2.1⟩
  have HO := Lib.hid holk.2
  obtain ⟨hol, -⟩ := holk
  obtain ⟨ov, hov⟩ : ∃ ov, ov = old tick W := ⟨_, rfl⟩
  rw [← hov] at hor hol HO
  have HOV := Lib.hid hov
  obtain ⟨oa, ol⟩ := ov
  simp only at hor hol HO
  obtain ⟨Ao, co, rfl, hco⟩ := hor.slice
  have HX := Lib.hid (by rw [← hov]; exact ⟨rfl, rfl⟩ : (old tick W).1 = .slice Ao ol.length co ∧ (old tick W).2 = ol)
  rw [HX.out.2]
  clear hov h hW ko hw h5 hLL
  go_enter Try.func17, Try.ntmps17
  go_wp2_with fail
  go_quiet (fail)
  go_wp2_with fail
  refine (contains_calls _ l w.heap.size tick _ ((r.alloc _).drewN _) (by omega) (by simp)).mono ?_
  rintro e w1 ⟨rfl, b1⟩
  rw [H5.out]
  have B1 : Below w.heap.size w w1 := (below_drewN ((Below.refl _ _).alloc (Nat.le_refl _) _) _).trans (b1.mono (by simp))
  have s1 : w.heap.size + 1 ≤ w1.heap.size := by have := b1.size; simpa using this
  have e0 := (B1.cell (p := ⟨g, 0, none⟩) hgl).trans d0
  have e1 : w1.cell? ⟨w.heap.size, 0, none⟩ = some (.int .i64 tick) := (b1.cell (p := ⟨w.heap.size, 0, none⟩) (by simp)).trans (by simp)
  have M1 := HH.out.map.below' B1
  have LL := fun n => (M1.drewN n).look hti
  rw [HX.out.1] at LL
  clear b1
  go_wp2_with fail
  go_quiet (fail)
  have B2 := below_drewN B1 nq
  have M2 := M1.drewN nq
  have f0 : (w1.drewN nq).cell? ⟨g, 0, none⟩ = some (.map (some m)) := e0
  have f1 : (w1.drewN nq).cell? ⟨w.heap.size, 0, none⟩ = some (.int .i64 tick) := e1
  have s2 : w.heap.size + 1 ≤ (w1.drewN nq).heap.size := s1
  clear LL M1 B1 e0 e1 s1
  generalize w1.drewN nq = w2 at *
  have r2 := r.below' B2
  have ro2 := hor.below' B2
  have HS := Lib.hid (fun (X : World) (hb : Below w2.heap.size w2 X) => (⟨(hb.cell (p := ⟨g, 0, none⟩) (by show g < _; omega)).trans f0, (hb.cell (p := ⟨w.heap.size, 0, none⟩) (by show w.heap.size < _; omega)).trans f1⟩ : X.cell? ⟨g, 0, none⟩ = some (.map (some m)) ∧ X.cell? ⟨w.heap.size, 0, none⟩ = some (.int .i64 tick)))
  have hgm := HH.out.gm
  have HS4 := Lib.hid (fun (X Y : World) (hb : Below w2.heap.size w2 X) (hg : X.grownBy Y (some m)) => (⟨(grown_cell (p := ⟨g, 0, none⟩) hg (by show g < _; have := hb.size; omega) hgm).trans (HS.out X hb).1, (grown_cell (p := ⟨w.heap.size, 0, none⟩) hg (by show w.heap.size < _; have := hb.size; omega) (by show w.heap.size ≠ m; omega)).trans (HS.out X hb).2⟩ : Y.cell? ⟨g, 0, none⟩ = some (.map (some m)) ∧ Y.cell? ⟨w.heap.size, 0, none⟩ = some (.int .i64 tick)))
  have KC := Lib.hid (clone_calls (.slice A l.length c) l w2.drew r2 (by omega))
  have B2d : Below w2.heap.size w2 w2.drew := (Below.refl _ _).drew
  have hWl := HW.out.len
  go_wp2_with fail
  go_region_held3 (fun X => X.cell? ⟨g, 0, none⟩ = some (.map (some m)) ∧ X.cell? ⟨w.heap.size, 0, none⟩ = some (.int .i64 tick))
    (first | exact S4 | exact HS.out _ b3 | exact HS.out _ B2d)
    (first
      | (go_at_call 34; (with_reducible refine KC.out.mono ?_); rintro e w3 ⟨vc, rfl, oc, b3'⟩; have b3 : Below w2.heap.size w2 w3 := B2d.trans b3'; obtain ⟨w4, hst, M4, g4⟩ := ((M2.below' B2d).below' b3').store hti (vc, l) (by unfold maxLen; omega); have S4 := HS4.out w3 w4 b3 g4)
      | (refine step_mapUpdate (by rfl) _ _ _ _ (by rfl) _ _ _ (by rfl) (by rfl) (by rfl) hst ?_))
  have hmr2 : ∀ (u : Value) (q : List Eff), Row effE w2 u q → Row effE w4 u q := fun u q hq => ((hq.below' B2d).below' b3').grown g4 (fun k hk e => by
    injection e with e
    exact ((M2.below' B2d).below' b3').apart ((hq.below' B2d).below' b3') (by rw [hk, e]))
  have HMR := Lib.hid hmr2
  have oc4 : Own effE w4 w2.heap.size vc l := oc.grown g4 (fun k hk e => by
    injection e with e
    exact ((M2.below' B2d).below' b3').apart oc.row (by rw [hk, e]))
  have r4 := hmr2 _ _ r2
  have ro4 := hmr2 _ _ ro2
  have b3s := b3.size
  have g4s := g4.size
  have U4 : Upd [m] w w4 := (((Upd.of_below B2).mono (S' := [m]) (fun _ hi => by cases hi)).trans' (S' := []) ((Upd.of_below b3).mono (fun _ hi => by cases hi)) (fun _ hi => by cases hi)).trans (Upd.of_grown g4)
  have bk4 : Blk w4 g 60 #[.map (some m), .int .i64 bd] := ((HH.out.blk.below' B2).below' b3).grown g4 (fun e => hgm (by injection e))
  have hrows : ∀ p ∈ W, Row effE w4 p.2.1 p.2.2 := fun p hp => hmr2 _ _ ((HH.out.rows p hp).below' B2)
  have HR := Lib.hid hrows
  clear hmr2 hrows hst g4 b3' oc M2 f0 f1 r2 ro2 hor r d0 d1
  go_wp2_with fail
  refine (difference_calls (.slice A l.length c) (.slice Ao ol.length co) l ol w4 r4 ro4 (by omega) (by omega) HK.out HO.out).mono ?_
  rintro e w5 ⟨v1, rfl, o5, b5⟩
  have r5 := r4.below' b5
  have ro5 := ro4.below' b5
  obtain ⟨A1, c1, rfl, hc1⟩ := o5.slice
  clear r4 ro4
  go_wp2_with fail
  refine (difference_calls (.slice Ao ol.length co) (.slice A l.length c) ol l w5 ro5 r5 (by omega) (by omega) HO.out HK.out).mono ?_
  rintro e w6 ⟨v2, rfl, o6, b6⟩
  obtain ⟨A2, c2, rfl, hc2⟩ := o6.slice
  clear r5 ro5
  go_wp2_with fail
  go_ret3
  have b56 : Below w4.heap.size w4 w6 := b5.trans (b6.mono b5.size)
  refine ⟨_, _, vc, w4.heap.size, rfl, ⟨bk4.below' b56, M4.below' b56, HH.out.sorted.mput _ _, fun p hp => ?_⟩, o5.below' b6, o6.mono b5.size, by omega, fun k hk => ⟨by have := oc4.ge k hk; omega, oc4.lt k hk⟩, U4.new b56⟩
  rcases (mem_mput tick (vc, l) W p).1 hp with rfl | ⟨hp, _⟩
  · exact oc4.row.below' b56
  · exact (HR.out p hp).below' b56
end Go.Proofs.Ytlmmhgbbfmocaaa
