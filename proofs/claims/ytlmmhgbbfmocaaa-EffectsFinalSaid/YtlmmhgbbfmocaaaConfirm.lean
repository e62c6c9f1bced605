/- Confirm and New of the board. -/
import Derived.Test.YtlmmhgbbfmocaaaShow
namespace Go.Proofs.Ytlmmhgbbfmocaaa
open Go.RowKit

def early (tick : Int) : Lit → DataW Value → Bool := fun l _ => match l with | .int _ t => decide (t < tick) | _ => false
/-- What is left behind Confirm. -/
def rest (tick : Int) (W : List (Int × Ent)) : List (Int × Ent) := W.filter fun p => !decide (p.1 < tick)

theorem delete_dmap (tick : Int) (W : List (Int × Ent)) : Lib.deleteFuncD (early tick) (dmap W) = dmap (rest tick W) := by
  unfold dmap rest Lib.deleteFuncD
  simp only [List.filter_map]
  congr 2

theorem early_calls (b : Nat) (tick t : Int) (v : Value) (w : World) (h : w.cell? ⟨b, 0, none⟩ = some (.int .i64 tick)) :
    Calls Try.prog 31 #[.int .i64 t, v, .pointer (some ⟨b, 0, none⟩)] w fun e w' => e = .returned (.bool (decide (t < tick))) ∧ w = w' := by
  go_enter Try.func31, Try.ntmps31
  go_wp2_with fail
  go_ret
  exact ⟨rfl, rfl⟩

theorem delete_calls (m b : Nat) (tick : Int) (W : List (Int × Ent)) (w : World) (h : MapAt w m W) (hc : w.cell? ⟨b, 0, none⟩ = some (.int .i64 tick)) (hb : b ≠ m) :
    Calls Try.prog 30 #[.map (some m), .func (.func 31) #[] #[.pointer (some ⟨b, 0, none⟩)]] w fun e w' => e = .returned (.tuple #[]) ∧ MapAt w' m (rest tick W) ∧ w.grownBy w' (some m) := by
  have hbl := World.block_lt_of_cell? w _ hc
  refine (AnyDf.maps_DeleteFunc Try.delA int_key rawE (early tick) 31 #[.pointer (some ⟨b, 0, none⟩)] m W.length (dmap W) w (enters_of Try.func31 (by kernel_rfl) rfl) h ?_).mono ?_
  · intro X key val kl yd yp hg hk _
    obtain ⟨t, rfl, rfl, _⟩ := Maps.keyOf_i64 Try.underlying3 hk
    refine (early_calls b tick t val X ((grown_cell hg hbl hb).trans hc)).mono ?_
    rintro e w' ⟨rfl, rfl⟩
    exact ⟨rfl, World.grownBy.refl _ _⟩
  · rintro e w' ⟨rfl, ho, hg⟩
    rw [delete_dmap] at ho
    exact ⟨rfl, MapAt.of ho, hg⟩

theorem confirm_late (g m : Nat) (W : List (Int × Ent)) (bd tick : Int) (w : World) (h : BoardAt w g m W bd) (ht : tick ≤ bd) :
    Calls Try.prog 15 #[.pointer (some ⟨g, 0, none⟩), .int .i64 tick] w fun e w' => e = .returned (.slice none 0 0) ∧ Below w.heap.size w w' := by
  have d1 := h.blk.cell 1
  simp only [List.getElem?_toArray, List.getElem?_cons_succ, List.getElem?_cons_zero] at d1
  have hgl := h.blk.lt
  have hgn : g ≠ w.heap.size := by omega
  go_enter Try.func15, Try.ntmps15
  go_wp2_with fail
  go_quiet (fail)
  go_wp2_with fail
  go_ret
  exact ⟨rfl, below_drewN ((Below.refl _ _).alloc (Nat.le_refl _) _) _⟩

set_option maxHeartbeats 1000000 in
theorem confirm_calls (g m : Nat) (W : List (Int × Ent)) (bd tick : Int) (w : World) (h : BoardAt w g m W bd) (hW : WOk W) (hti : i64 tick) (ht : bd < tick) :
    Calls Try.prog 15 #[.pointer (some ⟨g, 0, none⟩), .int .i64 tick] w fun e w' => ∃ v, e = .returned v ∧ Own effE w' w.heap.size v (takeL tick W) ∧ BoardAt w' g m (rest tick W) tick ∧ Upd [g, m] w w' := by
  have d1 := h.blk.cell 1
  have d0 := h.blk.cell 0
  simp only [List.getElem?_toArray, List.getElem?_cons_succ, List.getElem?_cons_zero] at d1 d0
  have hgl := h.blk.lt
  have hml := h.map.lt
  have hgn : g ≠ w.heap.size := by omega
  have ht' : ¬ tick ≤ bd := by omega
  have HH := Lib.hid h
  have HW := Lib.hid hW
  have hgm := h.gm
  clear h hW
  go_enter Try.func15, Try.ntmps15
  go_wp2_with fail
  go_quiet (fail)
  have B1 : Below w.heap.size w ((w.alloc (.cells #[.int .i64 tick] 3)).drewN nq) := below_drewN ((Below.refl _ _).alloc (Nat.le_refl _) _) _
  have e0 : ((w.alloc (.cells #[.int .i64 tick] 3)).drewN nq).cell? ⟨g, 0, none⟩ = some (.map (some m)) := (B1.cell (p := ⟨g, 0, none⟩) hgl).trans d0
  have bk1 : Blk ((w.alloc (.cells #[.int .i64 tick] 3)).drewN nq) w.heap.size 3 #[.int .i64 tick] := Blk.new w _ _
  have s1 : w.heap.size + 1 ≤ ((w.alloc (.cells #[.int .i64 tick] 3)).drewN nq).heap.size := by show _ ≤ (w.alloc _).heap.size; simp
  generalize ((w.alloc (.cells #[.int .i64 tick] 3)).drewN nq) = w1 at *
  have e1 := bk1.cell 0
  simp only [List.getElem?_toArray, List.getElem?_cons_zero] at e1
  go_wp2_with fail
  refine (take_calls g m W bd tick w1 (HH.out.below' B1) HW.out hti).mono ?_
  rintro e w2 ⟨v, rfl, o2, b2⟩
  have B2 := B1.trans (b2.mono (by omega))
  have bk2 := bk1.below' b2
  have f0 := (b2.cell (p := ⟨g, 0, none⟩) (by show g < _; omega)).trans e0
  have f1 := bk2.cell 0
  simp only [List.getElem?_toArray, List.getElem?_cons_zero] at f1
  obtain ⟨A, c, rfl, hc⟩ := o2.slice
  have s2 := b2.size
  clear e0 e1 bk1
  go_wp2_with fail
  refine (delete_calls m w.heap.size tick W w2 (HH.out.map.below' B2) f1 (by omega)).mono ?_
  rintro e w3 ⟨rfl, M3, g3⟩
  have k0 := (grown_cell (p := ⟨g, 0, none⟩) g3 (by show g < _; omega) hgm).trans f0
  have k1 := (grown_cell (p := ⟨w.heap.size, 0, none⟩) g3 (by show w.heap.size < _; omega) (by show w.heap.size ≠ m; omega)).trans f1
  have bk3 : Blk w3 g 60 #[.map (some m), .int .i64 bd] := (HH.out.blk.below' B2).grown g3 (fun e => hgm (by injection e))
  have h1 := bk3.cell 1
  have hf := bk3.frozen 1
  simp only [List.getElem?_toArray, List.getElem?_cons_succ, List.getElem?_cons_zero] at h1
  clear f0 f1 bk2
  go_wp2_with fail
  go_ret
  have hm2 := HH.out.map.below' B2
  have o3 := o2.grown g3 (fun k hk e => hm2.apart o2.row (by rw [hk, e]))
  have hrows : ∀ p ∈ W, Row effE w3 p.2.1 p.2.2 := fun p hp => ((HH.out.rows p hp).below' B2).grown g3 (fun k hk e => hm2.apart ((HH.out.rows p hp).below' B2) (by rw [hk, e]))
  refine ⟨_, rfl, (o3.mono (by omega)).far (p := ⟨g, 1, none⟩) (o3.ne bk3 (by decide)) _, ⟨bk3.put 1 _, M3.upd (S := [g]) ((Upd.refl _ _).setCell (p := ⟨g, 1, none⟩) (.inl (by simp)) _) (by simp; omega), HH.out.sorted.filter _, fun p hp => ?_⟩, ?_⟩
  · have hr := hrows p (List.mem_filter.1 hp).1
    exact hr.far (p := ⟨g, 1, none⟩) (hr.ne bk3 (by decide)) _
  · have U2 : Upd [g, m] w w2 := (Upd.of_below B2).mono (fun _ hi => by cases hi)
    exact (U2.trans (Upd.of_grown' g3 (fun k hk => by injection hk with hk; subst hk; simp))).setCell (p := ⟨g, 1, none⟩) (.inl (by simp)) _

theorem new_calls (w : World) : Calls Try.prog 11 #[] w fun e w' => e = .returned (.pointer (some ⟨w.heap.size + 1, 0, none⟩)) ∧ BoardAt w' (w.heap.size + 1) w.heap.size [] 0 ∧ Below w.heap.size w w' := by
  have hmm := @run_makeMap Try.prog
  go_enter Try.func11, Try.ntmps11
  go_wp2_with fail
  go_ret
  refine ⟨rfl, ⟨Blk.new1 w _ _ _, (MapAt.made w).below' ((Below.refl _ _).alloc (Nat.le_refl _) _), Sorted.nil, fun p hp => by cases hp⟩, ((Below.refl _ _).alloc (Nat.le_refl _) _).alloc (by simp) _⟩
end Go.Proofs.Ytlmmhgbbfmocaaa
