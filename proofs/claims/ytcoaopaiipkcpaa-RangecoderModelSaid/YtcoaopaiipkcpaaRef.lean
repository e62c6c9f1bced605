/- The reference coder: its first state, and a bit. -/
import Derived.Test.YtcoaopaiipkcpaaNext
import Derived.Handy
namespace Go.Proofs.Ytcoaopaiipkcpaa
open Go.RowKit Rc

theorem elem_u64 : Elem Try.prog 54 53 (.int .u64 0) 1 8 := ⟨Try.underlying54, by kernel_rfl, rfl, by decide⟩

def w64 (l : List Nat) : List Value := l.map fun (b : Nat) => Value.int .u64 (b : Int)
theorem w64_append (a b : List Nat) : w64 (a ++ b) = w64 a ++ w64 b := by simp [w64]
theorem w64_length (a : List Nat) : (w64 a).length = a.length := by simp [w64]
theorem w64_get (a : List Nat) (j : Nat) (h : j < a.length) : (w64 a)[j]? = some (.int .u64 (a[j] : Int)) := by simp [w64, h]
theorem w64_set (l : List Nat) (j x : Nat) : (w64 l).set j (.int .u64 (x : Int)) = w64 (l.set j x) := by simp [w64, List.map_set]

/-- A slice of uint64 in blocks from 'base' on. -/
def OwnW (T : TypeId) (w : World) (base : Nat) (v : Value) (l : List Nat) : Prop := w.ownsRow base T 1 v l.length (w64 l)

set_option maxHeartbeats 1000000 in
set_option maxRecDepth 100000 in
theorem start_calls (w : World) (l0 : List Nat) (hl0 : l0 = List.replicate 256 2048) :
    Calls Try.prog 25 #[] w fun e w' => ∃ v, e = .returned (.agg #[.int .u64 0, .int .u64 4294967295, v, .slice none 0 0]) ∧ OwnW 53 w' w.heap.size v l0 ∧ Below w.heap.size w w' := by
  have HL0 := Lib.hid hl0
  clear hl0
  go_enter Try.func25, Try.ntmps25
  go_wp2_with fail
  go_loopg [1, 2] 256 (fun n v i wr => ∃ j : Nat, j + n = 256 ∧ i = .int .i64 j ∧ OwnW 53 wr w.heap.size v (List.replicate j 2048) ∧ Blk wr w.heap.size 56 #[.int .u64 0, .int .u64 0, .slice none 0 0, .slice none 0 0] ∧ Below w.heap.size w wr)
  case atStart => exact ⟨0, by omega, rfl, World.ownsRow_nil _ _ _ _, (MapKept.heap_alloc w _).1, (Below.refl _ _).alloc (Nat.le_refl _) _⟩
  case round =>
    obtain ⟨j, hj, rfl, o, hb, B⟩ := hrel
    have s := B.size
    have sl := hb.lt
    by_cases hlt : j < 256
    · have hj2 : (j : Int) < 256 := by omega
      have hj0 : (0 : Int) ≤ j := by omega
      have hne := own_blk_ne o hb (by decide)
      go_wp2_with (at_builtin; refine wpList_push elem_u64 rfl (.tmp 7) (.tmp 8) rfl w.heap.size _ _ _ rfl (World.ownsRow.alloc o _) wr.heap.size (.int .u64 2048) rfl ?c1 rfl ?c2 ?c3 ?c4 ?_)
      case c1 => simp
      case c2 => simp; omega
      case c3 => simp; omega
      case c4 => simp; omega
      intro v' w2 h4 h5 h6
      have r1 : OwnW 53 w2 w.heap.size v' (List.replicate (j + 1) 2048) := by
        unfold OwnW; rw [List.replicate_succ', w64_append, List.length_append, List.length_replicate]; exact h4
      have r2 := (B.alloc s (Obj.cells #[Value.int IntKind.u64 2048] 53)).grown h5 (by simp; omega) (fun k hk => (World.ownsRow.lt o k hk).1)
      have r3 := (hb.alloc (Obj.cells #[Value.int IntKind.u64 2048] 53)).grown h5 (fun e => hne e.symm)
      clear h4 h5 h6
      go_wp2_with fail
      go_roundg (gk - 1)
      case measure => omega
      case rel => exact ⟨j + 1, by omega, by go_num, r1, r3, r2⟩
    · have hj0 : ¬ (j : Int) < 256 := by omega
      obtain ⟨l, hl⟩ : ∃ l, l = List.replicate j 2048 := ⟨_, rfl⟩
      rw [← hl] at o
      have HL := Lib.hid hl
      have HJ := Lib.hid (show j = 256 by omega)
      clear hl hj hlt
      obtain ⟨A, c, rfl⟩ := own_slice o
      have hne := own_blk_ne o hb (by decide)
      have c0 := hb.cell 0
      have c1 := hb.cell 1
      have c2 := hb.cell 2
      have c3 := hb.cell 3
      have f0 := hb.frozen 0
      have f1 := hb.frozen 1
      have f2 := hb.frozen 2
      have f3 := hb.frozen 3
      simp only [List.getElem?_toArray, List.getElem?_cons_succ, List.getElem?_cons_zero] at c0 c1 c2 c3
      go_wp2_with fail
      have hb' : Blk ((((wr.setCell ⟨w.heap.size, 0, none⟩ (.int .u64 0)).setCell ⟨w.heap.size, 1, none⟩ (.int .u64 4294967295)).setCell ⟨w.heap.size, 2, none⟩ (.slice A l.length c)).setCell ⟨w.heap.size, 3, none⟩ (.slice none 0 0)) w.heap.size 56 #[.int .u64 0, .int .u64 4294967295, .slice A l.length c, .slice none 0 0] := (((hb.put 0 _).put 1 _).put 2 _).put 3 _
      have o' : OwnW 53 ((((wr.setCell ⟨w.heap.size, 0, none⟩ (.int .u64 0)).setCell ⟨w.heap.size, 1, none⟩ (.int .u64 4294967295)).setCell ⟨w.heap.size, 2, none⟩ (.slice A l.length c)).setCell ⟨w.heap.size, 3, none⟩ (.slice none 0 0)) w.heap.size (.slice A l.length c) l :=
        ownsRow_setCell_other (ownsRow_setCell_other (ownsRow_setCell_other (ownsRow_setCell_other o hne _) hne _) hne _) hne _
      have B' := (((B.setCell (p := ⟨w.heap.size, 0, none⟩) (Nat.le_refl _) (.int .u64 0)).setCell (p := ⟨w.heap.size, 1, none⟩) (Nat.le_refl _) (.int .u64 4294967295)).setCell (p := ⟨w.heap.size, 2, none⟩) (Nat.le_refl _) (.slice A l.length c)).setCell (p := ⟨w.heap.size, 3, none⟩) (Nat.le_refl _) (.slice none 0 0)
      generalize ((((wr.setCell ⟨w.heap.size, 0, none⟩ (.int .u64 0)).setCell ⟨w.heap.size, 1, none⟩ (.int .u64 4294967295)).setCell ⟨w.heap.size, 2, none⟩ (.slice A l.length c)).setCell ⟨w.heap.size, 3, none⟩ (.slice none 0 0)) = w9 at *
      have d0 := hb'.cell 0
      have d1 := hb'.cell 1
      have d2 := hb'.cell 2
      have d3 := hb'.cell 3
      simp only [List.getElem?_toArray, List.getElem?_cons_succ, List.getElem?_cons_zero] at d0 d1 d2 d3
      have e : l = l0 := by rw [HL.out, HL0.out, HJ.out]
      refine bodyPost_ret (v := .agg #[.int .u64 0, .int .u64 4294967295, .slice A l.length c, .slice none 0 0]) (by simp [results, Try.results25, go_sem, d0, d1, d2, d3]) rfl ?_
      exact ⟨_, rfl, e ▸ o', B'⟩
end Go.Proofs.Ytcoaopaiipkcpaa
