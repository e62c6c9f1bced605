/- difference of package effects. -/
import Derived.Test.YtlmmhgbbfmocaaaCnt
import Derived.Test.YtlmmhgbbfmocaaaCount
namespace Go.Proofs.Ytlmmhgbbfmocaaa
open Go.RowKit

theorem put_inc {ys : List Eff} {k : Nat} (h : k < ys.length) : put (fun x => (ys.take k).count x) ys[k] ((ys.take k).count ys[k] + 1) = fun x => (ys.take (k + 1)).count x := by
  funext x
  unfold put
  rw [count_take_succ h]
  by_cases he : x = ys[k]
  · subst he; simp
  · rw [if_neg he, if_neg (fun e => he e.symm)]; rfl
theorem put_dec (c : Eff → Nat) (x : Eff) : put c x (c x - 1) = dec c x := by
  funext y
  unfold put dec
  split
  · rename_i h; rw [h]
  · rfl
theorem diffA_go {c : Eff → Nat} {l out T : List Eff} {x : Eff} (h : out ++ diffA c (x :: l) = T) : (0 < c x → out ++ diffA (dec c x) l = T) ∧ (¬ 0 < c x → (out ++ [x]) ++ diffA c l = T) := by
  unfold diffA at h
  constructor
  · intro hc
    rw [if_pos hc] at h
    exact h
  · intro hc
    rw [if_neg hc] at h
    rw [← h]
    simp

/-- What one place of the map being raised comes to, step by step, in the region's own words. -/
theorem CntAt.step {w : World} {b n : Nat} {c : Eff → Nat} (h : CntAt w b n c) (hn : n + 1 < maxLen) {x : Eff} (hx : x.Ok) (m : Nat) (v : Int) (hv : v = (m : Int)) (hm : m ≤ 9223372036854775807) :
    ∃ (v0 : Value) (st : Nat) (w1 w2 : World), (Instr.lookup 72 (.map (some b)) (.agg #[.int .i64 x.tick, .int .i64 x.idx, .int .i64 x.kind, .int .i64 x.val]) false).run Try.prog w = .ok (.int .i64 (c x : Nat)) w ∧
      (Instr.mapEntry 72 (.map (some b)) (.agg #[.int .i64 x.tick, .int .i64 x.idx, .int .i64 x.kind, .int .i64 x.val])).run Try.prog w = .ok (.tuple #[v0, .int .i64 st]) w1 ∧
      (Instr.lookup 72 (.map (some b)) (.agg #[.int .i64 x.tick, .int .i64 x.idx, .int .i64 x.kind, .int .i64 x.val]) false).run Try.prog w1 = .ok (.int .i64 (c x : Nat)) w1 ∧
      (Instr.entryStore 72 (.map (some b)) (.int .i64 st) (.int .i64 v)).run Try.prog w1 = .ok () w2 ∧
      w.grownBy w2 (some b) ∧ CntAt w2 b (n + 1) (put c x m) := by
  subst hv
  obtain ⟨v0, st, w1, hM, g1, h1, hS⟩ := h.entry hn hx
  obtain ⟨w2, hs, g2, h2⟩ := hS m (i64_wf ⟨by omega, by omega⟩)
  exact ⟨v0, st, w1, w2, h.look hx, hM, h1.look hx, hs, g2, h2⟩

set_option maxHeartbeats 2000000 in
theorem difference_calls (v1 v2 : Value) (xs ys : List Eff) (w : World) (h1 : Row effE w v1 xs) (h2 : Row effE w v2 ys) (l1 : xs.length ≤ 1000000) (l2 : ys.length ≤ 1000000) (k1 : OkAll xs) (k2 : OkAll ys) :
    Calls Try.prog 35 #[v1, v2] w fun e w' => ∃ v', e = .returned v' ∧ Own effE w' w.heap.size v' (diff xs ys) ∧ Below w.heap.size w w' := by
  obtain ⟨A1, c1, rfl, hc1⟩ := h1.slice
  obtain ⟨A2, c2, rfl, hc2⟩ := h2.slice
  obtain ⟨N, hN⟩ : ∃ N, N = xs.length := ⟨_, rfl⟩
  obtain ⟨M, hM⟩ : ∃ M, M = ys.length := ⟨_, rfl⟩
  obtain ⟨T, hT⟩ : ∃ T, T = diff xs ys := ⟨_, rfl⟩
  have HN := Lib.hid hN
  have HM := Lib.hid hM
  have HT := Lib.hid hT
  have HK1 := Lib.hid k1
  have HK2 := Lib.hid k2
  rw [← hN] at h1 hc1 l1 ⊢
  rw [← hM] at h2 hc2 l2 ⊢
  rw [← hT]
  clear hN hM hT k1 k2
  have hmm := @run_makeMap Try.prog
  go_enter Try.func35, Try.ntmps35
  go_wp2_with fail
  go_loopg [14] M (fun n i wr => ∃ (k : Nat), k + n = M ∧ i = .int .i64 k ∧ CntAt wr w.heap.size k (fun x => (ys.take k).count x) ∧ Below w.heap.size w wr)
  case atStart => exact ⟨0, by omega, rfl, by simpa using CntAt.made w, (Below.refl _ _).alloc (Nat.le_refl _) _⟩
  case round =>
    obtain ⟨k, hk, rfl, C, B⟩ := hrel
    have HK := Lib.hid hk
    have hkN : k ≤ M := by omega
    clear hk
    have sB := B.size
    have sC := C.lt
    by_cases hlt : k < M
    · have hk1 : k < ys.length := by rw [← HM.out]; exact hlt
      have r2 := h2.below' B
      obtain ⟨g1, o1, rfl, hg, c10, c11, c12, c13⟩ := r2.eff_at hk1
      have hi0 : (0 : Int) ≤ k := by omega
      have hi1 : (k : Int) < M := by omega
      have hx := Lib.hid (HK2.out ys[k] (List.getElem_mem hk1))
      have HP := Lib.hid (put_inc hk1)
      generalize ys[k] = x at *
      obtain ⟨m, hm⟩ : ∃ m, m = (ys.take k).count x := ⟨_, rfl⟩
      have hmk : m ≤ k := by rw [hm]; have := List.count_le_length (a := x) (l := ys.take k); rw [List.length_take] at this; omega
      have C2 := (C.alloc (.cells #[.int .i64 x.tick, .int .i64 x.idx, .int .i64 x.kind, .int .i64 x.val] 51)).drew
      obtain ⟨v0, st, w1, w2, L0, LM, L1, LS, g2, C3⟩ := C2.step (by unfold maxLen; omega) hx.out (m + 1) ((m : Int) + 1) (by omega) (by omega)
      rw [← hm] at L0 L1 HP
      rw [HP.out] at C3
      have hw : IntKind.i64.wrap ((m : Int) + 1) = (m : Int) + 1 := IntWalk.i64_in _ (by omega)
      clear hm HP hx C C2
      go_wp2_with fail
      go_region
      have B3 : Below w.heap.size w w2 := ((B.alloc sB _).drew).grown g2 (by simp; omega) (fun j hj => by cases hj; exact Nat.le_refl _)
      clear L0 LM L1 LS g2 c10 c11 c12 c13 hw r2
      go_wp2_with fail
      have hk := HK.out
      go_roundg (gk - 1)
      case measure => omega
      case rel => exact ⟨k + 1, by omega, by go_num, C3, B3⟩
    · obtain rfl : k = M := by omega
      have HC := Lib.hid (by rw [List.take_of_length_le (Nat.le_of_eq HM.out.symm)] at C; exact C : CntAt wr w.heap.size k (fun x => ys.count x))
      clear C HK
      go_wp2_with fail
      obtain ⟨wo, rfl⟩ : ∃ wo : World, wo = wr := ⟨_, rfl⟩
      go_loopg [8, 27] N (fun n v i wr => ∃ (j q : Nat) (c : Eff → Nat) (out : List Eff), j + n = N ∧ i = .int .i64 j ∧ q ≤ k + j ∧ CntAt wr w.heap.size q c ∧ Own effE wr (w.heap.size + 1) v out ∧ out.length ≤ j ∧ Below w.heap.size w wr ∧ Hid (out ++ diffA c (xs.drop j) = T ∧ ∀ x, c x ≤ k))
      case atStart => exact ⟨0, k, _, [], by omega, rfl, by omega, HC.out, Own.nil _ _, by simp, B, by rw [HT.out]; rfl, fun x => by rw [HM.out]; exact List.count_le_length⟩
      case round =>
        obtain ⟨j, q, c, out, hj, rfl, hq, C, o, hol, B, H⟩ := hrel
        have HJ := Lib.hid hj
        have hjN : j ≤ N := by omega
        clear hj HC
        have sB := B.size
        have sC := C.lt
        by_cases hlt : j < N
        · have hj1 : j < xs.length := by rw [← HN.out]; exact hlt
          have r1 := h1.below' B
          obtain ⟨g1, o1, rfl, hg, c10, c11, c12, c13⟩ := r1.eff_at hj1
          have hi0 : (0 : Int) ≤ j := by omega
          have hi1 : (j : Int) < N := by omega
          have hx := Lib.hid (HK1.out xs[j] (List.getElem_mem hj1))
          have H2 := H.out.1
          have HB := Lib.hid H.out.2
          rw [List.drop_eq_getElem_cons hj1] at H2
          have H3 := Lib.hid (diffA_go H2)
          generalize xs[j] = x at *
          obtain ⟨A5, c5, rfl, hc5⟩ := o.slice
          have C1 := C.alloc (.cells #[.int .i64 x.tick, .int .i64 x.idx, .int .i64 x.kind, .int .i64 x.val] 51)
          have o1' := o.alloc (.cells #[.int .i64 x.tick, .int .i64 x.idx, .int .i64 x.kind, .int .i64 x.val] 51)
          have B1 := B.alloc sB (.cells #[.int .i64 x.tick, .int .i64 x.idx, .int .i64 x.kind, .int .i64 x.val] 51)
          have LL := C1.look hx.out
          unfold Eff.v at LL
          obtain ⟨m, hm⟩ : ∃ m, m = c x := ⟨_, rfl⟩
          rw [← hm] at LL
          have hap := C1.apart o1'.row
          by_cases hpos : 0 < m
          · have C2 := C1.drew
            have hmx : m ≤ k := by rw [hm]; exact HB.out x
            obtain ⟨v0, st, w1, w2, L0, LM, L1, LS, g2, C3⟩ := C2.step (by unfold maxLen; omega) hx.out (m - 1) ((m : Int) - 1) (by omega) (by omega)
            have H4 := Lib.hid (H3.out.1 (by rw [← hm]; exact hpos))
            have hpd := put_dec c x
            rw [← hm] at L0 L1 hpd
            rw [hpd] at C3
            have hw : IntKind.i64.wrap ((m : Int) - 1) = (m : Int) - 1 := IntWalk.i64_in _ (by omega)
            have hpos' : (0 : Int) < m := by omega
            have o2 := o1'.drew.grown g2 hap
            clear hm hx C C1 C2 hpd H2 H3 H o1' o hap
            go_wp2_with fail
            go_region
            have B3 : Below w.heap.size w w2 := (B1.drew).grown g2 (by simp; omega) (fun j hj => by cases hj; exact Nat.le_refl _)
            clear L0 LM L1 LS LL g2 c10 c11 c12 c13 hw r1
            go_wp2_with fail
            have hj := HJ.out
            go_roundg (gk - 1)
            case measure => omega
            case rel => exact ⟨j + 1, q + 1, _, out, by omega, by go_num, by omega, C3, o2, by omega, B3, H4.out, fun y => by unfold dec; have := HB.out y; split <;> omega⟩
          · have hpos' : ¬ (0 : Int) < m := by omega
            have H4 := Lib.hid (H3.out.2 (by rw [← hm]; exact hpos))
            clear hm hx C H2 H3 H o
            go_wp2_with (at_builtin; refine wpList_push elem_eff rfl (.tmp 41) (.tmp 43) rfl (w.heap.size + 1) (.slice A5 out.length c5) _ rfl (o1'.alloc _) (wr.heap.size + 1) x rfl ?q1 ?q2 ?q3 ?q4 ?_)
            case q1 => exact Blk.new1 wr _ _ _
            case q2 => omega
            case q3 => omega
            case q4 => first | omega | (simp; omega)
            intro v7 w7 o7 g7 l7
            have B7 := (B1.alloc (by simp; omega) (Obj.cells #[Value.int IntKind.i64 x.tick, Value.int IntKind.i64 x.idx, Value.int IntKind.i64 x.kind, Value.int IntKind.i64 x.val] 51)).grown g7 (by simp; omega) (fun k hk => by have := o1'.ge k hk; omega)
            have C7 := (C1.alloc (Obj.cells #[Value.int IntKind.i64 x.tick, Value.int IntKind.i64 x.idx, Value.int IntKind.i64 x.kind, Value.int IntKind.i64 x.val] 51)).kept g7 (fun e => hap _ e.symm rfl)
            clear c10 c11 c12 c13 g7 l7 o1' LL hap r1 C1 B1
            go_wp2_with fail
            have hj := HJ.out
            go_roundg (gk - 1)
            case measure => omega
            case rel => exact ⟨j + 1, q, c, out ++ [x], by omega, by go_num, by omega, C7, o7, by simp; omega, B7, H4.out, HB.out⟩
        · obtain rfl : j = N := by omega
          have HE := Lib.hid (by
            have h := H.out.1
            rw [List.drop_of_length_le (Nat.le_of_eq HN.out.symm)] at h
            simpa [diffA] using h : out = T)
          go_wp2_with fail
          go_ret
          exact ⟨_, rfl, (HE.out ▸ o).mono (by omega), B⟩
end Go.Proofs.Ytlmmhgbbfmocaaa
