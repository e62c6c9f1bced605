/- EffectsMinimal, walked. -/
import Derived.Test.YtlmmhgbbfmocaaaRoll
import Derived.Deep.DeepCutAuto
import Derived.Deep.RegionLaw
namespace Go.Proofs.Ytlmmhgbbfmocaaa
open Go.RowKit

theorem diff_lens (X Y : List Eff) : (diff Y X).length + X.length = (diff X Y).length + Y.length := by
  have h : (diff Y X ++ X).Perm (diff X Y ++ Y) := by
    rw [List.perm_iff_count]
    intro a
    rw [List.count_append, List.count_append, count_diff, count_diff]
    omega
  have := h.length_eq
  simpa [List.length_append] using this
theorem diff_none {a b : List Eff} (h : ∀ x, a.count x ≤ b.count x) : diff a b = [] := by
  rw [List.eq_nil_iff_forall_not_mem]
  intro x hx
  have h1 := List.count_pos_iff.2 hx
  rw [count_diff] at h1
  have := h x
  omega
theorem diff_apart (X Y : List Eff) {x : Eff} (h : x ∈ diff Y X) : (diff X Y).count x = 0 := by
  have h1 := List.count_pos_iff.2 h
  rw [count_diff] at h1 ⊢
  omega
theorem turn_count (Y : List Eff) (k : Nat) (x : Eff) : (Y.drop k ++ Y.take k).count x = Y.count x := by
  rw [List.count_append, Nat.add_comm, ← List.count_append, List.take_append_drop]
theorem turn_len (Y : List Eff) (k : Nat) : (Y.drop k ++ Y.take k).length = Y.length := by
  rw [List.length_append, Nat.add_comm, ← List.length_append, List.take_append_drop]

theorem Row.drop_if {α : Type} {E : Enc α} {w : World} {A : Option Addr} {n c : Nat} {l : List α} (h : Row E w (.slice A n c) l) (k : Nat) (hk : k ≤ l.length) : Row E w (.slice (if c = k then A else A.map (·.add (k * E.k))) (l.length - k) (c - k)) (l.drop k) := by
  obtain ⟨A', c', he, hc, hr⟩ := id h
  cases he
  rcases hr with ⟨rfl, rfl⟩ | ⟨g, o, cs, rfl, hb, hcell⟩
  · have hn : (if c = k then none else (none : Option Addr).map (·.add (k * E.k))) = none := by split <;> rfl
    rw [hn, List.drop_nil]
    have : ([] : List α).length - k = 0 := Nat.zero_sub k
    rw [this]
    exact Row.nil' _ _
  · by_cases hck : c = k
    · rw [if_pos hck]
      have h0 : l.drop k = [] := List.drop_of_length_le (by omega)
      refine ⟨_, _, by rw [List.length_drop], by rw [List.length_drop]; omega, .inr ⟨g, o, cs, rfl, hb, ?_⟩⟩
      rw [h0]
      intro j u hj
      cases hj
    · rw [if_neg hck]
      have e : (some ⟨g, o, none⟩ : Option Addr).map (·.add (k * E.k)) = some ⟨g, o + k * E.k, none⟩ := by simp [Addr.add]
      rw [e]
      exact h.drop k hk

/-- append of a slice that reads as a list, as a step of a region that draws its order. -/
theorem step_appends {α : Type} {E : Enc α} {P : Program} {w : World} {ops : Array Oper} {o : Oper} {a : Act} {K : Act → World → Prop} {Q : Exit → Act → World → Prop} {E0 : Prop} {t : TypeId} {z : Value} {bytes : Nat} (El : Elem P t E z bytes) (hgd : o.guard = none) (s x : Operand)
    (ho : o.op = .call { callee := .builtin .append, args := #[s, x], argTypes := #[t, t] })
    (base : Nat) (v : Value) (l : List α) (hs : a.eval s = v) (hown : Own E w base v l)
    (v2 : Value) (news : List α) (hx : a.eval x = v2) (hr : Row E w v2 news)
    (hn : (l.length + news.length) * bytes ≤ 140737488355328) (hn2 : l.length + news.length ≤ 140737488355328) (hbase : base ≤ w.heap.size)
    (k : ∀ v' w', Own E w' base v' (l ++ news) → w.grownBy w' v.ownBlock → K (a.put o.dst v') w') :
    if Region.wanted o (yielded ops a.tmps) = true then Oper.wp P o a w K Q else E0 := by
  have hw : Region.wanted o (yielded ops a.tmps) = true := by simp [Region.wanted, hgd]
  rw [if_pos hw]
  obtain ⟨v', w', hr, h2, h3, h5⟩ := run_appends El o.type base v l hown v2 news hr hn hn2 hbase
  unfold Oper.wp execOp
  simp only [ho, resolve, invoke, builtin, Sem.run_bind, Sem.run_pure, Result.andThen_ok, List.map_toArray, List.map_cons, List.map_nil, hs, hx, hr]
  exact k v' w' h2 h3

set_option maxHeartbeats 1000000 in
set_option maxRecDepth 100000 in
theorem minimal_calls (tick one two turn : Int) (w : World) (h1 : i64 tick) (h2 : i64 one) (h3 : i64 two) (h4 : i64 turn) :
    Calls Try.prog 6 #[.int .i64 tick, .int .i64 one, .int .i64 two, .int .i64 turn] w fun e w' => e = .returned (.bool true) ∧ Below w.heap.size w w' := by
  obtain ⟨t, ht, ht2⟩ := around_nat tick 6000 (by omega)
  have HT := Lib.hid ht
  have hti : i64 (t : Int) := ⟨by omega, by omega⟩
  obtain ⟨X, hX⟩ : ∃ X, X = listL t one := ⟨_, rfl⟩
  obtain ⟨Y, hY⟩ : ∃ Y, Y = listL t two := ⟨_, rfl⟩
  have hXl : X.length ≤ 6 := by rw [hX]; exact listL_len _ _
  have hYl : Y.length ≤ 6 := by rw [hY]; exact listL_len _ _
  have kX := Lib.hid (by rw [hX]; exact listL_ok _ _ hti : OkAll X)
  have kY := Lib.hid (by rw [hY]; exact listL_ok _ _ hti : OkAll Y)
  have wX := Lib.hid (wrong_ok (by omega) (by omega) (by omega) (by omega) (by rw [hX]; exact fun x hx => (listL_each _ _ hti x hx).1) : wrong 0 t X = 0)
  have tY : ∀ x ∈ Y, x.tick = t := by rw [hY]; exact fun x hx => (listL_each _ _ hti x hx).1
  have wY := Lib.hid (wrong_ok (by omega) (by omega) (by omega) (by omega) tY : wrong 0 t Y = 0)
  have HX := Lib.hid hX
  have HY := Lib.hid hY
  obtain ⟨d3, hd3⟩ : ∃ d, d = diff Y X := ⟨_, rfl⟩
  obtain ⟨d4, hd4⟩ : ∃ d, d = diff X Y := ⟨_, rfl⟩
  have hl3 : d3.length ≤ 6 := by rw [hd3]; have := diff_len Y X; omega
  have hl4 : d4.length ≤ 6 := by rw [hd4]; have := diff_len X Y; omega
  have hlen : (X.length : Int) - d4.length + d3.length = Y.length := by rw [hd3, hd4]; have := diff_lens X Y; omega
  have HAp := Lib.hid (by rw [hd3, hd4]; exact fun x hx => diff_apart X Y hx : ∀ x ∈ d3, d4.count x = 0)
  have H3 := Lib.hid hd3
  have H4 := Lib.hid hd4
  obtain ⟨k, hk, hk2⟩ := around_nat turn (Y.length + 1) (by omega)
  have HKK := Lib.hid hk
  have hkY : k ≤ Y.length := by omega
  obtain ⟨Z, hZ⟩ : ∃ Z, Z = Y.drop k ++ Y.take k := ⟨_, rfl⟩
  have hZl : Z.length = Y.length := by rw [hZ]; exact turn_len Y k
  have cZ := Lib.hid (by rw [hZ]; exact turn_count Y k : ∀ x, Z.count x = Y.count x)
  have D1 := Lib.hid (diff_none (fun x => Nat.le_of_eq (cZ.out x))).symm
  have D2 := Lib.hid (diff_none (fun x => Nat.le_of_eq (cZ.out x).symm)).symm
  have kZ := Lib.hid (by rw [hZ]; exact fun x hx => kY.out x (by rcases List.mem_append.1 hx with h | h; exact List.mem_of_mem_drop h; exact List.mem_of_mem_take h) : OkAll Z)
  have wZ := Lib.hid (wrong_ok (by omega) (by omega) (by omega) (by omega) (by rw [hZ]; exact fun x hx => tY x (by rcases List.mem_append.1 hx with h | h; exact List.mem_of_mem_drop h; exact List.mem_of_mem_take h)) : wrong 0 t Z = 0)
  have HZ := Lib.hid hZ
  have HZL := Lib.hid hZl
  clear ht hX hY hd3 hd4 hk hZ tY hZl
  go_enter Try.func6, Try.ntmps6
  go_wp2_with fail
  refine (around_named tick 6000 t w h1 (by omega) (by omega) HT.out).mono ?_
  rintro e wz ⟨rfl, rfl⟩
  go_wp2_with fail
  refine (list_calls t one w hti h2).mono ?_
  rintro e w1 ⟨vx, rfl, ox, b1⟩
  rw [← HX.out] at ox
  obtain ⟨Ax, cx, rfl, _⟩ := ox.slice
  go_wp2_with fail
  refine (list_calls t two w1 hti h3).mono ?_
  rintro e w2 ⟨vy, rfl, oy, b2⟩
  rw [← HY.out] at oy
  obtain ⟨Ay, cy, rfl, hcy⟩ := oy.slice
  have R2 := (Rows.nil w2).cons (ox.row.below' b2) |>.cons oy.row
  have B2 := b1.trans (b2.mono b1.size)
  clear ox oy b1 b2
  go_wp2_with fail
  refine (new_calls w2).mono ?_
  rintro e w3 ⟨rfl, K3, b3⟩
  have R3 := R2.below' b3
  obtain ⟨m, hm⟩ : ∃ m, m = w2.heap.size := ⟨_, rfl⟩
  rw [← hm] at K3 ⊢
  have hmw : w.heap.size ≤ m := by have := B2.size; omega
  have B3 := B2.trans (b3.mono B2.size)
  clear R2 b3 hm
  go_wp2_with fail
  refine (show_one (m + 1) m [] t _ [] X X [] w3 K3 (.inl ⟨rfl, rfl⟩) (by simp) OkAll.nil (R3 (.slice Ax X.length cx, X) (by simp)) kX.out wX.out hti (diff_nil X).symm rfl).mono ?_
  rintro e w4 ⟨A1, q1, A2, q2, vc, X1, rfl, K4, s1, -, -, -, -, u4⟩
  have R4 := R3.upd K3 u4 (by simp)
  have U4 : Upd [m + 1, m] w3 w4 := u4.mono (fun i hi => .inl (by simp at hi; simp [hi]))
  clear R3 s1 u4
  go_wp2_with fail
  refine (show_one (m + 1) m _ t _ X Y d3 d4 w4 K4 (.inr ⟨_, rfl⟩) (by omega) kX.out (R4 (.slice Ay Y.length cy, Y) (by simp)) kY.out wY.out hti H3.out H4.out).mono ?_
  rintro e w5 ⟨A3, q3, A4, q4, vd, X2, rfl, K5, s3, s4, -, -, -, u5⟩
  have R5 := ((R4.upd K4 u5 (by simp)).cons s3).cons s4
  have U5 := U4.trans' u5 (fun i hi => .inl (by simp at hi; simp [hi]))
  clear R4 s3 s4 u5 K3 K4
  obtain ⟨N, hN⟩ : ∃ N, N = d3.length := ⟨_, rfl⟩
  have HN := Lib.hid hN
  rw [← hN] at hlen hl3 R5 ⊢
  have hlen2 : ((X.length : Int) - d4.length + N != Y.length) = false := by rw [hlen]; simp
  clear hN
  go_wp2_with fail
  go_loopg [16] N (fun n iv wr => ∃ (j : Nat), j + n = N ∧ iv = .int .i64 j ∧ Below w5.heap.size w5 wr)
  case atStart => exact ⟨0, by omega, rfl, Below.refl _ _⟩
  case round =>
    obtain ⟨j, hj, rfl, B⟩ := hrel
    have HJ := Lib.hid hj
    have hjN : j ≤ N := by omega
    clear hj
    by_cases hlt : j < N
    · have hj1 : j < d3.length := by rw [← HN.out]; exact hlt
      have r3 := (R5 (.slice A3 N q3, d3) (by simp)).below' B
      have r4 := (R5 (.slice A4 d4.length q4, d4) (by simp)).below' B
      obtain ⟨g1, o1, rfl, hg, c10, c11, c12, c13⟩ := r3.eff_at hj1
      have hap := Lib.hid (HAp.out d3[j] (List.getElem_mem hj1))
      have hi0 : (0 : Int) ≤ j := by omega
      have hi1 : (j : Int) < N := by omega
      generalize d3[j] = x at *
      go_wp2_with fail
      refine (count_any _ d4 x w5 _ (R5 (.slice A4 d4.length q4, d4) (by simp)) (by omega) ?_).mono ?_
      · exact B
      rintro e w6 ⟨rfl, B6⟩
      rw [hap.out]
      clear c10 c11 c12 c13
      go_wp2_with fail
      have hj := HJ.out
      go_roundg (gk - 1)
      case measure => omega
      case rel => exact ⟨j + 1, by omega, by go_num, B6⟩
    · obtain rfl : j = N := by omega
      go_wp2_with fail
      refine (around_named turn (Y.length + 1) k _ h4 (by omega) (by omega) HKK.out).mono ?_
      rintro e wz ⟨rfl, rfl⟩
      have U6 := U5.new B
      have R6 := R5.below' B
      have K6 := K5.below' B
      have hk0 : (0 : Int) ≤ k := by omega
      have hk1 : (k : Int) ≤ Y.length := by omega
      clear R5 K5 B U5
      go_wp2_with fail
      go_cut [18, 19, 20] (fun p q f wx => ∃ P1 p1 P2 p2 ve, p = .slice P1 0 p1 ∧ q = .slice P2 0 p2 ∧ f = .int .i64 0 ∧ BoardAt wx (m + 1) m [((t : Int), ve, Z)] 0 ∧ Upd [m + 1, m] w3 wx ∧ Row effE wx (.slice Ay Y.length cy) Y)
      case first =>
        have ry := R6 (.slice Ay Y.length cy, Y) (by simp)
        have hkn : k ≤ Y.length := hkY
        have rd : Row effE wr (.slice (if cy = k then Ay else Ay.map (·.add (k * 4))) (Y.length - k) (cy - k)) (Y.drop k) := Row.drop_if ry k hkn
        obtain ⟨Az, hAz⟩ : ∃ Az, (if cy = k then Ay else Ay.map (·.add (k * 4))) = Az := ⟨_, rfl⟩
        rw [hAz] at rd
        have rt := ry.take k hkn
        have hcvk : k ≤ cy := Nat.le_trans hkn hcy
        have hcvi : (k : Int) ≤ cy := by omega
        go_region_law (first | (refine step_appends elem_eff rfl (.const (.slice none 0 0)) (.tmp 82) rfl wr.heap.size (.slice none 0 0) [] rfl (Own.nil _ _) (.slice Az (Y.length - k) (cy - k)) (Y.drop k) (by simp [Act.eval, Act.put]) (by exact rd.drew) (by simp; omega) (by simp; omega) (by simp) ?_; intro v7 w7 o7 g7; have gg7 : wr.grownBy w7 none := ⟨g7.os, g7.tape, g7.output, g7.size, g7.block⟩; have G7 : Below wr.heap.size wr w7 := (Below.refl _ _).grown gg7 (Nat.le_refl _) (fun _ hk => by cases hk); have t7 := G7.size; rw [List.nil_append] at o7; clear g7 gg7) | (refine step_appends elem_eff rfl (.tmp 83) (.tmp 86) rfl wr.heap.size v7 (Y.drop k) (by simp [Act.eval]) o7 (.slice Ay k cy) (Y.take k) (by simp [Act.eval]) (by exact rt.below' G7) (by rw [List.length_drop, List.length_take]; omega) (by rw [List.length_drop, List.length_take]; omega) t7 ?_; intro v8 w8 o8 g8; have G8 : Below wr.heap.size wr w8 := G7.grown g8 t7 (fun k hk => o7.ge k hk); rw [← HZ.out] at o8; obtain ⟨A8, c8, rfl, hc8⟩ := o8.slice; have K8 := K6.below' G8; have R8 := R6.below' G8; have U8 := U6.new G8; clear g8) | (go_simp; go_at_call 17; with_reducible refine (show_one (m + 1) m _ t _ Y Z [] [] w8 K8 (.inr ⟨_, rfl⟩) (by omega) kY.out o8.row kZ.out wZ.out hti D1.out D2.out).mono ?_; rintro e w9 ⟨P1, p1, P2, p2, ve, X4, rfl, K9, -, -, -, -, -, u9⟩))
        all_goals (have U9 := U8.trans' u9 (fun i hi => .inl (by simp at hi; simp [hi])); have Ry9 := K8.row_upd (R8 (.slice Ay Y.length cy, Y) (by simp)) u9 (by simp); clear u9; go_wp2_with fail; go_meet; exact ⟨P1, p1, P2, p2, ve, rfl, rfl, rfl, K9, U9, Ry9⟩)
      clear hk0 hk1 R6 K6 U6
      obtain ⟨P1, p1, P2, p2, ve, rfl, rfl, rfl, K7, U7, r7⟩ := hcut
      go_wp2_with fail
      refine (pending_calls (m + 1) m _ 0 wc K7 (WOk.one (by show Z.length ≤ 40; rw [HZL.out]; omega) kZ.out hti)).mono ?_
      rintro e w10 ⟨vp, rfl, op, b10⟩
      rw [takeL_one (by omega)] at op
      have r10 := r7.below' b10
      have U10 := U7.new b10
      clear K7 b10 r7 U7
      go_wp2_with fail
      refine (sameSet_calls _ _ Z Y w10 op.row r10 (by rw [HZL.out]; omega) HZL.out (fun x _ => cZ.out x)).mono ?_
      rintro e w11 ⟨rfl, b11⟩
      have U11 := U10.new b11
      clear op r10 b11
      go_wp2_with fail
      refine (lives_calls w11).mono ?_
      rintro e w12 ⟨rfl, b12⟩
      have U12 := U11.new b12
      go_wp2_with fail
      go_ret
      exact ⟨rfl, B3.trans (U12.below B3.size (fun i hi => by simp at hi; omega))⟩
end Go.Proofs.Ytlmmhgbbfmocaaa
