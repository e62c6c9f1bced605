/- EffectsRollback, walked. -/
import Derived.Test.YtlmmhgbbfmocaaaLives
namespace Go.Proofs.Ytlmmhgbbfmocaaa
open Go.RowKit

/-- Slices of effects that read as lists. -/
def Rows (w : World) (L : List (Value × List Eff)) : Prop := ∀ p ∈ L, Row effE w p.1 p.2
theorem Rows.nil (w : World) : Rows w [] := fun p hp => by cases hp
theorem Rows.cons {w : World} {L : List (Value × List Eff)} (h : Rows w L) {v : Value} {l : List Eff} (r : Row effE w v l) : Rows w ((v, l) :: L) := fun p hp => by
  rcases List.mem_cons.1 hp with rfl | hp
  · exact r
  · exact h p hp
theorem Rows.below' {w w' : World} {L : List (Value × List Eff)} (h : Rows w L) (hb : Below w.heap.size w w') : Rows w' L := fun p hp => (h p hp).below' hb
theorem BoardAt.row_upd {w w' : World} {g m : Nat} {W : List (Int × Ent)} {bd : Int} {S : List Nat} (h : BoardAt w g m W bd) {v : Value} {l : List Eff} (r : Row effE w v l) (hu : Upd S w w') (hS : ∀ i ∈ S, i ∈ [g, m]) : Row effE w' v l :=
  r.upd hu (fun k hk hm => h.apart r k hk (hS k hm))
theorem Rows.upd {w w' : World} {L : List (Value × List Eff)} (h : Rows w L) {g m : Nat} {W : List (Int × Ent)} {bd : Int} {S : List Nat} (hb : BoardAt w g m W bd) (hu : Upd S w w') (hS : ∀ i ∈ S, i ∈ [g, m]) : Rows w' L :=
  fun p hp => hb.row_upd (h p hp) hu hS

theorem wrong_ok {bd tick : Int} {l : List Eff} (h0 : 0 ≤ tick) (h1 : tick < 6000) (h2 : bd ≤ tick) (h3 : l.length ≤ 40) (h4 : ∀ x ∈ l, x.tick = tick) : wrong bd tick l = 0 := by
  unfold wrong
  rw [if_neg (by omega), if_neg (by omega), if_neg (by omega), if_neg]
  rw [List.any_eq_true]
  rintro ⟨x, hx, hne⟩
  have := h4 x hx
  simp [this] at hne

theorem diffA_zero (l : List Eff) : diffA (fun _ => 0) l = l := by
  induction l with
  | nil => rfl
  | cons a l ih => unfold diffA; rw [if_neg (Nat.lt_irrefl 0), ih]
theorem diff_nil (l : List Eff) : diff l [] = l := by
  unfold diff
  simp only [List.count_nil]
  exact diffA_zero l
theorem nil_diff (l : List Eff) : diff [] l = [] := rfl
theorem mput_one {β : Type} (t : Int) (e e' : β) : mput t e [(t, e')] = [(t, e)] := by
  unfold mput
  simp [ins]
theorem mput_nil {β : Type} (t : Int) (e : β) : mput t e [] = [(t, e)] := rfl
theorem old_one (t : Int) (e : Ent) : old t [(t, e)] = e := by simp [old, mget]
theorem old_nil (t : Int) : old t [] = (.slice none 0 0, []) := rfl
theorem takeL_one {lim t : Int} {v : Value} {l : List Eff} (h : t < lim) : takeL lim [(t, v, l)] = l := by
  unfold takeL
  rw [if_pos h]
  simp [takeL]
theorem WOk.one {t : Int} {e : Ent} (h1 : e.2.length ≤ 40) (h2 : OkAll e.2) (h3 : i64 t) : WOk [(t, e)] := ⟨by simp, fun p hp => by simp at hp; subst hp; exact ⟨h1, h2, h3⟩⟩

/-- Show on a board of one tick at most. -/
theorem show_one (g m : Nat) (W : List (Int × Ent)) (tick : Int) (v : Value) (o l d1 d2 : List Eff) (w : World) (h : BoardAt w g m W 0) (hW : W = [] ∧ o = [] ∨ ∃ u, W = [(tick, u, o)]) (ho : o.length ≤ 40) (oo : OkAll o) (r : Row effE w v l) (ko : OkAll l) (hw : wrong 0 tick l = 0) (ht : i64 tick)
    (h1 : d1 = diff l o) (h2 : d2 = diff o l) :
    Calls Try.prog 17 #[.pointer (some ⟨g, 0, none⟩), .int .i64 tick, v] w fun e w' => ∃ A1 c1 A2 c2 vc B, e = .returned (.tuple #[.slice A1 d1.length c1, .slice A2 d2.length c2, .int .i64 0]) ∧
      BoardAt w' g m [(tick, vc, l)] 0 ∧ Row effE w' (.slice A1 d1.length c1) d1 ∧ Row effE w' (.slice A2 d2.length c2) d2 ∧ w.heap.size ≤ B ∧ (∀ k, vc.ownBlock = some k → k < B) ∧ (∀ k, A1.map (·.block) = some k → B ≤ k) ∧ Upd [m] w w' := by
  have hold : (old tick W).2 = o := by
    rcases hW with ⟨rfl, rfl⟩ | ⟨u, rfl⟩
    · rfl
    · rw [old_one]
  have hput : ∀ vc, mput tick (vc, l) W = [(tick, vc, l)] := by
    intro vc
    rcases hW with ⟨rfl, rfl⟩ | ⟨u, rfl⟩
    · rfl
    · rw [mput_one]
  have hok : WOk W := by
    rcases hW with ⟨rfl, rfl⟩ | ⟨u, rfl⟩
    · exact WOk.nil
    · exact WOk.one ho oo ht
  refine (show_named g m W 0 tick v l d1 d2 w h hok r ko hw (by rw [hold]; exact h1) (by rw [hold]; exact h2)).mono ?_
  rintro e w' ⟨A1, c1, A2, c2, vc, B, rfl, hb, o1, o2, hB, hv, hu⟩
  rw [hput] at hb
  exact ⟨A1, c1, A2, c2, vc, B, rfl, hb, o1.row, o2.row, hB, fun k hk => (hv k hk).2, fun k hk => o1.ge k (by cases A1 with | none => cases hk | some a => exact hk), hu⟩

theorem sameset_yes (v1 v2 : Value) (xs : List Eff) (w : World) (h1 : Row effE w v1 xs) (h2 : Row effE w v2 xs) (l1 : xs.length ≤ 140737488355328) :
    Calls Try.prog 26 #[v1, v2] w fun e w' => e = .returned (.bool true) ∧ Below w.heap.size w w' :=
  sameSet_calls v1 v2 xs xs w h1 h2 l1 rfl (fun _ _ => rfl)

set_option maxHeartbeats 4000000 in
set_option maxRecDepth 100000 in
theorem rollback_calls (tick one two : Int) (w : World) (h1 : i64 tick) (h2 : i64 one) (h3 : i64 two) :
    Calls Try.prog 9 #[.int .i64 tick, .int .i64 one, .int .i64 two] w fun e w' => e = .returned (.bool true) ∧ Below w.heap.size w w' := by
  obtain ⟨t, ht, ht2⟩ := around_nat tick 6000 (by omega)
  have HT := Lib.hid ht
  have hti : i64 (t : Int) := ⟨by omega, by omega⟩
  have ht6 : (t : Int) + 1 ≤ 6000 := by omega
  obtain ⟨X, hX⟩ : ∃ X, X = listL t one := ⟨_, rfl⟩
  obtain ⟨Y, hY⟩ : ∃ Y, Y = listL t two := ⟨_, rfl⟩
  have hXl : X.length ≤ 6 := by rw [hX]; exact listL_len _ _
  have hYl : Y.length ≤ 6 := by rw [hY]; exact listL_len _ _
  have kX := Lib.hid (by rw [hX]; exact listL_ok _ _ hti : OkAll X)
  have kY := Lib.hid (by rw [hY]; exact listL_ok _ _ hti : OkAll Y)
  have wX := Lib.hid (wrong_ok (by omega) (by omega) (by omega) (by omega) (by rw [hX]; exact fun x hx => (listL_each _ _ hti x hx).1) : wrong 0 t X = 0)
  have wY := Lib.hid (wrong_ok (by omega) (by omega) (by omega) (by omega) (by rw [hY]; exact fun x hx => (listL_each _ _ hti x hx).1) : wrong 0 t Y = 0)
  have HX := Lib.hid hX
  have HY := Lib.hid hY
  obtain ⟨d3, hd3⟩ : ∃ d, d = diff Y X := ⟨_, rfl⟩
  obtain ⟨d4, hd4⟩ : ∃ d, d = diff X Y := ⟨_, rfl⟩
  have hl3 : d3.length ≤ 6 := by rw [hd3]; have := diff_len Y X; omega
  have hl4 : d4.length ≤ 6 := by rw [hd4]; have := diff_len X Y; omega
  have H3 := Lib.hid hd3
  have H4 := Lib.hid hd4
  clear ht hX hY hd3 hd4
  go_enter Try.func9, Try.ntmps9
  go_wp2_with fail
  refine (around_named tick 6000 t w h1 (by omega) (by omega) HT.out).mono ?_
  rintro e wz ⟨rfl, rfl⟩
  go_wp2_with fail
  refine (list_calls t one w hti h2).mono ?_
  rintro e w1 ⟨vx, rfl, ox, b1⟩
  rw [← HX.out] at ox
  obtain ⟨Ax, cx, rfl, _⟩ := ox.slice
  go_wp2_with fail
  refine (list_calls t two w1 hti h3).mono ?_
  rintro e w2 ⟨vy, rfl, oy, b2⟩
  rw [← HY.out] at oy
  obtain ⟨Ay, cy, rfl, _⟩ := oy.slice
  have R2 := (Rows.nil w2).cons (ox.row.below' b2) |>.cons oy.row
  have B2 := b1.trans (b2.mono b1.size)
  clear ox oy b1 b2
  go_wp2_with fail
  refine (new_calls w2).mono ?_
  rintro e w3 ⟨rfl, K3, b3⟩
  have R3 := R2.below' b3
  obtain ⟨m, hm⟩ : ∃ m, m = w2.heap.size := ⟨_, rfl⟩
  rw [← hm] at K3 ⊢
  have hmw : w.heap.size ≤ m := by have := B2.size; omega
  have B3 := B2.trans (b3.mono B2.size)
  clear R2 b3 hm
  go_wp2_with fail
  refine (show_one (m + 1) m [] t _ [] X X [] w3 K3 (.inl ⟨rfl, rfl⟩) (by simp) OkAll.nil (R3 (.slice Ax X.length cx, X) (by simp)) kX.out wX.out hti (diff_nil X).symm rfl).mono ?_
  rintro e w4 ⟨A1, q1, A2, q2, vc, X1, rfl, K4, s1, -, -, -, -, u4⟩
  have R4 := (R3.upd K3 u4 (by simp)).cons s1
  have U4 : Upd [m + 1, m] w3 w4 := u4.mono (fun i hi => .inl (by simp at hi; simp [hi]))
  clear R3 s1 u4
  go_wp2_with fail
  refine (show_one (m + 1) m _ t _ X Y d3 d4 w4 K4 (.inr ⟨_, rfl⟩) (by omega) kX.out (R4 (.slice Ay Y.length cy, Y) (by simp)) kY.out wY.out hti H3.out H4.out).mono ?_
  rintro e w5 ⟨A3, q3, A4, q4, vd, X2, rfl, K5, s3, s4, -, -, -, u5⟩
  have R5 := ((R4.upd K4 u5 (by simp)).cons s3).cons s4
  have U5 := U4.trans' u5 (fun i hi => .inl (by simp at hi; simp [hi]))
  clear R4 s3 s4 u5
  go_wp2_with fail
  refine (show_one (m + 1) m _ t _ Y X d4 d3 w5 K5 (.inr ⟨_, rfl⟩) (by omega) kY.out (R5 (.slice Ax X.length cx, X) (by simp)) kX.out wX.out hti H4.out H3.out).mono ?_
  rintro e w6 ⟨A5, q5, A6, q6, ve, X3, rfl, K6, s5, s6, -, -, -, u6⟩
  have R6 := ((R5.upd K5 u6 (by simp)).cons s5).cons s6
  have U6 := U5.trans' u6 (fun i hi => .inl (by simp at hi; simp [hi]))
  clear R5 s5 s6 u6 K3 K4 K5
  go_wp2_with fail
  refine (sameset_yes _ _ X w6 (R6 (.slice A1 X.length q1, X) (by simp)) (R6 (.slice Ax X.length cx, X) (by simp)) (by omega)).mono ?_
  rintro e w7 ⟨rfl, b7⟩
  have R7 := R6.below' b7
  have K7 := K6.below' b7
  have U7 := U6.new b7
  clear R6 K6 b7
  go_wp2_with fail
  refine (sameset_yes _ _ d4 w7 (R7 (.slice A5 d4.length q5, d4) (by simp)) (R7 (.slice A4 d4.length q4, d4) (by simp)) (by omega)).mono ?_
  rintro e w8 ⟨rfl, b8⟩
  have R8 := R7.below' b8
  have K8 := K7.below' b8
  have U8 := U7.new b8
  clear R7 K7 b8
  go_wp2_with fail
  refine (sameset_yes _ _ d3 w8 (R8 (.slice A6 d3.length q6, d3) (by simp)) (R8 (.slice A3 d3.length q3, d3) (by simp)) (by omega)).mono ?_
  rintro e w9 ⟨rfl, b9⟩
  have R9 := R8.below' b9
  have K9 := K8.below' b9
  have U9 := U8.new b9
  clear R8 K8 b9
  go_wp2_with fail
  refine (pending_calls (m + 1) m _ 0 w9 K9 (WOk.one (by show X.length ≤ 40; omega) kX.out hti)).mono ?_
  rintro e w10 ⟨vp, rfl, op, b10⟩
  rw [takeL_one (by omega)] at op
  obtain ⟨Ap, cp, rfl, _⟩ := op.slice
  have R10 := R9.below' b10
  have K10 := K9.below' b10
  have U10 := U9.new b10
  clear R9 K9 b10
  go_wp2_with fail
  refine (same_yes _ _ X w10 op.row (R10 (.slice Ax X.length cx, X) (by simp)) (by omega)).mono ?_
  rintro e w11 ⟨rfl, b11⟩
  have R11 := R10.below' b11
  have K11 := K10.below' b11
  have U11 := U10.new b11
  clear R10 K10 b11 op
  go_wp2_with fail
  refine (confirm_calls (m + 1) m _ 0 ((t : Int) + 1) w11 K11 (WOk.one (by show X.length ≤ 40; omega) kX.out hti) ⟨by omega, by omega⟩ (by omega)).mono ?_
  rintro e w12 ⟨vq, rfl, oq, -, u12⟩
  rw [takeL_one (by omega)] at oq
  obtain ⟨Aq, cq, rfl, _⟩ := oq.slice
  have R12 := R11.upd K11 u12 (fun i hi => hi)
  have U12 := U11.trans u12
  clear R11 K11
  go_wp2_with fail
  refine (same_yes _ _ X w12 oq.row (R12 (.slice Ax X.length cx, X) (by simp)) (by omega)).mono ?_
  rintro e w13 ⟨rfl, b13⟩
  have U13 := U12.new b13
  clear R12 oq b13
  go_wp2_with fail
  refine (lives_calls w13).mono ?_
  rintro e w14 ⟨rfl, b14⟩
  have U14 := U13.new b14
  go_wp2_with fail
  go_ret
  exact ⟨rfl, B3.trans (U14.below B3.size (fun i hi => by simp at hi; omega))⟩
end Go.Proofs.Ytlmmhgbbfmocaaa
