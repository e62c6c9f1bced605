/- EffectsOwnership, walked. -/
import Derived.Test.YtlmmhgbbfmocaaaTwo
namespace Go.Proofs.Ytlmmhgbbfmocaaa
open Go.RowKit

/-- A slice of effects, whatever they are. -/
def Loose (w : World) (v : Value) (n : Nat) : Prop :=
  ∃ A c, v = .slice A n c ∧ n ≤ c ∧ ((A = none ∧ n = 0) ∨ ∃ g o cs, A = some ⟨g, o, none⟩ ∧ Blk w g 51 cs ∧ ∀ j, j < n * 4 → ∃ z : Int, cs[o + j]? = some (.int .i64 z))
theorem all_int (l : List Eff) : ∀ j, j < l.length * 4 → ∃ z : Int, (effE.all l)[j]? = some (.int .i64 z) := by
  intro j hj
  have h1 : j / 4 < l.length := by omega
  have h2 : j = j / 4 * 4 + j % 4 := by omega
  have key : ∀ i u, (effE.cells l[j / 4])[i]? = some u → (effE.all l)[j / 4 * 4 + i]? = some u := effE.all_get l (j / 4) h1
  rw [h2]
  have h3 : j % 4 = 0 ∨ j % 4 = 1 ∨ j % 4 = 2 ∨ j % 4 = 3 := by omega
  rcases h3 with h | h | h | h <;> rw [h]
  · exact ⟨_, key 0 _ rfl⟩
  · exact ⟨_, key 1 _ rfl⟩
  · exact ⟨_, key 2 _ rfl⟩
  · exact ⟨_, key 3 _ rfl⟩
theorem Row.loose {w : World} {v : Value} {l : List Eff} (h : Row effE w v l) : Loose w v l.length := by
  obtain ⟨A, c, rfl, hc, hr⟩ := h
  refine ⟨A, c, rfl, hc, ?_⟩
  rcases hr with ⟨rfl, rfl⟩ | ⟨g, o, cs, rfl, hb, hcell⟩
  · exact .inl ⟨rfl, rfl⟩
  · refine .inr ⟨g, o, cs, rfl, hb, fun j hj => ?_⟩
    obtain ⟨z, hz⟩ := all_int l j hj
    exact ⟨z, hcell j _ hz⟩
theorem Loose.below' {w w' : World} {v : Value} {n : Nat} (h : Loose w v n) (hb : Below w.heap.size w w') : Loose w' v n := by
  obtain ⟨A, c, rfl, hc, hr⟩ := h
  refine ⟨A, c, rfl, hc, ?_⟩
  rcases hr with h | ⟨g, o, cs, rfl, hbk, hcell⟩
  · exact .inl h
  · exact .inr ⟨g, o, cs, rfl, hbk.below' hb, hcell⟩
theorem Loose.put {w : World} {v : Value} {n : Nat} (h : Loose w v n) (g i : Nat) (z : Int) : Loose (w.setCell ⟨g, i, none⟩ (.int .i64 z)) v n := by
  obtain ⟨A, c, rfl, hc, hr⟩ := h
  refine ⟨A, c, rfl, hc, ?_⟩
  rcases hr with h | ⟨g', o, cs, rfl, hbk, hcell⟩
  · exact .inl h
  · by_cases hg : g' = g
    · subst hg
      refine .inr ⟨g', o, _, rfl, hbk.put i _, fun j hj => ?_⟩
      obtain ⟨y, hy⟩ := hcell j hj
      rw [Array.getElem?_setIfInBounds]
      by_cases hi : i = o + j
      · subst hi
        have : o + j < cs.size := by
          rcases Nat.lt_or_ge (o + j) cs.size with h | h
          · exact h
          · rw [Array.getElem?_eq_none h] at hy; cases hy
        rw [if_pos rfl, if_pos this]
        exact ⟨z, rfl⟩
      · rw [if_neg hi]
        exact ⟨y, hy⟩
    · exact .inr ⟨g', o, cs, rfl, hbk.far (p := ⟨g, i, none⟩) hg _, hcell⟩
theorem Loose.at_ {w : World} {A : Option Addr} {n n' c : Nat} (h : Loose w (.slice A n' c) n) {k : Nat} (hk : k < n) (f : Nat) (hf : f < 4) : ∃ g o z, A = some ⟨g, o, none⟩ ∧ g < w.heap.size ∧ w.cell? ⟨g, o + k * 4 + f, none⟩ = some (.int .i64 z) ∧ w.frozen? ⟨g, o + k * 4 + f, none⟩ = false := by
  obtain ⟨A', c', he, hc, hr⟩ := h
  injection he with e1 e2 e3
  subst e1
  rcases hr with ⟨_, h0⟩ | ⟨g, o, cs, rfl, hbk, hcell⟩
  · omega
  · obtain ⟨z, hz⟩ := hcell (k * 4 + f) (by omega)
    exact ⟨g, o, z, rfl, hbk.lt, by rw [hbk.cell, Nat.add_assoc]; exact hz, hbk.frozen _⟩

structure OwnSt (w0 w : World) (m N : Nat) (t : Int) (vc vl : Value) (X : List Eff) (vs : List Value) : Prop where
  brd : BoardAt w (m + 1) m [(t, vc, X)] 0
  row : Row effE w vl X
  loose : ∀ v ∈ vs, Loose w v N
  apart : ∀ v ∈ vs, ∀ k, v.ownBlock = some k → w0.heap.size ≤ k ∧ some k ≠ vc.ownBlock ∧ some k ≠ vl.ownBlock ∧ k ≠ m ∧ k ≠ m + 1
  below : Below w0.heap.size w0 w
theorem OwnSt.put {w0 w : World} {m N : Nat} {t : Int} {vc vl : Value} {X : List Eff} {vs : List Value} (h : OwnSt w0 w m N t vc vl X vs) {g o n c : Nat} (hv : Value.slice (some ⟨g, o, none⟩) n c ∈ vs) (i : Nat) (z : Int) : OwnSt w0 (w.setCell ⟨g, i, none⟩ (.int .i64 z)) m N t vc vl X vs := by
  obtain ⟨h1, h2, h3, h4, h5⟩ := h.apart _ hv g rfl
  have hu : Upd [g] w (w.setCell ⟨g, i, none⟩ (.int .i64 z)) := (Upd.refl [g] w).setCell (.inl (by simp)) _
  refine ⟨h.brd.upd hu (by simp; omega) (by simp; omega) (fun p hp k hk hi => ?_), h.row.upd hu (fun k hk hi => ?_), fun v hv => (h.loose v hv).put g i z, h.apart, h.below.setCell (p := ⟨g, i, none⟩) h1 _⟩
  · simp only [List.mem_singleton] at hp hi
    subst hp hi
    exact h2 hk.symm
  · simp only [List.mem_singleton] at hi
    subst hi
    exact h3 hk.symm

set_option maxHeartbeats 1000000 in
set_option maxRecDepth 100000 in
theorem ownership_calls (tick one by_ : Int) (w : World) (h1 : i64 tick) (h2 : i64 one) (_h3 : i64 by_) :
    Calls Try.prog 10 #[.int .i64 tick, .int .i64 one, .int .i64 by_] w fun e w' => e = .returned (.bool true) ∧ Below w.heap.size w w' := by
  obtain ⟨t, ht, ht2⟩ := around_nat tick 6000 (by omega)
  have HT := Lib.hid ht
  have hti : i64 (t : Int) := ⟨by omega, by omega⟩
  obtain ⟨X, hX⟩ : ∃ X, X = listL t one := ⟨_, rfl⟩
  have hXl : X.length ≤ 6 := by rw [hX]; exact listL_len _ _
  have kX := Lib.hid (by rw [hX]; exact listL_ok _ _ hti : OkAll X)
  have wX := Lib.hid (wrong_ok (by omega) (by omega) (by omega) (by omega) (by rw [hX]; exact fun x hx => (listL_each _ _ hti x hx).1) : wrong 0 t X = 0)
  have HX := Lib.hid hX
  clear ht hX
  go_enter Try.func10, Try.ntmps10
  go_wp2_with fail
  refine (around_named tick 6000 t w h1 (by omega) (by omega) HT.out).mono ?_
  rintro e wz ⟨rfl, rfl⟩
  go_wp2_with fail
  refine (list_calls t one w hti h2).mono ?_
  rintro e w1 ⟨vx, rfl, ox, b1⟩
  rw [← HX.out] at ox
  obtain ⟨Ax, cx, rfl, _⟩ := ox.slice
  go_wp2_with fail
  refine (list_calls t one w1 hti h2).mono ?_
  rintro e w2 ⟨vy, rfl, oy, b2⟩
  rw [← HX.out] at oy
  obtain ⟨Ay, cy, rfl, _⟩ := oy.slice
  have B2 := b1.trans (b2.mono b1.size)
  have rx2 := ox.row.below' b2
  have lx := ox.lt
  have gy := oy.ge
  have sz1 := b1.size
  have ly := oy.lt
  clear ox b1 b2
  go_wp2_with fail
  refine (new_calls w2).mono ?_
  rintro e w3 ⟨rfl, K3, b3⟩
  obtain ⟨m, hm⟩ : ∃ m, m = w2.heap.size := ⟨_, rfl⟩
  have rx3 := rx2.below' b3
  have ry3 := oy.row.below' b3
  have gl := K3.blk.lt
  rw [← hm] at K3 gl ly ⊢
  have hmw : w.heap.size ≤ m := by have := B2.size; omega
  have B3 := B2.trans (b3.mono B2.size)
  have KK3 := Lib.hid K3
  clear oy b3 hm B2 rx2
  go_wp2_with fail
  refine (show_named (m + 1) m [] 0 t _ X X [] w3 K3 WOk.nil ry3 kX.out wX.out (diff_nil X).symm rfl).mono ?_
  rintro e w4 ⟨A1, q1, A2, q2, vc, Bb, rfl, K4, o1, -, hB, hv, u4⟩
  rw [mput_nil] at K4
  have rx4 := KK3.out.row_upd rx3 u4 (fun i hi => by simp at hi; simp [hi])
  have ry4 := KK3.out.row_upd ry3 u4 (fun i hi => by simp at hi; simp [hi])
  have hax := KK3.out.apart rx3
  have hay := KK3.out.apart ry3
  have B4 : Below w.heap.size w w4 := B3.trans (u4.below B3.size (fun i hi => by simp at hi; omega))
  have lx3 := rx3.lt
  have ly3 := ry3.lt
  have g1 := o1.ge
  have r1 := o1.row
  have a1 := K4.apart r1
  have HV := Lib.hid hv
  have l1 := r1.lt
  clear u4 rx3 ry3 B3 hv o1 K3
  go_wp2_with fail
  refine (pending_calls (m + 1) m _ 0 w4 K4 (WOk.one (by show X.length ≤ 40; omega) kX.out hti)).mono ?_
  rintro e w5 ⟨vp, rfl, op, b5⟩
  rw [takeL_one (by omega)] at op
  obtain ⟨Ap, cp, rfl, _⟩ := op.slice
  have K5 := K4.below' b5
  have ap := K5.apart op.row
  have gp := op.ge
  have hB4 := hB
  obtain ⟨N, hN⟩ : ∃ N, N = X.length := ⟨_, rfl⟩
  have S5 : OwnSt w w5 m N t vc (.slice Ax X.length cx) X [.slice Ay N cy, .slice A1 N q1, .slice Ap N cp] := by
    subst hN
    refine ⟨K5, rx4.below' b5, ?_, ?_, B4.trans (b5.mono B4.size)⟩
    · intro v hv
      simp only [List.mem_cons, List.not_mem_nil, or_false] at hv
      rcases hv with rfl | rfl | rfl
      · exact (ry4.below' b5).loose
      · exact (r1.below' b5).loose
      · exact op.row.loose
    · intro v hv k hk
      simp only [List.mem_cons, List.not_mem_nil, or_false] at hv
      have hsz := B4.size
      have hvl : ∀ k, vc.ownBlock = some k → k < w4.heap.size := (K4.rows (t, vc, X) (by simp)).lt
      rcases hv with rfl | rfl | rfl
      · have e1 := gy k hk
        have e2 := hay k hk
        simp at e2
        exact ⟨by omega, fun e => by have := (HV.out k e.symm).1; have := ly3 k hk; omega, fun e => by have := lx k e.symm; omega, by omega, by omega⟩
      · have e1 := g1 k hk
        have e2 := a1 k hk
        simp at e2
        have e3 := hB
        exact ⟨by omega, fun e => by have := (HV.out k e.symm).2; omega, fun e => by have := lx3 k e.symm; omega, by omega, by omega⟩
      · have e1 := gp k hk
        have e2 := ap k hk
        simp at e2
        exact ⟨by omega, fun e => by have := hvl k e.symm; omega, fun e => by have := rx4.lt k e.symm; omega, by omega, by omega⟩
  have HN := Lib.hid hN
  rw [← hN] at hXl ⊢
  clear hN K4 K5 ap gp op b5 rx4 ry4 r1 a1 g1 l1 lx3 ly3 hax hay HV hB hB4 B4 KK3 lx gy ly
  have HS5 := Lib.hid S5
  clear S5
  go_wp2_with fail
  go_loopg [15] N (fun n iv wr => ∃ (k : Nat), k + n = N ∧ iv = .int .i64 k ∧ OwnSt w wr m N t vc (.slice Ax X.length cx) X [.slice Ay N cy, .slice A1 N q1, .slice Ap N cp])
  case atStart => exact ⟨0, by omega, rfl, HS5.out⟩
  case round =>
    obtain ⟨k, hk, rfl, S⟩ := hrel
    have HK := Lib.hid hk
    have hkN : k ≤ N := by omega
    clear hk
    by_cases hlt : k < N
    · obtain ⟨g, o, z, rfl, hg, c0, f0⟩ := (S.loose (.slice Ay N cy) (by simp)).at_ hlt 2 (by omega)
      have hi0 : (0 : Int) ≤ k := by omega
      have hi1 : (k : Int) < N := by omega
      have HS := Lib.hid S
      clear S
      go_wp2_with fail
      have hk := HK.out
      go_roundg (gk - 1)
      case measure => omega
      case rel => exact ⟨k + 1, by omega, by go_num, HS.out.put (g := g) (o := o) (n := N) (c := cy) (by simp) _ _⟩
    · obtain rfl : N = k := by omega
      have S6 := S
      clear S hlt HS5 HK
      obtain ⟨w6, rfl⟩ : ∃ y : World, y = wr := ⟨_, rfl⟩
      have HS6 := Lib.hid S6
      clear S6
      go_wp2_with fail
      go_loopg [16] N (fun n iv wr => ∃ (k : Nat), k + n = N ∧ iv = .int .i64 k ∧ OwnSt w wr m N t vc (.slice Ax X.length cx) X [.slice Ay N cy, .slice A1 N q1, .slice Ap N cp])
      case atStart => exact ⟨0, by omega, rfl, HS6.out⟩
      case round =>
        obtain ⟨k, hk, rfl, S⟩ := hrel
        have HK := Lib.hid hk
        have hkN : k ≤ N := by omega
        clear hk
        by_cases hlt : k < N
        · obtain ⟨g, o, z, rfl, hg, c0, f0⟩ := (S.loose (.slice A1 N q1) (by simp)).at_ hlt 3 (by omega)
          have hi0 : (0 : Int) ≤ k := by omega
          have hi1 : (k : Int) < N := by omega
          have HS := Lib.hid S
          clear S
          go_wp2_with fail
          have hk := HK.out
          go_roundg (gk - 1)
          case measure => omega
          case rel => exact ⟨k + 1, by omega, by go_num, HS.out.put (g := g) (o := o) (n := N) (c := q1) (by simp) _ _⟩
        · obtain rfl : N = k := by omega
          have S7 := S
          clear S hlt HS6 HK
          obtain ⟨w7, rfl⟩ : ∃ y : World, y = wr := ⟨_, rfl⟩
          have HS7 := Lib.hid S7
          clear S7
          go_wp2_with fail
          go_loopg [17] N (fun n iv wr => ∃ (k : Nat), k + n = N ∧ iv = .int .i64 k ∧ OwnSt w wr m N t vc (.slice Ax X.length cx) X [.slice Ay N cy, .slice A1 N q1, .slice Ap N cp])
          case atStart => exact ⟨0, by omega, rfl, HS7.out⟩
          case round =>
            obtain ⟨k, hk, rfl, S⟩ := hrel
            have HK := Lib.hid hk
            have hkN : k ≤ N := by omega
            clear hk
            by_cases hlt : k < N
            · obtain ⟨g, o, z, rfl, hg, c0, f0⟩ := (S.loose (.slice Ap N cp) (by simp)).at_ hlt 1 (by omega)
              have hi0 : (0 : Int) ≤ k := by omega
              have hi1 : (k : Int) < N := by omega
              have HS := Lib.hid S
              clear S
              go_wp2_with fail
              have hk := HK.out
              go_roundg (gk - 1)
              case measure => omega
              case rel => exact ⟨k + 1, by omega, by go_num, HS.out.put (g := g) (o := o) (n := N) (c := cp) (by simp) _ _⟩
            · obtain rfl : N = k := by omega
              have S8 := S
              clear S hlt HS7 HK
              obtain ⟨w8, rfl⟩ : ∃ y : World, y = wr := ⟨_, rfl⟩
              go_wp2_with fail
              refine (pending_calls (m + 1) m _ 0 w8 S8.brd (WOk.one (by show X.length ≤ 40; rw [← HN.out]; omega) kX.out hti)).mono ?_
              rintro e w9 ⟨vr, rfl, or_, b9⟩
              rw [takeL_one (by omega)] at or_
              have rx9 : Row effE w9 (.slice Ax N cx) X := by
                have h := S8.row.below' b9
                rw [← HN.out] at h
                exact h
              have B9 := S8.below.trans (b9.mono S8.below.size)
              go_wp2_with fail
              refine (same_yes _ _ X w9 or_.row rx9 (by rw [← HN.out]; omega)).mono ?_
              rintro e w10 ⟨rfl, b10⟩
              have B10 := B9.trans (b10.mono B9.size)
              go_wp2_with fail
              refine (lives_calls w10).mono ?_
              rintro e w11 ⟨rfl, b11⟩
              have B11 := B10.trans (b11.mono B10.size)
              go_wp2_with fail
              go_ret
              exact ⟨rfl, B11⟩
end Go.Proofs.Ytlmmhgbbfmocaaa
