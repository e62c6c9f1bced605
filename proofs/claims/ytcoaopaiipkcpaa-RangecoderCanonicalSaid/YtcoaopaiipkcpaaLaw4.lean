/- RangecoderCanonical, walked. -/
import Derived.Test.YtcoaopaiipkcpaaLaw2
import Derived.Test.YtcoaopaiipkcpaaMal
import Derived.Deep.RegionHeld3
namespace Go.Proofs.Ytcoaopaiipkcpaa
open Go.RowKit Rc

/-- One of the two slices, wherever it lies. -/
structure Two (w : World) (ga k : Nat) (A : Option Addr) (c : Nat) (l : List Nat) : Prop where
  cell : w.cell? ⟨ga, k, none⟩ = some (.slice A l.length c)
  reads : Reads w (.slice A l.length c) (u8s l)
  lt : ∀ x ∈ l, x < 256
  len : l.length ≤ 2000
theorem Two.below {w w' : World} {ga k : Nat} {A : Option Addr} {c : Nat} {l : List Nat} (h : Two w ga k A c l) (hb : Below w.heap.size w w') (hg : ga < w.heap.size) : Two w' ga k A c l :=
  ⟨(hb.cell (p := ⟨ga, k, none⟩) hg).trans h.cell, h.reads.below hb, h.lt, h.len⟩

theorem Two.drewN {w : World} {ga k : Nat} {A : Option Addr} {c : Nat} {l : List Nat} (h : Two w ga k A c l) (n : Nat) : Two (w.drewN n) ga k A c l := ⟨h.cell, h.reads, h.lt, h.len⟩

set_option maxHeartbeats 4000000 in
set_option maxRecDepth 100000 in
theorem canonical_calls (v1 v2 : Value) (xs ys : List Nat) (at_ : Int) (by_ : Nat) (w : World) (h1 : Reads w v1 (u8s xs)) (h2 : Reads w v2 (u8s ys)) (hx : ∀ x ∈ xs, x < 256) (hy : ∀ x ∈ ys, x < 256) (l1 : xs.length ≤ 9223372036854775807) (l2 : ys.length ≤ 9223372036854775807)
    (ha1 : -9223372036854775808 ≤ at_) (ha2 : at_ ≤ 9223372036854775807) (hby : by_ < 256) :
    Calls Try.prog 5 #[v1, v2, .int .i64 at_, .int .u8 (by_ : Int)] w fun e w' => e = .returned (.bool true) ∧ Below w.heap.size w w' := by
  obtain ⟨r, hre⟩ : ∃ r, r = xs.take 40 := ⟨_, rfl⟩
  obtain ⟨y, hye⟩ : ∃ y, y = ys.take 40 := ⟨_, rfl⟩
  have hr8 : ∀ b ∈ r, b < 256 := by rw [hre]; exact take_lt hx 40
  have hy8 : ∀ b ∈ y, b < 256 := by rw [hye]; exact take_lt hy 40
  have hrl : r.length ≤ 40 := by rw [hre]; exact take_len xs 40
  have hyl : y.length ≤ 40 := by rw [hye]; exact take_len ys 40
  have HR := Lib.hid hre
  have HY := Lib.hid hye
  obtain ⟨p, hpe⟩ : ∃ p, p = enc y := ⟨_, rfl⟩
  have hp8 : ∀ b ∈ p, b < 256 := by rw [hpe]; exact enc_bytes (by omega)
  have hpl : p.length ≤ 2000 := by rw [hpe]; have := enc_len_le y; omega
  have hp1 : 1 ≤ p.length := by rw [hpe]; have := len_head y.length; unfold enc; rw [List.length_append]; omega
  have HP := Lib.hid hpe
  obtain ⟨k, hk⟩ : ∃ k : Nat, aroundZ at_ p.length = k := ⟨(aroundZ at_ p.length).toNat, by have := aroundZ_nonneg at_ p.length (by omega); omega⟩
  have hkp : k < p.length := by have := aroundZ_nonneg at_ p.length (by omega); omega
  have hk0 : (0 : Int) ≤ k := by omega
  have hk1 : (k : Int) < p.length := by omega
  have hpz : ((p.length : Int) == 0) = false := by rw [beq_eq_false_iff_ne]; omega
  have HK := Lib.hid hk
  clear hre hye hx hy hpe hk
  go_enter Try.func5, Try.ntmps5
  go_wp2_with fail
  refine (few_named v2 ys y 40 HY.out w h2 l2 (by omega)).mono ?_
  rintro e w1 ⟨A1, c1, rfl, o1, b1⟩
  have s1 := b1.size
  go_wp2_with fail
  refine (enc_named A1 c1 y p HP.out w1 o1.reads hy8 (by omega)).mono ?_
  rintro e w2 ⟨A2, c2, rfl, o2, b2⟩
  have B2 := b1.trans (b2.mono s1)
  have s2 := B2.size
  obtain ⟨g, c2', hf, hgb, hgl⟩ := World.ownsRow.form o2 (by omega)
  obtain rfl : A2 = some ⟨g, 0, none⟩ := by injection hf
  clear hf b1 b2 o1
  go_wp2_with fail
  refine (around_calls at_ p.length w2 ha1 ha2 (by omega) (by omega)).mono ?_
  rintro e w3 ⟨rfl, rfl⟩
  rw [HK.out]
  have hcell := (World.ownsRow.cellAt o2 k (by omega)).trans (u8s_get p k hkp)
  have hfr := World.ownsRow.frozenAt o2 k
  have hpk : p[k] < 256 := hp8 _ (List.getElem_mem hkp)
  obtain ⟨hxor, hxor2⟩ := xor_u8 p[k] by_ hpk hby
  obtain ⟨q, hq⟩ : ∃ q, q = p.set k (p[k] ^^^ by_) := ⟨_, rfl⟩
  have hql : q.length = p.length := by rw [hq, List.length_set]
  have hq8 : ∀ b ∈ q, b < 256 := by rw [hq]; exact set_lt hp8 k _ hxor2
  have oq : OwnB 5 (w3.setCell ⟨g, k, none⟩ (.int .u8 ((p[k] ^^^ by_ : Nat) : Int))) w1.heap.size (.slice (some ⟨g, 0, none⟩) q.length c2) q := by
    rw [hql, hq]
    exact o2.store rfl k _
  have B4 := B2.setCell (p := ⟨g, k, none⟩) (by show w.heap.size ≤ g; omega) (.int .u8 ((p[k] ^^^ by_ : Nat) : Int))
  have HXOR := Lib.hid hxor
  have HQL := Lib.hid hql
  generalize p[k] = pk at *
  clear hxor hq hql o2
  go_wp2_with fail
  rw [HXOR.out, ← HQL.out]
  generalize (w3.setCell ⟨g, k, none⟩ (.int .u8 ((pk ^^^ by_ : Nat) : Int))) = w4 at *
  have s4 := B4.size
  have hqll : q.length ≤ 2000 := by have := HQL.out; omega
  clear hcell hfr hgl B2 hpz hk1 hkp
  refine (few_named v1 xs r 40 HR.out w4 (h1.below B4) l1 (by omega)).mono ?_
  rintro e w5 ⟨A5, c5, rfl, o5, b5⟩
  have B5 := B4.trans (b5.mono s4)
  have s5 := B5.size
  have oq5 := oq.below' b5
  clear oq b5
  have T0 : Two (w5.alloc (.cells #[.slice A5 r.length c5, .slice (some ⟨g, 0, none⟩) q.length c2] 22)) w5.heap.size 0 A5 c5 r :=
    ⟨by simp, (OwnB.alloc o5 _).reads, hr8, by omega⟩
  have T1 : Two (w5.alloc (.cells #[.slice A5 r.length c5, .slice (some ⟨g, 0, none⟩) q.length c2] 22)) w5.heap.size 1 (some ⟨g, 0, none⟩) c2 q :=
    ⟨by simp, (OwnB.alloc oq5 _).reads, hq8, hqll⟩
  have B6 := B5.alloc s5 (.cells #[.slice A5 r.length c5, .slice (some ⟨g, 0, none⟩) q.length c2] 22)
  have s6 : w5.heap.size < (w5.alloc (.cells #[.slice A5 r.length c5, .slice (some ⟨g, 0, none⟩) q.length c2] 22)).heap.size := by simp
  clear o5 oq5
  go_wp2_with fail
  generalize (w5.alloc (.cells #[.slice A5 r.length c5, .slice (some ⟨g, 0, none⟩) q.length c2] 22)) = w6 at *
  generalize w5.heap.size = ga at *
  go_loopg [12] 2 (fun n i wr => ∃ j : Nat, j + n = 2 ∧ i = .int .i64 j ∧ Two wr ga 0 A5 c5 r ∧ Two wr ga 1 (some ⟨g, 0, none⟩) c2 q ∧ Below w.heap.size w wr ∧ ga < wr.heap.size)
  case atStart => exact ⟨0, rfl, rfl, T0, T1, B6, s6⟩
  case round =>
    obtain ⟨j, hj, rfl, T0, T1, B, hga⟩ := hrel
    by_cases hlt : j < 2
    · obtain ⟨A, c, l, T⟩ : ∃ A c l, Two wr ga j A c l := by
        rcases (by omega : j = 0 ∨ j = 1) with rfl | rfl
        · exact ⟨_, _, _, T0⟩
        · exact ⟨_, _, _, T1⟩
      obtain ⟨n1, out, hd⟩ : ∃ n1 out, decodeR l = (n1, out) := ⟨_, _, rfl⟩
      have hsound := decode_sound l
      have hdl := decode_len l
      have hdt := decode_lt l
      rw [hd] at hsound hdl hdt
      simp only at hsound hdl hdt
      have HD := Lib.hid hd
      have HS := Lib.hid hsound
      have HJ := Lib.hid hj
      have tc := T.cell
      have s := B.size
      have hj0 : (0 : Int) ≤ j := by omega
      have hj2 : (j : Int) < 2 := by omega
      clear hd hsound hj
      go_wp2_with fail
      refine (dec_named _ l n1 out HD.out wr T.reads T.lt (by have := T.len; omega)).mono ?_
      rintro e w7 ⟨A7, c7, rfl, o7, b7⟩
      have T' := T.below b7 hga
      have T0' := T0.below b7 hga
      have T1' := T1.below b7 hga
      have B7 := B.trans (b7.mono s)
      have s7 := B7.size
      have hga7 : ga < w7.heap.size := by have := b7.size; omega
      have tc7 := T'.cell
      have tl := T'.len
      have r7 := o7.reads
      obtain ⟨m1, hm1⟩ : ∃ m1, m1 = (parse l).1 := ⟨_, rfl⟩
      have HM1 := Lib.hid hm1
      have hcase : (n1 = 0 ∧ m1 = 0 ∧ enc out = l) ∨ (n1 = 8 ∧ m1 = 0 ∧ out = []) ∨ (n1 ≠ 0 ∧ m1 = n1 ∧ out = []) := by
        obtain ⟨q1, q2, q3, q4⟩ := HS.out
        by_cases hm0 : m1 = 0
        · rcases q4 (by rw [← hm1]; exact hm0) with h0 | h0
          · exact .inl ⟨h0, hm0, q1 h0⟩
          · exact .inr (.inl ⟨h0, hm0, q2 (by omega)⟩)
        · have := q3 (by rw [← hm1]; exact hm0)
          exact .inr (.inr ⟨by rw [this, ← hm1]; exact hm0, by rw [this, hm1], q2 (by rw [this, ← hm1]; exact hm0)⟩)
      clear hm1 T0 T1 T b7 tc o7
      rcases hcase with ⟨rfl, rfl, hen⟩ | ⟨rfl, rfl, rfl⟩ | ⟨hn0, rfl, rfl⟩
      · have HEN := Lib.hid hen
        clear hen
        have hdl6 : out.length ≤ 1000000 := by omega
        go_wp2_with fail
        refine wp_region_held_drew (S := fun w' => w'.cell? ⟨ga, j, none⟩ = some (.slice A l.length c)) (by kernel_rfl) tc7 (fun hHeld => ?_)
        refine wpAnyH_take (i := 0) (oi := ?o0) (v := ?v0) ?ho0 (by kernel_rfl) (by kernel_rfl) (by kernel_rfl) ?hq0 ?hy0 (by assumption) ?_
        case ho0 => (simp only [List.getElem?_toArray, List.getElem?_cons_zero]; rfl)
        case hq0 => exact fun _ _ _ h => h
        case hy0 => (refine Or.inl ⟨by rfl, ?_⟩; intro w hSw; (try dsimp only at hSw); go_simp; try (with_reducible rfl))
        try simp only [Act.put, List.setIfInBounds_toArray, List.set_cons_zero, List.set_cons_succ]
        refine wpAnyH_take (i := 1) (oi := ?o1) (v := ?v1) ?ho1 (by kernel_rfl) (by kernel_rfl) (by kernel_rfl) ?hq1 ?hy1 (by assumption) ?_
        case ho1 => (simp only [List.getElem?_toArray, List.getElem?_cons_succ, List.getElem?_cons_zero]; rfl)
        case hq1 => exact fun _ _ _ h => h
        case hy1 => (refine Or.inl ⟨by rfl, ?_⟩; intro w hSw; (try dsimp only at hSw); go_simp; try (with_reducible rfl))
        try simp only [Act.put, List.setIfInBounds_toArray, List.set_cons_zero, List.set_cons_succ]
        refine wpAnyH_take (i := 2) (oi := ?o2) (v := ?v2) ?ho2 (by kernel_rfl) (by kernel_rfl) (by kernel_rfl) ?hq2 ?hy2 (by assumption) ?_
        case ho2 => (simp only [List.getElem?_toArray, List.getElem?_cons_succ, List.getElem?_cons_zero]; rfl)
        case hq2 => exact fun _ _ _ h => h
        case hy2 => (refine Or.inl ⟨by rfl, ?_⟩; intro w hSw; (try dsimp only at hSw); go_simp; try (with_reducible rfl))
        try simp only [Act.put, List.setIfInBounds_toArray, List.set_cons_zero, List.set_cons_succ]
        refine wpAnyH_take (i := 3) (oi := ?o3) (v := ?v3) ?ho3 (by kernel_rfl) (by kernel_rfl) (by kernel_rfl) ?hq3 ?hy3 (by assumption) ?_
        case ho3 => (simp only [List.getElem?_toArray, List.getElem?_cons_succ, List.getElem?_cons_zero]; rfl)
        case hq3 => exact fun _ _ _ h => h
        case hy3 => (refine Or.inl ⟨by rfl, ?_⟩; intro w hSw; (try dsimp only at hSw); go_simp; try (with_reducible rfl))
        try simp only [Act.put, List.setIfInBounds_toArray, List.set_cons_zero, List.set_cons_succ]
        refine wpAnyH_take (i := 5) (oi := ?o5) (v := ?v5) ?ho5 (by kernel_rfl) (by kernel_rfl) (by kernel_rfl) ?hq5 ?hy5 (by assumption) ?_
        case ho5 => (simp only [List.getElem?_toArray, List.getElem?_cons_succ, List.getElem?_cons_zero]; rfl)
        case hq5 => exact fun _ _ _ h => h
        case hy5 => (refine Or.inl ⟨by rfl, ?_⟩; intro w hSw; (try dsimp only at hSw); go_simp; try (with_reducible rfl))
        try simp only [Act.put, List.setIfInBounds_toArray, List.set_cons_zero, List.set_cons_succ]
        refine wpAnyH_take (i := 6) (oi := ?o6) (v := ?v6) ?ho6 (by kernel_rfl) (by kernel_rfl) (by kernel_rfl) ?hq6 ?hy6 (by assumption) ?_
        case ho6 => (simp only [List.getElem?_toArray, List.getElem?_cons_succ, List.getElem?_cons_zero]; rfl)
        case hq6 => exact fun _ _ _ h => h
        case hy6 => (refine Or.inl ⟨by rfl, ?_⟩; intro w hSw; (try dsimp only at hSw); go_simp; try (with_reducible rfl))
        try simp only [Act.put, List.setIfInBounds_toArray, List.set_cons_zero, List.set_cons_succ]
        refine wpAnyH_take (i := 7) (oi := ?o7) (v := ?v7) ?ho7 (by kernel_rfl) (by kernel_rfl) (by kernel_rfl) ?hq7 ?hy7 (by assumption) ?_
        case ho7 => (simp only [List.getElem?_toArray, List.getElem?_cons_succ, List.getElem?_cons_zero]; rfl)
        case hq7 => exact fun _ _ _ h => h
        case hy7 => (refine Or.inl ⟨by rfl, ?_⟩; intro w hSw; (try dsimp only at hSw); go_simp; try (with_reducible rfl))
        try simp only [Act.put, List.setIfInBounds_toArray, List.set_cons_zero, List.set_cons_succ]
        refine wpAnyH_take (i := 8) (oi := ?o8) (v := ?v8) ?ho8 (by kernel_rfl) (by kernel_rfl) (by kernel_rfl) ?hq8 ?hy8 (by assumption) ?_
        case ho8 => (simp only [List.getElem?_toArray, List.getElem?_cons_succ, List.getElem?_cons_zero]; rfl)
        case hq8 => exact fun _ _ _ h => h
        case hy8 => (refine Or.inl ⟨by rfl, ?_⟩; intro w hSw; (try dsimp only at hSw); go_simp; try (with_reducible rfl))
        try simp only [Act.put, List.setIfInBounds_toArray, List.set_cons_zero, List.set_cons_succ]
        refine wpAnyH_ready (rs := [4]) (by kernel_rfl) (by simp) ?_
        refine AllReadyH.cons (o := ?o4) ?ho4 (fun K hK => ?_) AllReadyH.nil
        case ho4 => (simp only [List.getElem?_toArray, List.getElem?_cons_succ, List.getElem?_cons_zero]; rfl)
        go_simp
        refine (enc_named A7 c7 out l HEN.out.symm _ (r7.drewN 1) hdt hdl6).mono ?_
        rintro e w9 ⟨A9, c9, rfl, o9, b9⟩
        have tc9 := (b9.cell (p := ⟨ga, j, none⟩) hga7).trans tc7
        have z9 : w7.heap.size ≤ w9.heap.size := b9.size
        have hga9 : ga < w9.heap.size := Nat.lt_of_lt_of_le hga7 z9
        go_wp2_with fail
        refine hK.out _ _ tc9 (fun hHeld => ?_)
        clear hK K
        try simp only [Act.put, List.setIfInBounds_toArray, List.set_cons_zero, List.set_cons_succ]
        refine wpAnyH_ready (rs := [9]) (by kernel_rfl) (by simp) ?_
        refine AllReadyH.cons (o := ?o9) ?ho9 (fun K hK => ?_) AllReadyH.nil
        case ho9 => (simp only [List.getElem?_toArray, List.getElem?_cons_succ, List.getElem?_cons_zero]; rfl)
        go_simp
        refine (same_calls_b _ _ l l true (by simp) _ (OwnB.reads o9) ((T'.reads.drewN 1).below b9) (by omega) (by omega)).mono ?_
        rintro e w10 ⟨rfl, b10⟩
        have tc10 := (b10.cell (p := ⟨ga, j, none⟩) hga9).trans tc9
        go_wp2_with fail
        refine hK.out _ _ tc10 (fun hHeld => ?_)
        clear hK K
        try simp only [Act.put, List.setIfInBounds_toArray, List.set_cons_zero, List.set_cons_succ]
        refine wpAnyH_take (i := 10) (oi := ?o10) (v := ?v10) ?ho10 (by kernel_rfl) (by kernel_rfl) (by kernel_rfl) ?hq10 ?hy10 (by assumption) ?_
        case ho10 => (simp only [List.getElem?_toArray, List.getElem?_cons_succ, List.getElem?_cons_zero]; rfl)
        case hq10 => exact fun _ _ _ h => h
        case hy10 => (refine Or.inl ⟨by rfl, ?_⟩; intro w hSw; (try dsimp only at hSw); go_simp; try (with_reducible rfl))
        try simp only [Act.put, List.setIfInBounds_toArray, List.set_cons_zero, List.set_cons_succ]
        refine wpAnyH_take (i := 11) (oi := ?o11) (v := ?v11) ?ho11 (by kernel_rfl) (by kernel_rfl) (by kernel_rfl) ?hq11 ?hy11 (by assumption) ?_
        case ho11 => (simp only [List.getElem?_toArray, List.getElem?_cons_succ, List.getElem?_cons_zero]; rfl)
        case hq11 => exact fun _ _ _ h => h
        case hy11 => (refine Or.inl ⟨by rfl, ?_⟩; intro w hSw; (try dsimp only at hSw); go_simp; try (with_reducible rfl))
        try simp only [Act.put, List.setIfInBounds_toArray, List.set_cons_zero, List.set_cons_succ]
        refine wpAnyH_take (i := 12) (oi := ?o12) (v := ?v12) ?ho12 (by kernel_rfl) (by kernel_rfl) (by kernel_rfl) ?hq12 ?hy12 (by assumption) ?_
        case ho12 => (simp only [List.getElem?_toArray, List.getElem?_cons_succ, List.getElem?_cons_zero]; rfl)
        case hq12 => exact fun _ _ _ h => h
        case hy12 => (refine Or.inl ⟨by rfl, ?_⟩; intro w hSw; (try dsimp only at hSw); go_simp; try (with_reducible rfl))
        try simp only [Act.put, List.setIfInBounds_toArray, List.set_cons_zero, List.set_cons_succ]
        refine wpAnyH_take (i := 13) (oi := ?o13) (v := ?v13) ?ho13 (by kernel_rfl) (by kernel_rfl) (by kernel_rfl) ?hq13 ?hy13 (by assumption) ?_
        case ho13 => (simp only [List.getElem?_toArray, List.getElem?_cons_succ, List.getElem?_cons_zero]; rfl)
        case hq13 => exact fun _ _ _ h => h
        case hy13 => (refine Or.inl ⟨by rfl, ?_⟩; intro w hSw; (try dsimp only at hSw); go_simp; try (with_reducible rfl))
        try simp only [Act.put, List.setIfInBounds_toArray, List.set_cons_zero, List.set_cons_succ]
        refine wpAnyH_take (i := 14) (oi := ?o14) (v := ?v14) ?ho14 (by kernel_rfl) (by kernel_rfl) (by kernel_rfl) ?hq14 ?hy14 (by assumption) ?_
        case ho14 => (simp only [List.getElem?_toArray, List.getElem?_cons_succ, List.getElem?_cons_zero]; rfl)
        case hq14 => exact fun _ _ _ h => h
        case hy14 => (refine Or.inl ⟨by rfl, ?_⟩; intro w hSw; (try dsimp only at hSw); go_simp; try (with_reducible rfl))
        try simp only [Act.put, List.setIfInBounds_toArray, List.set_cons_zero, List.set_cons_succ]
        refine wpAnyH_take (i := 15) (oi := ?o15) (v := ?v15) ?ho15 (by kernel_rfl) (by kernel_rfl) (by kernel_rfl) ?hq15 ?hy15 (by assumption) ?_
        case ho15 => (simp only [List.getElem?_toArray, List.getElem?_cons_succ, List.getElem?_cons_zero]; rfl)
        case hq15 => exact fun _ _ _ h => h
        case hy15 => (refine Or.inl ⟨by rfl, ?_⟩; intro w hSw; (try dsimp only at hSw); go_simp; try (with_reducible rfl))
        try simp only [Act.put, List.setIfInBounds_toArray, List.set_cons_zero, List.set_cons_succ]
        refine wpAnyH_take (i := 16) (oi := ?o16) (v := undef) ?ho16 (by kernel_rfl) (by kernel_rfl) (by kernel_rfl) ?hq16 ?hy16 (by assumption) ?_
        case ho16 => (simp only [List.getElem?_toArray, List.getElem?_cons_succ, List.getElem?_cons_zero]; rfl)
        case hq16 => exact fun _ _ _ h => h
        case hy16 => exact Or.inr ⟨by rfl, rfl⟩
        try simp only [Act.put, List.setIfInBounds_toArray, List.set_cons_zero, List.set_cons_succ]
        refine wpAnyH_take (i := 17) (oi := ?o17) (v := undef) ?ho17 (by kernel_rfl) (by kernel_rfl) (by kernel_rfl) ?hq17 ?hy17 (by assumption) ?_
        case ho17 => (simp only [List.getElem?_toArray, List.getElem?_cons_succ, List.getElem?_cons_zero]; rfl)
        case hq17 => exact fun _ _ _ h => h
        case hy17 => exact Or.inr ⟨by rfl, rfl⟩
        try simp only [Act.put, List.setIfInBounds_toArray, List.set_cons_zero, List.set_cons_succ]
        refine wpAnyH_take (i := 18) (oi := ?o18) (v := undef) ?ho18 (by kernel_rfl) (by kernel_rfl) (by kernel_rfl) ?hq18 ?hy18 (by assumption) ?_
        case ho18 => (simp only [List.getElem?_toArray, List.getElem?_cons_succ, List.getElem?_cons_zero]; rfl)
        case hq18 => exact fun _ _ _ h => h
        case hy18 => exact Or.inr ⟨by rfl, rfl⟩
        try simp only [Act.put, List.setIfInBounds_toArray, List.set_cons_zero, List.set_cons_succ]
        refine wpAnyH_take (i := 19) (oi := ?o19) (v := ?v19) ?ho19 (by kernel_rfl) (by kernel_rfl) (by kernel_rfl) ?hq19 ?hy19 (by assumption) ?_
        case ho19 => (simp only [List.getElem?_toArray, List.getElem?_cons_succ, List.getElem?_cons_zero]; rfl)
        case hq19 => exact fun _ _ _ h => h
        case hy19 => (refine Or.inl ⟨by rfl, ?_⟩; intro w hSw; (try dsimp only at hSw); go_simp; try (with_reducible rfl))
        try simp only [Act.put, List.setIfInBounds_toArray, List.set_cons_zero, List.set_cons_succ]
        refine wpAnyH_take (i := 20) (oi := ?o20) (v := ?v20) ?ho20 (by kernel_rfl) (by kernel_rfl) (by kernel_rfl) ?hq20 ?hy20 (by assumption) ?_
        case ho20 => (simp only [List.getElem?_toArray, List.getElem?_cons_succ, List.getElem?_cons_zero]; rfl)
        case hq20 => exact fun _ _ _ h => h
        case hy20 => (refine Or.inl ⟨by rfl, ?_⟩; intro w hSw; (try dsimp only at hSw); go_simp; try (with_reducible rfl))
        try simp only [Act.put, List.setIfInBounds_toArray, List.set_cons_zero, List.set_cons_succ]
        refine wpAnyH_done (by kernel_rfl) ?_ _
        have b12 : Below w7.heap.size w7 w10 := ((below_drewN (Below.refl w7.heap.size w7) 1).trans b9).trans (b10.mono z9)
        have T2 := T'.below b12 hga7
        have T3 := T0'.below b12 hga7
        have T4 := T1'.below b12 hga7
        have B13 := B7.trans (b12.mono s7)
        have hga10 : ga < w10.heap.size := Nat.lt_of_lt_of_le hga7 b12.size
        clear T' T0' T1' tc7 r7 o9 b9 tc9 b10 b12
        go_wp2_with fail
        refine (mal_calls _ l _ T2.reads T2.lt (by have := T2.len; omega)).mono ?_
        rintro e w14 ⟨rfl, rfl⟩
        rw [← HM1.out]
        go_wp2_with fail
        have hj := HJ.out
        go_roundg (gk - 1)
        case measure => omega
        case rel => exact ⟨j + 1, by omega, by go_num, T3, T4, B13, hga10⟩
      · go_wp2_with fail
        go_quiet (fail)
        have T8 := T'.drewN nq
        have b8 := below_drewN (Below.refl w7.heap.size w7) nq
        go_wp2_with fail
        refine (mal_calls _ l _ T8.reads T8.lt (by have := T8.len; omega)).mono ?_
        rintro e w9 ⟨rfl, rfl⟩
        rw [← HM1.out]
        go_wp2_with fail
        have hj := HJ.out
        go_roundg (gk - 1)
        case measure => omega
        case rel => exact ⟨j + 1, by omega, by go_num, T0'.drewN nq, T1'.drewN nq, below_drewN B7 nq, hga7⟩
      · have hn0' : ((m1 : Int) == 0) = false := by rw [beq_eq_false_iff_ne]; omega
        have hn1' : ((m1 : Int) != 0) = true := by rw [bne_iff_ne]; omega
        have hn2' : ((m1 : Int) != (m1 : Int)) = false := by simp
        clear hn0
        go_wp2_with fail
        go_quiet (fail)
        have T8 := T'.drewN nq
        have b8 := below_drewN (Below.refl w7.heap.size w7) nq
        go_wp2_with fail
        refine (mal_calls _ l _ T8.reads T8.lt (by have := T8.len; omega)).mono ?_
        rintro e w9 ⟨rfl, rfl⟩
        rw [← HM1.out]
        go_wp2_with fail
        have hj := HJ.out
        go_roundg (gk - 1)
        case measure => omega
        case rel => exact ⟨j + 1, by omega, by go_num, T0'.drewN nq, T1'.drewN nq, below_drewN B7 nq, hga7⟩
    · obtain rfl : j = 2 := by omega
      clear hj
      go_wp2_with fail
      refine (lives_named wr).mono ?_
      rintro e w12 ⟨rfl, b12⟩
      have B12 := B.trans (b12.mono B.size)
      go_wp2_with fail
      go_ret
      exact ⟨rfl, B12⟩
end Go.Proofs.Ytcoaopaiipkcpaa
