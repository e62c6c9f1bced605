/- RangecoderLength, walked. -/
import Derived.Test.YtcoaopaiipkcpaaLaw2
import Derived.Test.YtcoaopaiipkcpaaDigits
namespace Go.Proofs.Ytcoaopaiipkcpaa
open Go.RowKit Rc

set_option maxHeartbeats 4000000 in
set_option maxRecDepth 100000 in
theorem lawlen_calls (at_ sur cut : Int) (w : World) (ha1 : -9223372036854775808 ≤ at_) (ha2 : at_ ≤ 9223372036854775807) (hs1 : -9223372036854775808 ≤ sur) (hs2 : sur ≤ 9223372036854775807) (hc1 : -9223372036854775808 ≤ cut) (hc2 : cut ≤ 9223372036854775807) :
    Calls Try.prog 7 #[.int .i64 at_, .int .i64 sur, .int .i64 cut] w fun e w' => e = .returned (.bool true) ∧ Below w.heap.size w w' := by
  obtain ⟨z, hz⟩ : ∃ z, aroundZ at_ 34359738368 = z := ⟨_, rfl⟩
  have hzb := aroundZ_nonneg at_ 34359738368 (by omega)
  rw [hz] at hzb
  have htd : -9223372036854775808 ≤ at_.tdiv 2 ∧ at_.tdiv 2 ≤ 9223372036854775807 := by
    rcases Int.lt_or_le at_ 0 with h | h
    · obtain ⟨b, rfl⟩ : ∃ b, at_ = -b := ⟨-at_, by omega⟩
      rw [Int.neg_tdiv, Int.tdiv_eq_ediv_of_nonneg (by omega)]
      omega
    · rw [Int.tdiv_eq_ediv_of_nonneg h]
      omega
  obtain ⟨k, hkl, hk⟩ : ∃ k : Nat, k < 34359738368 ∧ (((at_.tmod 2 == 0) = true ∧ aroundZ (at_.tdiv 2) 8000 = k) ∨ ((at_.tmod 2 == 0) = false ∧ z = k)) := by
    by_cases hp : at_.tmod 2 = 0
    · have := aroundZ_nonneg (at_.tdiv 2) 8000 (by omega)
      exact ⟨(aroundZ (at_.tdiv 2) 8000).toNat, by omega, .inl ⟨by simp [hp], by omega⟩⟩
    · exact ⟨z.toNat, by omega, .inr ⟨by simp [hp], by omega⟩⟩
  obtain ⟨l, hle⟩ : ∃ l, l = len k := ⟨_, rfl⟩
  obtain ⟨ds, d, hld, hds, hd⟩ := len_digits hkl
  rw [← hle] at hld
  have hl21 : l.length ≤ 21 := by rw [hle]; exact len_len k
  have hl8 : ∀ b ∈ l, b < 256 := by rw [hle]; exact len_bytes hkl
  have hdsl : l.length = ds.length + 1 := by rw [hld]; simp
  obtain ⟨n1, d1, hd1⟩ : ∃ n1 d1, decodeR l = (n1, d1) := ⟨_, _, rfl⟩
  have hn1 : n1 = if k = 0 then 0 else if 4000 < k then 2 else 8 := by
    have := dec_length hkl
    rw [← hle, hd1] at this
    exact this
  obtain ⟨c, hc⟩ : ∃ c : Nat, aroundZ cut l.length = c := ⟨(aroundZ cut l.length).toNat, by have := aroundZ_nonneg cut l.length (by omega); omega⟩
  have hcl : c < l.length := by have := aroundZ_nonneg cut l.length (by omega); omega
  have hd2 : decodeR (l.take c) = (7, []) := by
    apply dec_short
    intro x hx
    rw [hld, List.take_append_of_le_length (by omega)] at hx
    exact (hds x (List.mem_of_mem_take hx)).1
  obtain ⟨r, hr⟩ : ∃ r : Nat, aroundZ sur 4 = r := ⟨(aroundZ sur 4).toNat, by have := aroundZ_nonneg sur 4 (by omega); omega⟩
  have hr4 : r < 4 := by have := aroundZ_nonneg sur 4 (by omega); omega
  have HL := Lib.hid hle
  have HZ := Lib.hid hz
  have HLD := Lib.hid hld
  have HD1 := Lib.hid hd1
  have HD2 := Lib.hid hd2
  have HC := Lib.hid hc
  have HR := Lib.hid hr
  have HDS := Lib.hid hds
  have HDL := Lib.hid hdsl
  have hc0 : (0 : Int) ≤ c := by omega
  have hcl' : (c : Int) ≤ l.length := by omega
  clear hle hld hd1 hd2 hc hr hds hz hdsl
  have hcases : (k = 0 ∧ n1 = 0) ∨ ((0 < (k : Int) ∧ (k : Int) ≤ 4000) ∧ n1 = 8) ∨ (4000 < (k : Int) ∧ n1 = 2) := by
    rw [hn1]
    by_cases h0 : k = 0
    · left; exact ⟨h0, by simp [h0]⟩
    · by_cases h4 : 4000 < k
      · right; right; exact ⟨by omega, by simp [h0, h4]⟩
      · right; left; exact ⟨by omega, by simp [h0, h4]⟩
  clear hn1
  rcases hk with ⟨hp, hk⟩ | ⟨hp, rfl⟩
  · have HK := Lib.hid hk
    clear hk
    go_enter Try.func7, Try.ntmps7
    go_wp2_with fail
    refine (around_calls at_ 34359738368 w ha1 ha2 (by omega) (by omega)).mono ?_
    rintro e w3 ⟨rfl, rfl⟩
    rw [HZ.out]
    go_wp2_with fail
    refine (around_calls _ 8000 _ htd.1 htd.2 (by omega) (by omega)).mono ?_
    rintro e w3 ⟨rfl, rfl⟩
    rw [HK.out]
    go_wp2_with fail
    refine (reflen_calls k w3 hkl).mono ?_
    rintro e w4 ⟨v4, rfl, o4, b4⟩
    rw [← HL.out] at o4
    obtain ⟨A4, c4, rfl⟩ := own_slice o4
    have s4 := b4.size
    have r4 := o4.reads
    have hcc : l.length ≤ c4 := by obtain ⟨_, _, hv, hc, _⟩ := r4; injection hv with e1 e2 e3; rw [u8s_length] at hc; omega
    have hcc' : c ≤ c4 := by omega
    obtain ⟨g, c4', hf, hgb, hgl⟩ := World.ownsRow.form o4 (by omega)
    obtain rfl : A4 = some ⟨g, 0, none⟩ := by injection hf
    clear hf
    go_wp2_with fail
    refine (dec_named _ l n1 d1 HD1.out w4 r4 hl8 (by omega)).mono ?_
    rintro e w5 ⟨A5, c5, rfl, o5, b5⟩
    have B5 := b4.trans (b5.mono s4)
    have s5 := B5.size
    have o45 := o4.below' b5
    have z5 : g < w5.heap.size := Nat.lt_of_lt_of_le hgl b5.size
    clear o4 b4 b5 r4 o5
    rcases hcases with ⟨rfl, rfl⟩ | ⟨⟨h1, h2⟩, rfl⟩ | ⟨h1, rfl⟩
    all_goals (
      go_wp2_with fail
      refine (around_calls cut l.length w5 hc1 hc2 (by omega) (by omega)).mono ?_
      rintro e w6 ⟨rfl, rfl⟩
      rw [HC.out]
      have rk : Reads w6 (.slice (some ⟨g, 0, none⟩) c c4) (u8s (l.take c)) := (by
        have := o45.reads.take c (by rw [u8s_length]; omega)
        rwa [show (u8s l).take c = u8s (l.take c) from by simp [u8s]] at this)
      go_wp2_with fail
      refine (dec_named _ (l.take c) 7 [] HD2.out w6 rk (take_lt hl8 c) (by have := take_len l c; omega)).mono ?_
      rintro e w7 ⟨A7, c7, rfl, o7, b7⟩
      have B7 := B5.trans (b7.mono s5)
      have s7 := B7.size
      have o47 := o45.below' b7
      clear o45 rk b7 o7
      obtain ⟨m, hme⟩ : ∃ m, ds.length = m := ⟨_, rfl⟩
      have hlm : l.length = m + 1 := (by have := HDL.out; omega)
      have hm20 : (m : Int) ≤ 20 := (by omega)
      have hd' : (d : Int) < 128 := (by omega)
      have hcell : w7.cell? ⟨g, m, none⟩ = some (.int .u8 (d : Int)) := (by
        have := (World.ownsRow.cellAt o47 m (by omega)).trans (u8s_get l m (by omega))
        rw [this]
        have e := HLD.out
        subst e
        rw [List.getElem_append_right (by omega)]
        simp)
      have hfr := World.ownsRow.frozenAt o47 m
      simp only [hlm]
      go_wp2_with fail
      have oq : OwnB 5 (w7.setCell ⟨g, m, none⟩ (.int .u8 ((d : Int) + 128))) w3.heap.size (.slice (some ⟨g, 0, none⟩) (m + 1) c4) (ds ++ [d + 128]) := (by
        have h := OwnB.store o47 rfl m (d + 128)
        rw [show l.set m (d + 128) = ds ++ [d + 128] from by rw [HLD.out, List.set_append_right _ _ (by omega)]; simp [hme], hlm] at h
        exact h)
      have B8 := B7.setCell (p := ⟨g, m, none⟩) (by show w3.heap.size ≤ g; omega) (.int .u8 ((d : Int) + 128))
      have hq1 : ∀ x ∈ ds ++ [d + 128], 128 ≤ x ∧ x < 256 := (by
        intro x hx
        rcases List.mem_append.1 hx with h | h
        · exact HDS.out x h
        · simp at h; omega)
      have hq2 : (ds ++ [d + 128]).length = m + 1 := (by simp; omega)
      have hm20 : m ≤ 20 := (by omega)
      generalize ds ++ [d + 128] = q at *
      generalize (w7.setCell ⟨g, m, none⟩ (.int .u8 ((d : Int) + 128))) = w8 at *
      have HQ := Lib.hid hq1
      have s8 := B8.size
      clear hq1 o47 hcell hme hcl HDL hfr hd' B7 hlm s7 z5 B5 s5 hgl hcc' hcc hcl' hp HDS HLD
      refine (around_calls sur 4 w8 hs1 hs2 (by omega) (by omega)).mono ?_
      rintro e w9 ⟨rfl, rfl⟩
      rw [HR.out]
      go_wp2_with fail
      go_loopg [8, 14] r (fun n v i wr => ∃ p : List Nat, i = .int .i64 n ∧ OwnB 5 wr w3.heap.size v p ∧ Below w3.heap.size w3 wr ∧ Hid (∀ x ∈ p, 128 ≤ x ∧ x < 256) ∧ p.length + n = m + 1 + r ∧ n ≤ r)
      case atStart => exact ⟨q, rfl, oq, B8, HQ, by omega, by omega⟩
      case round =>
        obtain ⟨p, rfl, op, Bp, HP, hpn, hnr⟩ := hrel
        have sp := Bp.size
        by_cases hgt : 0 < gk
        · have hgt' : (0 : Int) < gk := (by omega)
          have hp30 : p.length ≤ 30 := (by omega)
          go_wp2_with (at_builtin; refine wpList_push elem_u8 rfl (.tmp 69) (.tmp 70) rfl w3.heap.size _ _ _ rfl (op.alloc _) wr.heap.size (.int .u8 128) rfl ?c1 rfl ?c2 ?c3 ?c4 ?_)
          case c1 => simp
          case c2 => omega
          case c3 => omega
          case c4 => simp; omega
          intro v' w2 h4 h5 h6
          have r1 : OwnB 5 w2 w3.heap.size v' (p ++ [128]) := by unfold OwnB; rw [u8s_append, List.length_append]; exact h4
          have r2 := (Bp.alloc (by omega) (Obj.cells #[Value.int IntKind.u8 128] 5)).grown h5 (by simp; omega) (fun k hk => (World.ownsRow.lt op k hk).1)
          clear h4 h5 h6
          go_wp2_with fail
          have HP' : Hid (∀ x ∈ p ++ [128], 128 ≤ x ∧ x < 256) := Lib.hid (by
            intro x hx
            rcases List.mem_append.1 hx with h | h
            · exact HP.out x h
            · simp at h; omega)
          go_roundg (gk - 1)
          case measure => omega
          case rel => exact ⟨p ++ [128], by go_num, r1, r2, HP', by simp; omega, by omega⟩
        · obtain rfl : gk = 0 := (by omega)
          have hp30 : p.length ≤ 30 := (by omega)
          go_wp2_with (at_builtin; refine wpList_push elem_u8 rfl (.tmp 72) (.tmp 73) rfl w3.heap.size _ _ _ rfl (op.alloc _) wr.heap.size (.int .u8 0) rfl ?e1 rfl ?e2 ?e3 ?e4 ?_)
          case e1 => simp
          case e2 => omega
          case e3 => omega
          case e4 => simp; omega
          intro v' w2 h4 h5 h6
          have r1 : OwnB 5 w2 w3.heap.size v' (p ++ [0]) := by unfold OwnB; rw [u8s_append, List.length_append]; exact h4
          have r2 := (Bp.alloc (by omega) (Obj.cells #[Value.int IntKind.u8 0] 5)).grown h5 (by simp; omega) (fun k hk => (World.ownsRow.lt op k hk).1)
          clear h4 h5 h6 op
          obtain ⟨n3, hn3, hn3'⟩ : ∃ n3 : Nat, decodeR (p ++ [0]) = (n3, []) ∧ ((n3 = 8 ∧ ((p ++ [0]).length : Int) ≤ 5) ∨ (n3 = 7 ∧ (5 : Int) < (p ++ [0]).length)) := (by
            rw [dec_surplus (fun x hx => (HP.out x hx).1) (by omega), List.length_append]
            by_cases h5 : p.length < 5
            · exact ⟨8, by rw [if_pos h5], .inl ⟨rfl, by simp; omega⟩⟩
            · exact ⟨7, by rw [if_neg h5], .inr ⟨rfl, by simp; omega⟩⟩)
          have hy8 : ∀ x ∈ p ++ [0], x < 256 := (by
            intro x hx
            rcases List.mem_append.1 hx with h | h
            · exact (HP.out x h).2
            · simp at h; omega)
          have hyl : (p ++ [0]).length ≤ 31 := (by simp; omega)
          generalize p ++ [0] = y at *
          have HN := Lib.hid hn3
          have HY := Lib.hid hy8
          have s2 := r2.size
          clear hn3 hy8 Bp HP sp hpn hp30
          obtain ⟨A10, c10, rfl⟩ := own_slice r1
          have r10 := r1.reads
          clear r1
          go_wp2_with fail
          refine (dec_named _ y n3 [] HN.out w2 r10 HY.out (by omega)).mono ?_
          rintro e w11 ⟨A11, c11, rfl, o11, b11⟩
          have B11 := r2.trans (b11.mono s2)
          have s11 := B11.size
          clear o11 b11 r10 r2
          rcases hn3' with ⟨rfl, h5⟩ | ⟨rfl, h5⟩
          · go_wp2_with fail
            refine (lives_named w11).mono ?_
            rintro e w12 ⟨rfl, b12⟩
            have B12 := B11.trans (b12.mono s11)
            go_wp2_with fail
            go_ret
            exact ⟨rfl, B12⟩
          · go_wp2_with fail
            refine (lives_named w11).mono ?_
            rintro e w12 ⟨rfl, b12⟩
            have B12 := B11.trans (b12.mono s11)
            go_wp2_with fail
            go_ret
            exact ⟨rfl, B12⟩)
  · go_enter Try.func7, Try.ntmps7
    go_wp2_with fail
    refine (around_calls at_ 34359738368 w ha1 ha2 (by omega) (by omega)).mono ?_
    rintro e w3 ⟨rfl, rfl⟩
    rw [HZ.out]
    go_wp2_with fail
    refine (reflen_calls k w3 hkl).mono ?_
    rintro e w4 ⟨v4, rfl, o4, b4⟩
    rw [← HL.out] at o4
    obtain ⟨A4, c4, rfl⟩ := own_slice o4
    have s4 := b4.size
    have r4 := o4.reads
    have hcc : l.length ≤ c4 := by obtain ⟨_, _, hv, hc, _⟩ := r4; injection hv with e1 e2 e3; rw [u8s_length] at hc; omega
    have hcc' : c ≤ c4 := by omega
    obtain ⟨g, c4', hf, hgb, hgl⟩ := World.ownsRow.form o4 (by omega)
    obtain rfl : A4 = some ⟨g, 0, none⟩ := by injection hf
    clear hf
    go_wp2_with fail
    refine (dec_named _ l n1 d1 HD1.out w4 r4 hl8 (by omega)).mono ?_
    rintro e w5 ⟨A5, c5, rfl, o5, b5⟩
    have B5 := b4.trans (b5.mono s4)
    have s5 := B5.size
    have o45 := o4.below' b5
    have z5 : g < w5.heap.size := Nat.lt_of_lt_of_le hgl b5.size
    clear o4 b4 b5 r4 o5
    rcases hcases with ⟨rfl, rfl⟩ | ⟨⟨h1, h2⟩, rfl⟩ | ⟨h1, rfl⟩
    all_goals (
      go_wp2_with fail
      refine (around_calls cut l.length w5 hc1 hc2 (by omega) (by omega)).mono ?_
      rintro e w6 ⟨rfl, rfl⟩
      rw [HC.out]
      have rk : Reads w6 (.slice (some ⟨g, 0, none⟩) c c4) (u8s (l.take c)) := (by
        have := o45.reads.take c (by rw [u8s_length]; omega)
        rwa [show (u8s l).take c = u8s (l.take c) from by simp [u8s]] at this)
      go_wp2_with fail
      refine (dec_named _ (l.take c) 7 [] HD2.out w6 rk (take_lt hl8 c) (by have := take_len l c; omega)).mono ?_
      rintro e w7 ⟨A7, c7, rfl, o7, b7⟩
      have B7 := B5.trans (b7.mono s5)
      have s7 := B7.size
      have o47 := o45.below' b7
      clear o45 rk b7 o7
      obtain ⟨m, hme⟩ : ∃ m, ds.length = m := ⟨_, rfl⟩
      have hlm : l.length = m + 1 := (by have := HDL.out; omega)
      have hm20 : (m : Int) ≤ 20 := (by omega)
      have hd' : (d : Int) < 128 := (by omega)
      have hcell : w7.cell? ⟨g, m, none⟩ = some (.int .u8 (d : Int)) := (by
        have := (World.ownsRow.cellAt o47 m (by omega)).trans (u8s_get l m (by omega))
        rw [this]
        have e := HLD.out
        subst e
        rw [List.getElem_append_right (by omega)]
        simp)
      have hfr := World.ownsRow.frozenAt o47 m
      simp only [hlm]
      go_wp2_with fail
      have oq : OwnB 5 (w7.setCell ⟨g, m, none⟩ (.int .u8 ((d : Int) + 128))) w3.heap.size (.slice (some ⟨g, 0, none⟩) (m + 1) c4) (ds ++ [d + 128]) := (by
        have h := OwnB.store o47 rfl m (d + 128)
        rw [show l.set m (d + 128) = ds ++ [d + 128] from by rw [HLD.out, List.set_append_right _ _ (by omega)]; simp [hme], hlm] at h
        exact h)
      have B8 := B7.setCell (p := ⟨g, m, none⟩) (by show w3.heap.size ≤ g; omega) (.int .u8 ((d : Int) + 128))
      have hq1 : ∀ x ∈ ds ++ [d + 128], 128 ≤ x ∧ x < 256 := (by
        intro x hx
        rcases List.mem_append.1 hx with h | h
        · exact HDS.out x h
        · simp at h; omega)
      have hq2 : (ds ++ [d + 128]).length = m + 1 := (by simp; omega)
      have hm20 : m ≤ 20 := (by omega)
      generalize ds ++ [d + 128] = q at *
      generalize (w7.setCell ⟨g, m, none⟩ (.int .u8 ((d : Int) + 128))) = w8 at *
      have HQ := Lib.hid hq1
      have s8 := B8.size
      clear hq1 o47 hcell hme hcl HDL hfr hd' B7 hlm s7 z5 B5 s5 hgl hcc' hcc hcl' hp HDS HLD
      refine (around_calls sur 4 w8 hs1 hs2 (by omega) (by omega)).mono ?_
      rintro e w9 ⟨rfl, rfl⟩
      rw [HR.out]
      go_wp2_with fail
      go_loopg [8, 14] r (fun n v i wr => ∃ p : List Nat, i = .int .i64 n ∧ OwnB 5 wr w3.heap.size v p ∧ Below w3.heap.size w3 wr ∧ Hid (∀ x ∈ p, 128 ≤ x ∧ x < 256) ∧ p.length + n = m + 1 + r ∧ n ≤ r)
      case atStart => exact ⟨q, rfl, oq, B8, HQ, by omega, by omega⟩
      case round =>
        obtain ⟨p, rfl, op, Bp, HP, hpn, hnr⟩ := hrel
        have sp := Bp.size
        by_cases hgt : 0 < gk
        · have hgt' : (0 : Int) < gk := (by omega)
          have hp30 : p.length ≤ 30 := (by omega)
          go_wp2_with (at_builtin; refine wpList_push elem_u8 rfl (.tmp 69) (.tmp 70) rfl w3.heap.size _ _ _ rfl (op.alloc _) wr.heap.size (.int .u8 128) rfl ?c1 rfl ?c2 ?c3 ?c4 ?_)
          case c1 => simp
          case c2 => omega
          case c3 => omega
          case c4 => simp; omega
          intro v' w2 h4 h5 h6
          have r1 : OwnB 5 w2 w3.heap.size v' (p ++ [128]) := by unfold OwnB; rw [u8s_append, List.length_append]; exact h4
          have r2 := (Bp.alloc (by omega) (Obj.cells #[Value.int IntKind.u8 128] 5)).grown h5 (by simp; omega) (fun k hk => (World.ownsRow.lt op k hk).1)
          clear h4 h5 h6
          go_wp2_with fail
          have HP' : Hid (∀ x ∈ p ++ [128], 128 ≤ x ∧ x < 256) := Lib.hid (by
            intro x hx
            rcases List.mem_append.1 hx with h | h
            · exact HP.out x h
            · simp at h; omega)
          go_roundg (gk - 1)
          case measure => omega
          case rel => exact ⟨p ++ [128], by go_num, r1, r2, HP', by simp; omega, by omega⟩
        · obtain rfl : gk = 0 := (by omega)
          have hp30 : p.length ≤ 30 := (by omega)
          go_wp2_with (at_builtin; refine wpList_push elem_u8 rfl (.tmp 72) (.tmp 73) rfl w3.heap.size _ _ _ rfl (op.alloc _) wr.heap.size (.int .u8 0) rfl ?e1 rfl ?e2 ?e3 ?e4 ?_)
          case e1 => simp
          case e2 => omega
          case e3 => omega
          case e4 => simp; omega
          intro v' w2 h4 h5 h6
          have r1 : OwnB 5 w2 w3.heap.size v' (p ++ [0]) := by unfold OwnB; rw [u8s_append, List.length_append]; exact h4
          have r2 := (Bp.alloc (by omega) (Obj.cells #[Value.int IntKind.u8 0] 5)).grown h5 (by simp; omega) (fun k hk => (World.ownsRow.lt op k hk).1)
          clear h4 h5 h6 op
          obtain ⟨n3, hn3, hn3'⟩ : ∃ n3 : Nat, decodeR (p ++ [0]) = (n3, []) ∧ ((n3 = 8 ∧ ((p ++ [0]).length : Int) ≤ 5) ∨ (n3 = 7 ∧ (5 : Int) < (p ++ [0]).length)) := (by
            rw [dec_surplus (fun x hx => (HP.out x hx).1) (by omega), List.length_append]
            by_cases h5 : p.length < 5
            · exact ⟨8, by rw [if_pos h5], .inl ⟨rfl, by simp; omega⟩⟩
            · exact ⟨7, by rw [if_neg h5], .inr ⟨rfl, by simp; omega⟩⟩)
          have hy8 : ∀ x ∈ p ++ [0], x < 256 := (by
            intro x hx
            rcases List.mem_append.1 hx with h | h
            · exact (HP.out x h).2
            · simp at h; omega)
          have hyl : (p ++ [0]).length ≤ 31 := (by simp; omega)
          generalize p ++ [0] = y at *
          have HN := Lib.hid hn3
          have HY := Lib.hid hy8
          have s2 := r2.size
          clear hn3 hy8 Bp HP sp hpn hp30
          obtain ⟨A10, c10, rfl⟩ := own_slice r1
          have r10 := r1.reads
          clear r1
          go_wp2_with fail
          refine (dec_named _ y n3 [] HN.out w2 r10 HY.out (by omega)).mono ?_
          rintro e w11 ⟨A11, c11, rfl, o11, b11⟩
          have B11 := r2.trans (b11.mono s2)
          have s11 := B11.size
          clear o11 b11 r10 r2
          rcases hn3' with ⟨rfl, h5⟩ | ⟨rfl, h5⟩
          · go_wp2_with fail
            refine (lives_named w11).mono ?_
            rintro e w12 ⟨rfl, b12⟩
            have B12 := B11.trans (b12.mono s11)
            go_wp2_with fail
            go_ret
            exact ⟨rfl, B12⟩
          · go_wp2_with fail
            refine (lives_named w11).mono ?_
            rintro e w12 ⟨rfl, b12⟩
            have B12 := B11.trans (b12.mono s11)
            go_wp2_with fail
            go_ret
            exact ⟨rfl, B12⟩)
end Go.Proofs.Ytcoaopaiipkcpaa
