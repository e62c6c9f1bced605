/- Malformed (the reference's reading of a length). -/
import Derived.Test.YtcoaopaiipkcpaaLen
namespace Go.Proofs.Ytcoaopaiipkcpaa
open Go.RowKit Rc

set_option maxHeartbeats 2000000 in
set_option maxRecDepth 100000 in
theorem mal_calls (v : Value) (l : List Nat) (w : World) (h : Reads w v (u8s l)) (hx : ∀ x ∈ l, x < 256) (hl : l.length ≤ 140737488355328) :
    Calls Try.prog 19 #[v] w fun e w' => e = .returned (.int .i64 ((parse l).1 : Nat)) ∧ w' = w := by
  have h2 := h
  obtain ⟨A, cap, rfl, hcap, -⟩ := h
  simp only [u8s_length] at *
  obtain ⟨N, hN⟩ : ∃ N, N = l.length := ⟨_, rfl⟩
  rw [← hN] at h2 hcap hl ⊢
  have HN := Lib.hid hN
  clear hN
  go_enter Try.func19, Try.ntmps19
  go_wp2_with fail
  go_loopg [3, 4, 5] 5 (fun f n sc iv wr => ∃ (i n0 sc0 : Nat), i + f = 5 ∧ i ≤ N ∧ iv = .int .i64 i ∧ n = .int .i64 n0 ∧ sc = .int .i64 sc0 ∧ n0 < 34359738368 ∧ wr = w ∧ Hid (parseF f l i n0 sc0 = parse l ∧ n0 < 128 ^ i ∧ sc0 = 128 ^ i))
  case atStart => exact ⟨0, 0, 1, rfl, by omega, rfl, rfl, rfl, by omega, rfl, rfl, by simp, rfl⟩
  case round =>
    obtain ⟨i, n0, sc, hif, him, rfl, rfl, rfl, hn0, rfl, H⟩ := hrel
    have HIF := Lib.hid hif
    by_cases hlt : i < N
    · have hltd : decide ((i : Int) < N) = true := decide_eq_true (by omega)
      by_cases hf0 : gk = 0
      · subst hf0
        obtain rfl : i = 5 := by omega
        have hstop : (7, 0, 0) = parse l := H.out.1
        have HS := Lib.hid (congrArg Prod.fst hstop)
        clear hstop H hif
        go_wp2_with fail
        go_ret
        exact ⟨by rw [← HS.out]; rfl, rfl⟩
      · have hi5 : i < 5 := by omega
        have hi5' : (i : Int) < 5 := by omega
        have hiN : i < l.length := by rw [← HN.out]; omega
        obtain ⟨g, o, rfl, hg, hcell⟩ := h2.at_ hiN
        have hx8 : l[i] < 256 := hx _ (List.getElem_mem hiN)
        have hgd : l.getD i 0 = l[i] := by simp [hiN]
        obtain ⟨f, rfl⟩ : ∃ f, gk = f + 1 := ⟨gk - 1, by omega⟩
        obtain ⟨H1, hn1, hsc⟩ := H.out
        rw [parseF, if_pos hiN, hgd] at H1
        have hpb := pow_bound hi5
        have hdl := digit_lt (x := l[i]) hn1
        have hpw : (128 : Nat) ^ (i + 1) = 128 ^ i * 128 := Nat.pow_succ ..
        rw [← hsc] at hpb hdl hn1 hpw
        generalize l[i] = x at *
        have hdb := digit_bound (x := x) hpb.1
        have h5b := pow5 hi5
        have e1 : (x : Int) % 128 * (sc : Int) = ((x % 128 * sc : Nat) : Int) := by rw [Int.natCast_mul]; rfl
        generalize x % 128 * sc = y at *
        have e2 : 0 ≤ (x : Int) % 128 * (sc : Int) := by rw [e1]; omega
        have e3 : (x : Int) % 128 * (sc : Int) ≤ 34091302912 := by rw [e1]; omega
        have E1 := Lib.hid e1
        have HDL := Lib.hid hdl
        have hy5 : n0 + y < 34359738368 := Nat.lt_of_lt_of_le hdl h5b
        have HY5 := Lib.hid hy5
        have HPW := Lib.hid hpw
        have hx0 : (0 : Int) ≤ x := by omega
        have hx1 : (x : Int) ≤ 255 := by omega
        clear e1 hif H hdl hgd hsc hpw hn1 hdb h5b hy5 hf0
        by_cases hge : 128 ≤ x
        · rw [if_pos hge] at H1
          have H2 := Lib.hid H1
          clear H1
          have hge' : (128 : Int) ≤ x := by omega
          go_wp2_with fail
          have hif := HIF.out
          go_roundg f
          case measure => omega
          case rel => exact ⟨i + 1, n0 + y, sc * 128, by omega, by omega, by go_num, by rw [E1.out]; go_num, by go_num, HY5.out, rfl, H2.out, HDL.out, HPW.out.symm⟩
        · have hge' : ¬ (128 : Int) ≤ x := by omega
          rw [if_neg hge] at H1
          by_cases hz : x = 0 ∧ 0 < i
          · rw [if_pos hz] at H1
            have HS := Lib.hid (congrArg Prod.fst H1)
            clear H1
            obtain ⟨rfl, hi0⟩ := hz
            have hi0' : (0 : Int) < i := by omega
            go_wp2_with fail
            go_ret
            exact ⟨by rw [← HS.out]; rfl, rfl⟩
          · rw [if_neg hz] at H1
            have hz1 : ((x : Int) == 0) = false ∨ (((x : Int) == 0) = true ∧ ¬ (0 : Int) < i) := by
              by_cases h0 : x = 0
              · exact .inr ⟨by rw [h0]; rfl, by omega⟩
              · exact .inl (by rw [beq_eq_false_iff_ne]; omega)
            clear hz
            by_cases hbig : 4000 < n0 + y
            · rw [if_pos hbig] at H1
              have HS := Lib.hid (congrArg Prod.fst H1)
              clear H1
              have hbig' : (4000 : Int) < n0 + (x : Int) % 128 * sc := by rw [E1.out]; omega
              rcases hz1 with hz1 | ⟨hz1, hz2⟩
              all_goals
                go_wp2_with fail
                go_ret
                exact ⟨by rw [← HS.out]; rfl, rfl⟩
            · rw [if_neg hbig] at H1
              have HS := Lib.hid (congrArg Prod.fst H1)
              clear H1
              have hbig' : ¬ (4000 : Int) < n0 + (x : Int) % 128 * sc := by rw [E1.out]; omega
              rcases hz1 with hz1 | ⟨hz1, hz2⟩
              all_goals
                go_wp2_with fail
                go_ret
                exact ⟨by rw [← HS.out]; rfl, rfl⟩
    · have hltd : decide ((i : Int) < N) = false := decide_eq_false (by omega)
      have hstop : (7, 0, 0) = parse l := by
        rw [← H.out.1]
        cases gk with
        | zero => rfl
        | succ f => rw [parseF, if_neg (by have := HN.out; omega)]
      have HS := Lib.hid (congrArg Prod.fst hstop)
      clear hstop H hif
      go_wp2_with fail
      go_ret
      exact ⟨by rw [← HS.out]; rfl, rfl⟩
end Go.Proofs.Ytcoaopaiipkcpaa
