/- The length of a message. -/
import Derived.Test.YtcoaopaiipkcpaaNext
namespace Go.Proofs.Ytcoaopaiipkcpaa
open Go.RowKit Rc

def lenPost (w : World) (l : List Nat) (e : Ending) (w' : World) : Prop :=
  ∃ (v : Value) (q : Nat), e = .returned (.tuple #[.int .i64 ((parse l).2.1 : Nat), v, .int .i64 ((parse l).1 : Nat)]) ∧ w' = w.drewN q ∧ (((parse l).1 = 0 → Reads w v (u8s (l.drop (parse l).2.2))) ∧ ((parse l).1 ≠ 0 → v = .slice none 0 0))

theorem lenPost_bad {w : World} {l : List Nat} {e q : Nat} (h : (e, 0, 0) = parse l) (he : e ≠ 0) : lenPost w l (.returned (.tuple #[.int .i64 0, .slice none 0 0, .int .i64 (e : Int)])) (w.drewN q) :=
  ⟨.slice none 0 0, q, by rw [← h]; rfl, rfl, fun h0 => by rw [← h] at h0; exact absurd h0 he, fun _ => rfl⟩

theorem lenPost_ok {w : World} {l : List Nat} {n i q : Nat} {v : Value} (h : (0, n, i) = parse l) (hr : Reads w v (u8s (l.drop i))) {z : Int} (hz : z = (n : Int)) : lenPost w l (.returned (.tuple #[.int .i64 z, v, .int .i64 0])) (w.drewN q) :=
  ⟨v, q, by rw [← h, hz]; rfl, rfl, fun _ => by rw [← h]; exact hr, fun h0 => by rw [← h] at h0; exact absurd rfl h0⟩

theorem lenPost_ok2 {w : World} {l : List Nat} {n i q nq : Nat} {v : Value} (h : (0, n, i) = parse l) (hr : Reads w v (u8s (l.drop i))) {z : Int} (hz : z = (n : Int)) : lenPost w l (.returned (.tuple #[.int .i64 z, v, .int .i64 0])) ((w.drewN q).drewN nq) := by
  rw [World.drewN_drewN]
  exact lenPost_ok h hr hz

theorem pow5 {i : Nat} (h : i < 5) : 128 ^ (i + 1) ≤ 34359738368 := by
  rcases (by omega : i = 0 ∨ i = 1 ∨ i = 2 ∨ i = 3 ∨ i = 4) with rfl | rfl | rfl | rfl | rfl <;> decide

theorem Reads.drop {w : World} {g o : Nat} {n c : Nat} {xs : List Nat} (h : Reads w (.slice (some ⟨g, o, none⟩) n c) (u8s xs)) (k : Nat) (hk : k ≤ xs.length) (A : Option Addr) (hA : c ≠ k → A = some ⟨g, o + k, none⟩) : Reads w (.slice A (n - k) (c - k)) (u8s (xs.drop k)) := by
  obtain ⟨A', c', hv, hc, hr⟩ := h
  rw [u8s_length] at hv hc hr
  injection hv with e1 e2 e3
  subst e3
  have hl : (u8s (xs.drop k)).length = n - k := by rw [u8s_length, List.length_drop]; omega
  refine ⟨A, c - k, by rw [hl], by omega, fun h0 => ?_⟩
  obtain ⟨g', o', hA', hg, hcell⟩ := hr (by omega)
  rw [hA'] at e1
  injection e1 with e1
  injection e1 with e4 e5
  subst e4 e5
  refine ⟨g, o + k, hA (by omega), hg, fun j u hu => ?_⟩
  rw [Nat.add_assoc]
  refine hcell (k + j) u ?_
  rw [← hu]
  simp [u8s, List.getElem?_drop]

set_option maxHeartbeats 4000000 in
set_option maxRecDepth 100000 in
theorem length_calls (v : Value) (l : List Nat) (w : World) (h : Reads w v (u8s l)) (hx : ∀ x ∈ l, x < 256) (hl : l.length ≤ 140737488355328) :
    Calls Try.prog 27 #[v] w (lenPost w l) := by
  have h2 := h
  obtain ⟨A, cap, rfl, hcap, -⟩ := h
  simp only [u8s_length] at *
  obtain ⟨N, hN⟩ : ∃ N, N = l.length := ⟨_, rfl⟩
  rw [← hN] at h2 hcap hl ⊢
  have HN := Lib.hid hN
  clear hN
  by_cases h5 : N ≤ 5
  · go_enter Try.func27, Try.ntmps27
    go_wp2_with fail
    go_loopg [5, 6, 15] 5 (fun f n sc iv wr => ∃ (i n0 sc0 q : Nat), i + f = 5 ∧ i ≤ N ∧ iv = .int .i64 i ∧ n = .int .i64 n0 ∧ sc = .int .i64 sc0 ∧ n0 < 34359738368 ∧ wr = w.drewN q ∧ Hid (parseF f l i n0 sc0 = parse l ∧ n0 < 128 ^ i ∧ sc0 = 128 ^ i))
    case atStart => exact ⟨0, 0, 1, 0, rfl, by omega, rfl, rfl, rfl, by omega, rfl, rfl, by simp, rfl⟩
    case round =>
      obtain ⟨i, n0, sc, q, hif, him, rfl, rfl, rfl, hn0, rfl, H⟩ := hrel
      have HIF := Lib.hid hif
      by_cases hlt : i < N
      · have hi5 : i < 5 := by omega
        have hiN : i < l.length := by rw [← HN.out]; omega
        obtain ⟨g, o, rfl, hg, hcell⟩ := h2.at_ hiN
        have hx8 : l[i] < 256 := hx _ (List.getElem_mem hiN)
        have hgd : l.getD i 0 = l[i] := by simp [hiN]
        obtain ⟨f, rfl⟩ : ∃ f, gk = f + 1 := ⟨gk - 1, by omega⟩
        obtain ⟨H1, hn1, hsc⟩ := H.out
        rw [parseF, if_pos hiN, hgd] at H1
        have hpb := pow_bound hi5
        have hdl := digit_lt (x := l[i]) hn1
        have hpw : (128 : Nat) ^ (i + 1) = 128 ^ i * 128 := Nat.pow_succ ..
        rw [← hsc] at hpb hdl hn1 hpw
        generalize l[i] = x at *
        have hdb := digit_bound (x := x) hpb.1
        have h5b := pow5 hi5
        have e1 : (x : Int) % 128 * (sc : Int) = ((x % 128 * sc : Nat) : Int) := by rw [Int.natCast_mul]; rfl
        have hy0 : x = 0 → x % 128 * sc = 0 := by rintro rfl; simp
        have hn00 : i = 0 → n0 = 0 := by rintro rfl; simp at hsc; omega
        generalize x % 128 * sc = y at *
        have e2 : 0 ≤ (x : Int) % 128 * (sc : Int) := by rw [e1]; omega
        have e3 : (x : Int) % 128 * (sc : Int) ≤ 34091302912 := by rw [e1]; omega
        have E1 := Lib.hid e1
        have HDL := Lib.hid hdl
        have hy5 : n0 + y < 34359738368 := Nat.lt_of_lt_of_le hdl h5b
        have HY5 := Lib.hid hy5
        have HY0 := Lib.hid hy0
        have HN0 := Lib.hid hn00
        have HPW := Lib.hid hpw
        have hx0 : (0 : Int) ≤ x := by omega
        have hx1 : (x : Int) ≤ 255 := by omega
        clear e1 hif H hdl hgd hsc hpw hn1 hdb h5b hy5 hy0 hn00
        by_cases hge : 128 ≤ x
        · rw [if_pos hge] at H1
          have H2 := Lib.hid H1
          clear H1
          have hge' : (128 : Int) ≤ x := by omega
          go_wp2_with fail
          have hif := HIF.out
          go_roundg f
          case measure => omega
          case rel => exact ⟨i + 1, n0 + y, sc * 128, q, by omega, by omega, by go_num, by rw [E1.out]; go_num, by go_num, HY5.out, rfl, H2.out, HDL.out, HPW.out.symm⟩
        · have hge' : ¬ (128 : Int) ≤ x := by omega
          rw [if_neg hge] at H1
          by_cases hz : x = 0 ∧ 0 < i
          · rw [if_pos hz] at H1
            have H2 := Lib.hid H1
            clear H1
            obtain ⟨rfl, hi0⟩ := hz
            have hi0' : (0 : Int) < i := by omega
            go_wp2_with fail
            go_ret3
            exact lenPost_bad H2.out (by decide)
          · rw [if_neg hz] at H1
            have hz1 : ((x : Int) == 0) = false ∨ (x = 0 ∧ i = 0 ∧ n0 + y = 0) := by
              by_cases h0 : x = 0
              · exact .inr ⟨h0, by omega, by have := HY0.out h0; have := HN0.out (by omega); omega⟩
              · exact .inl (by simp; omega)
            clear hz
            by_cases hbig : 4000 < n0 + y
            · rw [if_pos hbig] at H1
              have H2 := Lib.hid H1
              clear H1
              have hbig' : (4000 : Int) < n0 + (x : Int) % 128 * sc := by rw [E1.out]; omega
              rcases hz1 with hz1 | ⟨rfl, rfl, h00⟩
              · go_wp2_with fail
                go_ret3
                exact lenPost_bad H2.out (by decide)
              · omega
            · rw [if_neg hbig] at H1
              have H2 := Lib.hid H1
              clear H1
              have hbig' : ¬ (4000 : Int) < n0 + (x : Int) % 128 * sc := by rw [E1.out]; omega
              clear hbig
              by_cases hck : cap = i + 1
              · (try omega)
                all_goals subst hck
                all_goals
                  have hrd := h2.drop (i + 1) (by omega) (some ⟨g, o, none⟩) (fun h => absurd rfl h)
                  rw [show N - (i + 1) = 0 from by omega, show i + 1 - (i + 1) = 0 from by omega] at hrd
                  rcases hz1 with hz1 | ⟨rfl, rfl, h00⟩
                  · go_wp2_with fail
                    go_quiet (fail)
                    go_wp2_with fail
                    go_ret3
                    exact lenPost_ok2 (z := (n0 : Int) + (x : Int) % 128 * sc) H2.out hrd (by rw [E1.out]; rfl)
                  · (try omega)
                    all_goals
                      have hcell' := hcell
                      simp only [Nat.add_zero] at hcell'
                      have H00 := Lib.hid h00
                      clear h00 hcell
                      go_wp2_with fail
                      go_quiet (fail)
                      go_wp2_with fail
                      go_ret3
                      exact lenPost_ok2 (z := (n0 : Int)) H2.out hrd (by have := H00.out; omega)
              · have hrd := h2.drop (i + 1) (by omega) (some ⟨g, o + (i + 1), none⟩) (fun _ => rfl)
                rcases hz1 with hz1 | ⟨rfl, rfl, h00⟩
                · go_wp2_with fail
                  go_quiet (fail)
                  go_wp2_with fail
                  go_ret3
                  exact lenPost_ok2 (z := (n0 : Int) + (x : Int) % 128 * sc) H2.out hrd (by rw [E1.out]; rfl)
                · (try omega)
                  all_goals
                    have hcell' := hcell
                    simp only [Nat.add_zero] at hcell'
                    have H00 := Lib.hid h00
                    clear h00 hcell
                    go_wp2_with fail
                    go_quiet (fail)
                    go_wp2_with fail
                    go_ret3
                    exact lenPost_ok2 (z := (n0 : Int)) H2.out hrd (by have := H00.out; omega)
      · have hstop : (7, 0, 0) = parse l := by
          rw [← H.out.1]
          cases gk with
          | zero => rfl
          | succ f => rw [parseF, if_neg (by have := HN.out; omega)]
        have HS := Lib.hid hstop
        have hieq : i = N := by omega
        subst hieq
        clear hstop H
        go_wp2_with fail
        go_ret3
        exact lenPost_bad HS.out (by decide)
  · have h5c : 5 ≤ cap := by omega
    go_enter Try.func27, Try.ntmps27
    go_wp2_with fail
    go_loopg [5, 6, 15] 5 (fun f n sc iv wr => ∃ (i n0 sc0 q : Nat), i + f = 5 ∧ i ≤ 5 ∧ iv = .int .i64 i ∧ n = .int .i64 n0 ∧ sc = .int .i64 sc0 ∧ n0 < 34359738368 ∧ wr = w.drewN q ∧ Hid (parseF f l i n0 sc0 = parse l ∧ n0 < 128 ^ i ∧ sc0 = 128 ^ i))
    case atStart => exact ⟨0, 0, 1, 0, rfl, by omega, rfl, rfl, rfl, by omega, rfl, rfl, by simp, rfl⟩
    case round =>
      obtain ⟨i, n0, sc, q, hif, him, rfl, rfl, rfl, hn0, rfl, H⟩ := hrel
      have HIF := Lib.hid hif
      by_cases hlt : i < 5
      · have hi5 : i < 5 := by omega
        have hiN : i < l.length := by rw [← HN.out]; omega
        obtain ⟨g, o, rfl, hg, hcell⟩ := h2.at_ hiN
        have hx8 : l[i] < 256 := hx _ (List.getElem_mem hiN)
        have hgd : l.getD i 0 = l[i] := by simp [hiN]
        obtain ⟨f, rfl⟩ : ∃ f, gk = f + 1 := ⟨gk - 1, by omega⟩
        obtain ⟨H1, hn1, hsc⟩ := H.out
        rw [parseF, if_pos hiN, hgd] at H1
        have hpb := pow_bound hi5
        have hdl := digit_lt (x := l[i]) hn1
        have hpw : (128 : Nat) ^ (i + 1) = 128 ^ i * 128 := Nat.pow_succ ..
        rw [← hsc] at hpb hdl hn1 hpw
        generalize l[i] = x at *
        have hdb := digit_bound (x := x) hpb.1
        have h5b := pow5 hi5
        have e1 : (x : Int) % 128 * (sc : Int) = ((x % 128 * sc : Nat) : Int) := by rw [Int.natCast_mul]; rfl
        have hy0 : x = 0 → x % 128 * sc = 0 := by rintro rfl; simp
        have hn00 : i = 0 → n0 = 0 := by rintro rfl; simp at hsc; omega
        generalize x % 128 * sc = y at *
        have e2 : 0 ≤ (x : Int) % 128 * (sc : Int) := by rw [e1]; omega
        have e3 : (x : Int) % 128 * (sc : Int) ≤ 34091302912 := by rw [e1]; omega
        have E1 := Lib.hid e1
        have HDL := Lib.hid hdl
        have hy5 : n0 + y < 34359738368 := Nat.lt_of_lt_of_le hdl h5b
        have HY5 := Lib.hid hy5
        have HY0 := Lib.hid hy0
        have HN0 := Lib.hid hn00
        have HPW := Lib.hid hpw
        have hx0 : (0 : Int) ≤ x := by omega
        have hx1 : (x : Int) ≤ 255 := by omega
        clear e1 hif H hdl hgd hsc hpw hn1 hdb h5b hy5 hy0 hn00
        by_cases hge : 128 ≤ x
        · rw [if_pos hge] at H1
          have H2 := Lib.hid H1
          clear H1
          have hge' : (128 : Int) ≤ x := by omega
          go_wp2_with fail
          have hif := HIF.out
          go_roundg f
          case measure => omega
          case rel => exact ⟨i + 1, n0 + y, sc * 128, q, by omega, by omega, by go_num, by rw [E1.out]; go_num, by go_num, HY5.out, rfl, H2.out, HDL.out, HPW.out.symm⟩
        · have hge' : ¬ (128 : Int) ≤ x := by omega
          rw [if_neg hge] at H1
          by_cases hz : x = 0 ∧ 0 < i
          · rw [if_pos hz] at H1
            have H2 := Lib.hid H1
            clear H1
            obtain ⟨rfl, hi0⟩ := hz
            have hi0' : (0 : Int) < i := by omega
            go_wp2_with fail
            go_ret3
            exact lenPost_bad H2.out (by decide)
          · rw [if_neg hz] at H1
            have hz1 : ((x : Int) == 0) = false ∨ (x = 0 ∧ i = 0 ∧ n0 + y = 0) := by
              by_cases h0 : x = 0
              · exact .inr ⟨h0, by omega, by have := HY0.out h0; have := HN0.out (by omega); omega⟩
              · exact .inl (by simp; omega)
            clear hz
            by_cases hbig : 4000 < n0 + y
            · rw [if_pos hbig] at H1
              have H2 := Lib.hid H1
              clear H1
              have hbig' : (4000 : Int) < n0 + (x : Int) % 128 * sc := by rw [E1.out]; omega
              rcases hz1 with hz1 | ⟨rfl, rfl, h00⟩
              · go_wp2_with fail
                go_ret3
                exact lenPost_bad H2.out (by decide)
              · omega
            · rw [if_neg hbig] at H1
              have H2 := Lib.hid H1
              clear H1
              have hbig' : ¬ (4000 : Int) < n0 + (x : Int) % 128 * sc := by rw [E1.out]; omega
              clear hbig
              by_cases hck : cap = i + 1
              · (try omega)
                all_goals subst hck
                all_goals
                  have hrd := h2.drop (i + 1) (by omega) (some ⟨g, o, none⟩) (fun h => absurd rfl h)
                  rw [show N - (i + 1) = 0 from by omega, show i + 1 - (i + 1) = 0 from by omega] at hrd
                  rcases hz1 with hz1 | ⟨rfl, rfl, h00⟩
                  · go_wp2_with fail
                    go_quiet (fail)
                    go_wp2_with fail
                    go_ret3
                    exact lenPost_ok2 (z := (n0 : Int) + (x : Int) % 128 * sc) H2.out hrd (by rw [E1.out]; rfl)
                  · (try omega)
                    all_goals
                      have hcell' := hcell
                      simp only [Nat.add_zero] at hcell'
                      have H00 := Lib.hid h00
                      clear h00 hcell
                      go_wp2_with fail
                      go_quiet (fail)
                      go_wp2_with fail
                      go_ret3
                      exact lenPost_ok2 (z := (n0 : Int)) H2.out hrd (by have := H00.out; omega)
              · have hrd := h2.drop (i + 1) (by omega) (some ⟨g, o + (i + 1), none⟩) (fun _ => rfl)
                rcases hz1 with hz1 | ⟨rfl, rfl, h00⟩
                · go_wp2_with fail
                  go_quiet (fail)
                  go_wp2_with fail
                  go_ret3
                  exact lenPost_ok2 (z := (n0 : Int) + (x : Int) % 128 * sc) H2.out hrd (by rw [E1.out]; rfl)
                · (try omega)
                  all_goals
                    have hcell' := hcell
                    simp only [Nat.add_zero] at hcell'
                    have H00 := Lib.hid h00
                    clear h00 hcell
                    go_wp2_with fail
                    go_quiet (fail)
                    go_wp2_with fail
                    go_ret3
                    exact lenPost_ok2 (z := (n0 : Int)) H2.out hrd (by have := H00.out; omega)
      · have hstop : (7, 0, 0) = parse l := by
          rw [← H.out.1]
          cases gk with
          | zero => rfl
          | succ f => rw [parseF, if_neg (by have := HN.out; omega)]
        have HS := Lib.hid hstop
        have hieq : i = 5 := by omega
        subst hieq
        clear hstop H
        go_wp2_with fail
        go_ret3
        exact lenPost_bad HS.out (by decide)
end Go.Proofs.Ytcoaopaiipkcpaa
