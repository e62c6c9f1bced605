/- The structured message. -/
import Derived.Test.YtcoaopaiipkcpaaLaw1
namespace Go.Proofs.Ytcoaopaiipkcpaa
open Go.RowKit Rc

theorem Reads.int_at {w : World} {A : Option Addr} {n c : Nat} {zs : List Int} {k : Nat} (h : Reads w (.slice A n c) (zs.map (Value.int .i64))) (hk : k < zs.length) : ∃ g o, A = some ⟨g, o, none⟩ ∧ g < w.heap.size ∧ w.cell? ⟨g, o + k, none⟩ = some (.int .i64 zs[k]) := by
  obtain ⟨A', c', hv, hc, hh⟩ := h
  rw [List.length_map] at hh
  obtain ⟨g, o, hA, hg, hcell⟩ := hh (by omega)
  injection hv with e1 e2 e3
  exact ⟨g, o, by rw [e1, hA], hg, hcell k _ (by simp [hk])⟩

def MsgPost (w : World) (e : Ending) (w' : World) : Prop := ∃ (l : List Nat) (A : Option Addr) (c : Nat), e = .returned (.slice A l.length c) ∧ OwnB 5 w' w.heap.size (.slice A l.length c) l ∧ Below w.heap.size w w' ∧ (∀ x ∈ l, x < 256) ∧ l.length ≤ 300

set_option maxHeartbeats 2000000 in
set_option maxRecDepth 100000 in
theorem msg_calls (v : Value) (zs : List Int) (w : World) (h : Reads w v (zs.map (Value.int .i64))) (hz : ∀ x ∈ zs, -9223372036854775808 ≤ x ∧ x ≤ 9223372036854775807) (_hl : zs.length ≤ 9223372036854775807) :
    Calls Try.prog 12 #[v] w (MsgPost w) := by
  have h2 := h
  obtain ⟨A, cap, rfl, hcap, -⟩ := h
  simp only [List.length_map] at *
  obtain ⟨N, hN⟩ : ∃ N, N = zs.length := ⟨_, rfl⟩
  rw [← hN] at h2 hcap _hl ⊢
  have HN := Lib.hid hN
  have HZ := Lib.hid hz
  clear hN hz
  go_enter Try.func12, Try.ntmps12
  go_wp2_with fail
  go_loopg [3, 4] N (fun n v i wr => ∃ (k : Nat) (l : List Nat), k + n = N ∧ i = .int .i64 k ∧ (∀ x ∈ l, x < 256) ∧ l.length ≤ 300 ∧ OwnB 5 wr w.heap.size v l ∧ Below w.heap.size w wr)
  case atStart => exact ⟨0, [], by omega, rfl, by simp, by simp, OwnB.nil _ _, Below.refl _ _⟩
  case round =>
    obtain ⟨k, l, hkn, rfl, hb, hll, hown, hB⟩ := hrel
    have HKN := Lib.hid hkn
    have hkN : k ≤ N := by omega
    obtain ⟨A3, c3, rfl⟩ := own_slice hown
    clear hkn
    by_cases hlt : k < N
    · have hltd : (k : Int) < N := by omega
      have hltd' : decide ((k : Int) < N) = true := decide_eq_true hltd
      by_cases h30 : k < 30
      · have hkz : k < zs.length := by rw [← HN.out]; exact hlt
        obtain ⟨g, o, rfl, hg, hcell⟩ := (h2.below hB).int_at hkz
        have hzk := HZ.out _ (List.getElem_mem hkz)
        generalize zs[k] = z at *
        obtain ⟨m, hm⟩ : ∃ m : Nat, aroundZ z 1000000 = m := ⟨(aroundZ z 1000000).toNat, by have := aroundZ_nonneg z 1000000 (by omega); omega⟩
        have hm6 : m < 1000000 := by have := aroundZ_nonneg z 1000000 (by omega); omega
        have HM := Lib.hid hm
        have hk0 : (0 : Int) ≤ k := by omega
        clear hm
        go_wp2_with fail
        refine (around_calls z 1000000 wr hzk.1 hzk.2 (by omega) (by omega)).mono ?_
        rintro e w4 ⟨rfl, rfl⟩
        rw [HM.out]
        go_wp2_with fail
        obtain ⟨G, rfl⟩ : ∃ G, G = gk := ⟨_, rfl⟩
        go_loopg [3, 6] 11 (fun n v i wr => ∃ (j : Nat) (l : List Nat), j + n = 11 ∧ i = .int .i64 j ∧ (∀ x ∈ l, x < 256) ∧ l.length ≤ 300 ∧ OwnB 5 wr w.heap.size v l ∧ Below w.heap.size w wr)
        case atStart => exact ⟨0, l, rfl, rfl, hb, hll, hown, hB⟩
        case round =>
          obtain ⟨j, l1, hj, rfl, hb1, hll1, hown1, hB1⟩ := hrel
          obtain ⟨A5, c5, rfl⟩ := own_slice hown1
          have HJ := Lib.hid hj
          have hj11 : j ≤ 11 := by omega
          have hsz := hB1.size
          clear hj
          by_cases hjm : j < m % 11 ∧ l1.length < 300
          · obtain ⟨hj1, hj2⟩ := hjm
            have hj1' : (j : Int) < (m : Int) % 11 := by omega
            have hj1d : decide ((j : Int) < (m : Int) % 11) = true := decide_eq_true hj1'
            have hj2' : (l1.length : Int) < 300 := by omega
            obtain ⟨q3, hq3⟩ : ∃ q3, q3 = m / 55 % 3 := ⟨_, rfl⟩
            have hq4 : (m : Int) / 55 % 3 = q3 := by omega
            have hjq : j * q3 ≤ 22 := Nat.mul_le_mul (show j ≤ 11 by omega) (show q3 ≤ 2 by omega)
            have e1 : (j : Int) * ((m : Int) / 55 % 3) = ((j * q3 : Nat) : Int) := by rw [hq4, Int.natCast_mul]
            have e2 : 0 ≤ (j : Int) * ((m : Int) / 55 % 3) := by rw [e1]; omega
            have e3 : (j : Int) * ((m : Int) / 55 % 3) ≤ 22 := by rw [e1]; omega
            have e4 : (m : Int) / 11 % 5 * 40 + (j : Int) * ((m : Int) / 55 % 3) = ((m / 11 % 5 * 40 + j * q3 : Nat) : Int) := by rw [e1]; omega
            have hb9 : m / 11 % 5 * 40 + j * q3 < 256 := by omega
            have E4 := Lib.hid e4
            generalize m / 11 % 5 * 40 + j * q3 = b9 at *
            clear e1 e4 hq3 hq4 hjq
            go_wp2_with (at_builtin; refine wpList_push elem_u8 rfl (.tmp 33) (.tmp 45) rfl w.heap.size _ _ _ rfl (hown1.alloc _) wr.heap.size (.int .u8 (b9 : Int)) rfl ?c1 rfl ?c2 ?c3 ?c4 ?_)
            case c1 => simp [E4.out]
            case c2 => omega
            case c3 => omega
            case c4 => simp; omega
            intro v' w7 h7 g7 q7
            have o7 : OwnB 5 w7 w.heap.size v' (l1 ++ [b9]) := by unfold OwnB; rw [List.length_append, u8s_append]; exact h7
            have B7 : Below w.heap.size w w7 := (hB1.alloc hsz _).grown g7 (by simp; omega) (fun k hk => (World.ownsRow.lt hown1 k hk).1)
            clear h7 g7 q7
            go_wp2_with fail
            have hj := HJ.out
            go_roundg (gk - 1)
            case measure => omega
            case rel => exact ⟨j + 1, l1 ++ [b9], by omega, by go_num, by intro x hx; rcases List.mem_append.1 hx with h | h; exact hb1 x h; simp at h; omega, by simp; omega, o7, B7⟩
          · have hcond : decide ((j : Int) < (m : Int) % 11) = false ∨ (decide ((j : Int) < (m : Int) % 11) = true ∧ ¬ (l1.length : Int) < 300) := by
              by_cases h1 : j < m % 11
              · right; exact ⟨decide_eq_true (by omega), by omega⟩
              · left; exact decide_eq_false (by omega)
            clear hjm
            rcases hcond with hc | ⟨hc, hc2⟩
            all_goals
              go_wp2_with fail
              have hkn := HKN.out
              go_roundg (G - 1)
              case measure => omega
              case rel => exact ⟨k + 1, l1, by omega, by go_num, hb1, hll1, hown1, hB1⟩
      · have h30' : ¬ (k : Int) < 30 := by omega
        go_wp2_with fail
        go_ret
        exact ⟨l, _, _, rfl, hown, hB, hb, hll⟩
    · have hltd : ¬ (k : Int) < N := by omega
      have hltd' : decide ((k : Int) < N) = false := decide_eq_false hltd
      go_wp2_with fail
      go_ret
      exact ⟨l, _, _, rfl, hown, hB, hb, hll⟩
end Go.Proofs.Ytcoaopaiipkcpaa
