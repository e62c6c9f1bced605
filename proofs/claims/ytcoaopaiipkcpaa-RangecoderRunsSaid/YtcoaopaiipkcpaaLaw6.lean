/- RangecoderRuns, walked. -/
import Derived.Test.YtcoaopaiipkcpaaLaw2
import Derived.Test.YtcoaopaiipkcpaaRun
namespace Go.Proofs.Ytcoaopaiipkcpaa
open Go.RowKit Rc

set_option maxHeartbeats 2000000 in
set_option maxRecDepth 100000 in
theorem runs_calls (c : Nat) (n : Int) (hc : c < 256) (hR : runF c = true) (w : World) (h1 : -9223372036854775808 ≤ n) (h2 : n ≤ 9223372036854775807) :
    Calls Try.prog 9 #[.int .u8 (c : Int), .int .i64 n] w fun e w' => e = .returned (.bool true) ∧ Below w.heap.size w w' := by
  obtain ⟨k, hk⟩ : ∃ k : Nat, aroundZ n 1001 = k := ⟨(aroundZ n 1001).toNat, by have := aroundZ_nonneg n 1001 (by omega); omega⟩
  have hk1 : k ≤ 1000 := by have := aroundZ_nonneg n 1001 (by omega); omega
  obtain ⟨x, hxe⟩ : ∃ x, x = List.replicate k c := ⟨_, rfl⟩
  have hxl : x.length = k := by rw [hxe, List.length_replicate]
  have hx8 : ∀ b ∈ x, b < 256 := by rw [hxe]; intro b hb; rw [List.eq_of_mem_replicate hb]; exact hc
  obtain ⟨p, hpe⟩ : ∃ p, p = enc x := ⟨_, rfl⟩
  have hp8 : ∀ b ∈ p, b < 256 := by rw [hpe]; exact enc_bytes (by omega)
  have hpl : p.length ≤ 64 + k / 8 := by rw [hpe, hxe]; exact runs_len hc hk1 hR
  have hpi : (p.length : Int) ≤ 64 + (k : Int) / 8 := by omega
  have hd := decode_enc hx8 (by omega)
  rw [← hpe] at hd
  have HK := Lib.hid hk
  have HX := Lib.hid hxe
  have HXL := Lib.hid hxl
  have HP := Lib.hid hpe
  have HD := Lib.hid hd
  clear hk hxe hpe hd hR hxl
  have hk0 : (0 : Int) ≤ k := by omega
  go_enter Try.func9, Try.ntmps9
  go_wp2_with fail
  refine (around_calls n 1001 w h1 h2 (by omega) (by omega)).mono ?_
  rintro e w1 ⟨rfl, rfl⟩
  rw [HK.out]
  go_wp2_with (at_make; refine wpList_makes elem_u8 rfl rfl _ _ rfl w1.heap.size .i64 .i64 (k : Int) (k : Int) k rfl rfl rfl rfl (by omega) (by omega) (by omega) ?_; intro w2 h5 h6)
  have B2 : Below w1.heap.size w1 w2 := (Below.refl _ _).grown h6 (Nat.le_refl _) (fun k hk => by cases hk)
  have o2 : OwnB 5 w2 w1.heap.size (.slice (some ⟨w1.heap.size, 0, none⟩) k k) (List.replicate 0 c ++ List.replicate k 0) := by
    unfold OwnB
    have : (List.replicate 0 c ++ List.replicate k 0).length = k := by simp
    rw [this]
    simpa [u8s] using h5
  clear h5 h6
  go_wp2_with fail
  go_loopg [7] k (fun m i wr => ∃ j : Nat, j + m = k ∧ i = .int .i64 j ∧ OwnB 5 wr w1.heap.size (.slice (some ⟨w1.heap.size, 0, none⟩) k k) (List.replicate j c ++ List.replicate m 0) ∧ Below w1.heap.size w1 wr)
  case atStart => exact ⟨0, by omega, rfl, o2, B2⟩
  case round =>
    obtain ⟨j, hj, rfl, o, B⟩ := hrel
    have s := B.size
    have HJ := Lib.hid hj
    have hj0 : (0 : Int) ≤ j := by omega
    by_cases hlt : j < k
    · obtain ⟨m, rfl⟩ : ∃ m, gk = m + 1 := ⟨gk - 1, by omega⟩
      have hjk : (j : Int) < k := by omega
      have hlen : (List.replicate j c ++ List.replicate (m + 1) 0).length = k := by simp; omega
      have o0 : wr.ownsRow w1.heap.size 5 1 (.slice (some ⟨w1.heap.size, 0, none⟩) k k) k (u8s (List.replicate j c ++ List.replicate (m + 1) 0)) := by
        have h := o
        unfold OwnB at h
        rw [hlen] at h
        exact h
      have hcell : wr.cell? ⟨w1.heap.size, j, none⟩ = some (.int .u8 0) := by
        have h := (World.ownsRow.cellAt o0 j (by omega)).trans (u8s_get (List.replicate j c ++ List.replicate (m + 1) 0) j (by simp))
        rw [h, List.getElem_append_right (by simp)]
        simp
      have hfr := World.ownsRow.frozenAt o0 j
      have o' := OwnB.store o hlen.symm j c
      have hset : (List.replicate j c ++ List.replicate (m + 1) 0).set j c = List.replicate (j + 1) c ++ List.replicate m 0 := by
        have := set_next (List.replicate j c) m c
        rw [List.length_replicate] at this
        rw [this, List.replicate_succ']
      rw [hset] at o'
      have B' := B.setCell (p := ⟨w1.heap.size, j, none⟩) (by show w1.heap.size ≤ w1.heap.size; omega) (.int .u8 (c : Int))
      clear hj o o0 hlen hset
      go_wp2_with fail
      have hj := HJ.out
      go_roundg m
      case measure => omega
      case rel => exact ⟨j + 1, by omega, by go_num, o', B'⟩
    · obtain rfl : j = k := by omega
      obtain rfl : gk = 0 := by omega
      have r : Reads wr (.slice (some ⟨w1.heap.size, 0, none⟩) j j) (u8s x) := by
        have := o.reads
        rw [HX.out]
        simpa using this
      clear hj o
      go_wp2_with fail
      refine (enc_named' _ j j x p HP.out wr HXL.out.symm r hx8 (by have := HXL.out; omega)).mono ?_
      rintro e w4 ⟨A4, c4, rfl, o4, b4⟩
      have B4 := B.trans (b4.mono s)
      have s4 := B4.size
      have r' := r.below b4
      have r4 := o4.reads
      clear r o4 b4 B
      go_wp2_with fail
      refine (dec_named _ p 0 x HD.out w4 r4 hp8 (by omega)).mono ?_
      rintro e w5 ⟨A5, c5, rfl, o5, b5⟩
      have B5 := B4.trans (b5.mono s4)
      have s5 := B5.size
      have r5 := o5.reads
      have r'' := r'.below b5
      clear r' o5 b5 r4 B4
      go_wp2_with fail
      refine (same_calls_b _ _ x x true (by simp) w5 r'' r5 (by have := HXL.out; omega) (by have := HXL.out; omega)).mono ?_
      rintro e w6 ⟨rfl, b6⟩
      have B6 := B5.trans (b6.mono s5)
      have s6 := B6.size
      go_wp2_with fail
      refine (lives_named w6).mono ?_
      rintro e w12 ⟨rfl, b12⟩
      have B12 := B6.trans (b12.mono s6)
      go_wp2_with fail
      go_ret
      exact ⟨rfl, B12⟩
end Go.Proofs.Ytcoaopaiipkcpaa
