/- The documented examples. -/
import Derived.Test.YtcoaopaiipkcpaaDec
import Derived.Test.YtcoaopaiipkcpaaLaw
namespace Go.Proofs.Ytcoaopaiipkcpaa
open Go.RowKit Rc

theorem enc_nil : enc [] = [0] := rfl
theorem enc_seven : ∃ y l, enc [7] = 1 :: y :: l := by
  have h : (len 1) = [1] := rfl
  cases hb : body [7] with
  | nil =>
    unfold body at hb
    rw [if_neg (by simp)] at hb
    simp [flush] at hb
  | cons y l => exact ⟨y, l, by rw [enc, show [7].length = 1 from rfl, h, hb]; rfl⟩

theorem OwnB.reads {T : TypeId} {w : World} {base : Nat} {v : Value} {l : List Nat} (h : OwnB T w base v l) : Reads w v (u8s l) := Reads.of_own h
theorem Reads.nil (w : World) : Reads w (.slice none 0 0) (u8s []) := ⟨none, 0, rfl, Nat.le_refl _, fun h => absurd h (by simp [u8s])⟩
theorem Reads.one (w : World) (T : TypeId) (x : Nat) : Reads (w.alloc (.cells #[.int .u8 (x : Int)] T)) (.slice (some ⟨w.heap.size, 0, none⟩) 1 1) (u8s [x]) :=
  ⟨some ⟨w.heap.size, 0, none⟩, 1, rfl, Nat.le_refl _, fun _ => ⟨w.heap.size, 0, rfl, by simp, fun j u hu => by
    match j, hu with
    | 0, hu => simp [u8s] at hu; subst hu; simp⟩⟩

set_option maxHeartbeats 1000000 in
set_option maxRecDepth 100000 in
theorem lives_calls (w : World) : Calls Try.prog 16 #[] w fun e w' => e = .returned (.bool true) ∧ Below w.heap.size w w' := by
  go_enter Try.func16, Try.ntmps16
  go_wp2_with fail
  refine (encode_calls' none 0 0 [] w rfl (Reads.nil w) (by simp) (by omega)).mono ?_
  rintro e w1 ⟨v1, rfl, ho1, hb1⟩
  rw [enc_nil] at ho1
  have hr1 := ho1.reads
  obtain ⟨A1, c1, rfl, -, -⟩ := id hr1
  obtain ⟨g1, o1, rfl, hg1, hcell1⟩ := hr1.at_ (k := 0) (by simp)
  go_wp2_with fail
  have hr2 := Reads.one w1 5 7
  have hb2 := hb1.alloc hb1.size (.cells #[.int .u8 ((7 : Nat) : Int)] 5)
  have hs2 : (w1.alloc (.cells #[.int .u8 ((7 : Nat) : Int)] 5)).heap.size = w1.heap.size + 1 := by simp
  have hc2 : (w1.alloc (.cells #[.int .u8 ((7 : Nat) : Int)] 5)).cell? ⟨g1, o1 + 0, none⟩ = some (.int .u8 (([0] : List Nat)[0] : Int)) := (World.cell?_alloc_lt w1 _ ⟨g1, o1 + 0, none⟩ hg1).trans hcell1
  refine (encode_calls' _ 1 1 [7] _ rfl hr2 (by simp) (by omega)).mono ?_
  rintro e w3 ⟨v3, rfl, ho3, hb3⟩
  generalize (w1.alloc (.cells #[.int .u8 ((7 : Nat) : Int)] 5)) = w2 at *
  have hbb := hb2.trans (hb3.mono hb2.size)
  have hc3 := (hb3.cell (p := ⟨g1, o1 + 0, none⟩) (by show g1 < _; omega)).trans hc2
  have hr3 := ho3.reads
  have hlt3 : (enc [7]).length ≤ 140737488355328 := by have := enc_len_le [7]; simp at this; omega
  have hbytes := enc_bytes (xs := [7]) (by simp)
  have hdec := decode_enc (xs := [7]) (by simp) (by simp)
  obtain ⟨y, l, hen⟩ := enc_seven
  have hd := decode_calls v3 (enc [7]) w3 hr3 hbytes hlt3
  obtain ⟨A3, c3, rfl, -, -⟩ := id hr3
  obtain ⟨g3, o3, rfl, hg3, hcell3⟩ := hr3.at_ (k := 0) (by rw [hen]; simp)
  rw [u8s_length] at *
  have hl2 : ¬ ((enc [7]).length : Int) < 2 := by rw [hen]; simp; omega
  have hl2' : decide (((enc [7]).length : Int) < 2) = false := decide_eq_false hl2
  have hv3 : (enc [7])[0]'(by rw [hen]; simp) = 1 := by simp [hen]
  rw [hv3] at hcell3
  have HD := Lib.hid hd
  have HDEC := Lib.hid hdec
  have hc3' : w3.cell? ⟨g1, o1, none⟩ = some (.int .u8 0) := by simpa using hc3
  have hcell3' : w3.cell? ⟨g3, o3, none⟩ = some (.int .u8 1) := by simpa using hcell3
  have hs3 := hbb.size
  have hg13 : g1 < w3.heap.size := by have := hb3.size; omega
  have hn3 : (2 : Int) ≤ (enc [7]).length := by omega
  clear hd hdec hen hv3 hbytes hlt3 ho3 hr3 ho1 hr1 hr2 hcell1 hc2 hb1 hb2 hb3 hs2 hl2 hc3 hcell3
  generalize (enc [7]).length = n3 at *
  rw [show (u8s [0]).length = 1 from rfl] at *
  go_wp2_with fail
  refine HD.out.mono ?_
  rintro e w4 ⟨v4, rfl, ho4, hb4⟩
  rw [HDEC.out] at *
  have hc4 : w4.cell? ⟨g1, o1, none⟩ = some (.int .u8 0) := (hb4.cell (p := ⟨g1, o1, none⟩) hg13).trans hc3'
  have hc4' : w4.cell? ⟨g3, o3, none⟩ = some (.int .u8 1) := (hb4.cell (p := ⟨g3, o3, none⟩) hg3).trans hcell3'
  have hr4 := OwnB.reads ho4
  obtain ⟨A4, c4, rfl, -, -⟩ := id hr4
  obtain ⟨g4, o4, rfl, hg4, hcell4⟩ := hr4.at_ (k := 0) (by simp)
  have hcell4' : w4.cell? ⟨g4, o4, none⟩ = some (.int .u8 7) := by simpa using hcell4
  have hfin := hbb.trans (hb4.mono hs3)
  rw [show (u8s [7]).length = 1 from rfl] at *
  clear hcell4 hr4 ho4 hc3' hcell3' hb4 hg4
  go_wp2_with fail
  go_ret
  exact ⟨rfl, hfin⟩
end Go.Proofs.Ytcoaopaiipkcpaa
