/- Encode. -/
import Derived.Test.YtcoaopaiipkcpaaShift
import Derived.Deep.RegionLaw
import Derived.BigRegion
namespace Go.Proofs.Ytcoaopaiipkcpaa
open Go.RowKit Rc

theorem wrap_u8 (n : Int) : IntKind.u8.wrap n = n % 256 := by simp [IntKind.wrap, IntKind.bits, IntKind.signed]

theorem bit_form {x j : Nat} (hx : x < 256) (_hj : j ≤ 7) {b : Nat} (h : x / 2 ^ j % 2 = b) : bits BinOp.and IntKind.u32 ((x : Int) / 2 ^ j % 4294967296) 1 = (b : Int) := by
  have hle : x / 2 ^ j ≤ x := Nat.div_le_self _ _
  have e : (x : Int) / 2 ^ j = ((x / 2 ^ j : Nat) : Int) := by rw [Int.natCast_ediv, Int.natCast_pow]; rfl
  rw [e]
  generalize x / 2 ^ j = y at *
  rw [show ((y : Int) % 4294967296) = (y : Int) from by omega]
  have := u32_and_nat y 1 (by omega) (by omega)
  rw [show (1 : Int) = ((1 : Nat) : Int) from rfl, this, Nat.and_one_is_mod, h]

/-- The head of a message so far. -/
def HeadJ (o base : Nat) (out : List Nat) (W : World) : Prop :=
  ∃ v, Blk W o 22 #[v] ∧ OwnB 5 W base v out ∧ base ≤ W.heap.size

set_option maxHeartbeats 2000000 in
set_option maxRecDepth 100000 in
theorem encode_calls (A : Option Addr) (cap : Nat) (xs : List Nat) (w : World) (hr : Reads w (.slice A xs.length cap) (u8s xs)) (hx : ∀ x ∈ xs, x < 256) (hl : xs.length ≤ 1000000) :
    Calls Try.prog 14 #[.slice A xs.length cap] w fun e w' => ∃ v', e = .returned v' ∧ OwnB 5 w' w.heap.size v' (enc xs) ∧ Below w.heap.size w w' := by
    obtain ⟨N, hN⟩ : ∃ N, N = xs.length := ⟨_, rfl⟩
    rw [← hN] at hr hl ⊢
    have HN := Lib.hid hN
    clear hN
    have h1 : Blk (w.alloc (Obj.cells #[Value.slice none 0 0] 22)) w.heap.size 22 #[Value.slice none 0 0] := heap_alloc_new w _
    have h2 := (Below.refl w.heap.size w).alloc (Nat.le_refl _) (Obj.cells #[Value.slice none 0 0] 22)
    have h3 : (w.alloc (Obj.cells #[Value.slice none 0 0] 22)).heap.size = w.heap.size + 1 := by simp
    go_enter Try.func14, Try.ntmps14
    go_wp2_with fail
    generalize w.alloc (Obj.cells #[Value.slice none 0 0] 22) = w1 at *
    go_loopg [4] 20 (fun k n wr => ∃ (m : Nat) (done : List Nat), n = .int .i64 m ∧ m ≤ 1000000 ∧ done.length + k ≤ 20 ∧ HeadJ w.heap.size w.heap.size done wr ∧ Below w.heap.size w wr ∧ Hid (done ++ lenF k m = len N ∧ m < 128 ^ (k + 1)))
    case atStart => exact ⟨N, [], rfl, hl, by simp, ⟨_, h1, OwnB.nil _ _, by omega⟩, h2, rfl, by omega⟩
    case round =>
      obtain ⟨m, done, rfl, hm, hdl, ⟨u, ho, hown, hbs⟩, hB, H⟩ := hrel
      have hcell := ho.cell 0
      have hfr := ho.frozen 0
      by_cases hge : 128 ≤ m
      · obtain ⟨k', hk1, hk2⟩ := lenF_go H.out hge
        have HK := Lib.hid hk1
        have HK2 := Lib.hid hk2
        clear hk1 hk2
        have hge' : (128 : Int) ≤ m := by omega
        have hno := own_blk_ne hown ho (by decide)
        go_wp2_with (at_builtin; refine wpList_push elem_u8 rfl (.tmp 18) (.tmp 23) rfl w.heap.size u _ _ rfl (hown.alloc _) wr.heap.size (.int .u8 ((m % 128 + 128 : Nat) : Int)) rfl ?c1 rfl ?c2 ?c3 ?c4 ?_)
        case c1 => simp
        case c2 => omega
        case c3 => omega
        case c4 => simp; omega
        intro v' w2 h4 h5 h6
        obtain ⟨r1, r2, r3, r4, r5, r6, r7⟩ := pushed (c := wr.heap.size) (Nat.le_refl _) (Nat.le_refl _) ho hown (fun e => by have := hown.lt _ e; omega) hbs h4 h5 h6
        have hcell1 := r1.cell 0
        have hfr1 := r1.frozen 0
        obtain ⟨A', cap', rfl⟩ := own_slice h4
        clear h4 h5 h6 hcell hfr r7
        go_wp2_with fail
        have hk1 := HK.out
        go_roundg k'
        case measure => omega
        case rel => exact ⟨m / 128, done ++ [m % 128 + 128], by go_num, by omega, by simp; omega, ⟨_, r1.put 0 _, r2.far (p := ⟨_, 0, none⟩) r6 _, by simpa [World.setCell] using r4⟩, (hB.trans r3).setCell (Nat.le_refl _) _, HK2.out⟩
      · have hstop := Lib.hid (lenF_stop H.out hge)
        have hlt' : (m : Int) < 128 := by omega
        go_wp2_with (at_builtin; refine wpList_push elem_u8 rfl (.tmp 25) (.tmp 28) rfl w.heap.size u _ _ rfl (hown.alloc _) wr.heap.size (.int .u8 (m : Int)) rfl ?d1 rfl ?d2 ?d3 ?d4 ?_)
        case d1 => simp
        case d2 => omega
        case d3 => omega
        case d4 => simp; omega
        intro v' w2 h4 h5 h6
        obtain ⟨r1, r2, r3, r4, r5, r6, r7⟩ := pushed (c := wr.heap.size) (Nat.le_refl _) (Nat.le_refl _) ho hown (fun e => by have := hown.lt _ e; omega) hbs h4 h5 h6
        have hcell1 := r1.cell 0
        have hfr1 := r1.frozen 0
        obtain ⟨A', cap', rfl⟩ := own_slice h4
        clear h4 h5 h6 hcell hfr r7
        by_cases hz : N = 0
        · have hz' : ((N : Int) == 0) = true := by simp [hz]
          go_wp2_with fail
          go_ret
          refine ⟨_, rfl, ?_, (hB.trans r3).setCell (Nat.le_refl _) _⟩
          have he : enc xs = done ++ [m] := by
            rw [hstop.out]
            have := HN.out
            have h0 : xs = [] := List.eq_nil_of_length_eq_zero (by omega)
            subst h0
            subst hz
            simp [enc, body]
          rw [he]
          exact r2.far (p := ⟨_, 0, none⟩) r6 _
        · have hz' : ((N : Int) == 0) = false := by simp [hz]
          go_wp2_with fail
          refine (new_calls _ _ _).mono ?_
          rintro e w4 ⟨rfl, hc4, hB4⟩
          have hdone : Hid (done ++ [m] = len N) := hstop
          have hJ0 : EncJ w.heap.size (w2.setCell ⟨w.heap.size, 0, none⟩ (.slice A' (done.length + 1) cap')).heap.size w.heap.size (done ++ [m]) (w2.setCell ⟨w.heap.size, 0, none⟩ (.slice A' (done.length + 1) cap')) := by
            have hh := r2.far (p := ⟨w.heap.size, 0, none⟩) r6 (.slice A' (done.length + 1) cap')
            exact ⟨_, r1.put 0 _, hh, fun e => by have := hh.lt _ e; omega, by simpa [World.setCell] using r4⟩
          have hBw : Below w.heap.size w (w2.setCell ⟨w.heap.size, 0, none⟩ (.slice A' (done.length + 1) cap')) := (hB.trans r3).setCell (Nat.le_refl _) _
          have hsz3 : w.heap.size < (w2.setCell ⟨w.heap.size, 0, none⟩ (.slice A' (done.length + 1) cap')).heap.size := by have := r1.lt; simpa [World.setCell] using this
          generalize (w2.setCell ⟨w.heap.size, 0, none⟩ (.slice A' (done.length + 1) cap')) = w3 at *
          have hJ4 : EncJ w.heap.size w3.heap.size w.heap.size (done ++ [m]) w4 := by
            obtain ⟨v, j1, j2, j3, j4⟩ := hJ0
            exact ⟨v, j1.below hB4 hsz3, j2.below' hB4, j3, by have := hB4.size; omega⟩
          have hBw4 := hBw.trans (hB4.mono (by omega))
          have hrw := hr.below hBw4
          have hne : ¬ xs = [] := fun e => hz (by rw [HN.out, e]; rfl)
          clear hB4 hBw hJ0 hcell1 hfr1 r1 r2 r3 r4 r5 r6 hown ho hB H hbs h1 h2 h3
          generalize w3.heap.size = c at *
          have hS := enc_shifts w.heap.size c w.heap.size w.heap.size (by omega) (Nat.le_refl _) (Nat.le_refl _) (by omega)
          obtain ⟨T, hT⟩ : ∃ T, T = (done ++ [m]) ++ (encBytes xs St.init).1 := ⟨_, rfl⟩
          obtain ⟨Fs, hF⟩ : ∃ Fs, Fs = (encBytes xs St.init).2 := ⟨_, rfl⟩
          have HT := Lib.hid hT
          have HF := Lib.hid hF
          clear hT hF
          go_wp2_with fail
          go_loopg [38] N (fun n k wr => ∃ (i : Nat) (s : St) (out : List Nat), i + n = N ∧ k = .int .i64 i ∧ s.Ok ∧ CoderAt 52 wr c s (.func (.func 22) #[] #[.pointer (some ⟨w.heap.size, 0, none⟩)]) ∧ EncJ w.heap.size c w.heap.size out wr ∧ Below w.heap.size w wr ∧ Reads wr (.slice A N cap) (u8s xs) ∧ out.length ≤ 21 + 32 * i ∧
            Hid (out ++ (encBytes (xs.drop i) s).1 = T ∧ (encBytes (xs.drop i) s).2 = Fs))
          case atStart => exact ⟨0, St.init, done ++ [m], by omega, rfl, St.init_ok, hc4, hJ4, hBw4, hrw, by rw [hdone.out]; have := len_len N; omega, by rw [HT.out]; rfl, by rw [HF.out]; rfl⟩
          case round =>
            obtain ⟨i, s, out, hin, rfl, hs, hcr, hJ, hBr, hrr, hol, H⟩ := hrel
            have HIN := Lib.hid hin
            have hiN : i ≤ N := by omega
            clear hin
            by_cases hlt : i < N
            · have hlen : i < xs.length := by rw [← HN.out]; exact hlt
              obtain ⟨A0, c0, hv, hc0, hrd⟩ := id hrr
              rw [u8s_length] at hrd
              obtain ⟨g, o', hA, hg, hcell⟩ := hrd (by omega)
              obtain rfl : A = some ⟨g, o', none⟩ := by injection hv with e1 e2 e3; rw [e1, hA]
              have hci := hcell i _ (u8s_get xs i hlen)
              obtain ⟨x, hxe⟩ : ∃ x, x = xs[i] := ⟨_, rfl⟩
              have hx8 : x < 256 := by rw [hxe]; exact hx _ (List.getElem_mem hlen)
              rw [← hxe] at hci
              have hdrop : xs.drop i = x :: xs.drop (i + 1) := by rw [hxe]; exact List.drop_eq_getElem_cons hlen
              have H2 := H.out
              rw [hdrop] at H2
              have H3 := Lib.hid (enc_byte H2)
              clear H2 hdrop hxe hcell hrd hc0 hA hv hg
              go_wp2_with fail
              obtain ⟨wo, rfl⟩ : ∃ wo : World, wo = wr := ⟨_, rfl⟩
              go_loopg [8, 9] 8 (fun n cx iv wr => ∃ (iv0 : Int) (ctx : Nat) (s1 : St) (out1 : List Nat), cx = .int .i64 ctx ∧ iv = .int .i64 iv0 ∧ iv0 + 1 = n ∧ CtxOk n ctx ∧ s1.Ok ∧ CoderAt 52 wr c s1 (.func (.func 22) #[] #[.pointer (some ⟨w.heap.size, 0, none⟩)]) ∧ EncJ w.heap.size c w.heap.size out1 wr ∧ Below w.heap.size w wr ∧ Reads wr (.slice (some ⟨g, o', none⟩) N cap) (u8s xs) ∧
                out1.length + 4 * n ≤ out.length + 32 ∧ Hid (out1 ++ (encBits n ctx x s1).1 = out ++ (encBits 8 1 x s).1 ∧ (encBits n ctx x s1).2 = (encBits 8 1 x s).2))
              case atStart => exact ⟨7, 1, s, out, rfl, rfl, rfl, CtxOk.init, hs, hcr, hJ, hBr, hrr, by omega, rfl, rfl⟩
              case round =>
                obtain ⟨iv0, ctx, s1, out1, rfl, rfl, hiv, hctx, hs1, hc1, hJ1, hB1, hr1, hl1, HB⟩ := hrel
                by_cases hz9 : gk = 0
                · subst hz9
                  obtain rfl : iv0 = -1 := by omega
                  clear hiv
                  have HB2 := Lib.hid (by simpa [encBits] using HB.out : out1 = out ++ (encBits 8 1 x s).1 ∧ s1 = (encBits 8 1 x s).2)
                  go_wp2_with fail
                  have hin := HIN.out
                  go_roundg (gk - 1)
                  case measure => omega
                  case rel => exact ⟨i + 1, s1, out1, by omega, by go_num, hs1, hc1, hJ1, hB1, hr1, by omega, by rw [HB2.out.1, HB2.out.2]; exact H3.out⟩
                · obtain ⟨j, rfl⟩ : ∃ j, gk = j + 1 := ⟨gk - 1, by omega⟩
                  obtain rfl : iv0 = (j : Int) := by omega
                  have hc256 := hctx.lt
                  have hj7 : j ≤ 7 := by have := hctx.2.2; omega
                  have hmid := St.mid_lt hs1 hc256
                  have hc512 : (0 : Int) ≤ ctx := by omega
                  clear hiv hz9
                  by_cases hbit : x / 2 ^ j % 2 = 1
                  · have HBit := Lib.hid hbit
                    clear hbit
                    go_wp2_with fail
                    rw [bit_form hx8 hj7 HBit.out]
                    refine (split_calls c s1 hs1 _ ctx wr hc256 hc1).mono ?_
                    rintro e w5 ⟨rfl, nd, rfl⟩
                    go_wp2_with fail
                    refine (narrow_one c ctx s1 (s1.mid ctx) hs1 _ _ _ _ _ hS out1 (wr.drewN nd) hc256 hmid.1 hmid.2 (hc1.drewN nd) hJ1 (by omega)).mono ?_
                    rintro e w6 ⟨rfl, hJ6, hc6, hB6⟩
                    have hB7 := (below_drewN hB1 nd).trans hB6
                    have hr7 : Reads w6 (.slice (some ⟨g, o', none⟩) N cap) (u8s xs) := hr.below hB7
                    go_wp2_with fail
                    go_roundg j
                    case measure => omega
                    case rel => exact ⟨(j : Int) - 1, 2 * ctx + 1, (s1.step ctx (s1.mid ctx) 1).2, out1 ++ (s1.step ctx (s1.mid ctx) 1).1, by go_num, rfl, by omega, hctx.next (by omega), hs1.step hc256 hmid.1 hmid.2, hc6, hJ6, hB7, hr7, by have := step_len s1 ctx (s1.mid ctx) 1; simp; omega, enc_bit HB.out HBit.out⟩
                  · replace hbit : x / 2 ^ j % 2 = 0 := by omega
                    have HBit := Lib.hid hbit
                    clear hbit
                    go_wp2_with fail
                    rw [bit_form hx8 hj7 HBit.out]
                    refine (split_calls c s1 hs1 _ ctx wr hc256 hc1).mono ?_
                    rintro e w5 ⟨rfl, nd, rfl⟩
                    go_wp2_with fail
                    refine (narrow_zero c ctx s1 (s1.mid ctx) hs1 _ _ _ _ _ hS out1 (wr.drewN nd) hc256 hmid.1 hmid.2 (hc1.drewN nd) hJ1 (by omega)).mono ?_
                    rintro e w6 ⟨rfl, hJ6, hc6, hB6⟩
                    have hB7 := (below_drewN hB1 nd).trans hB6
                    have hr7 : Reads w6 (.slice (some ⟨g, o', none⟩) N cap) (u8s xs) := hr.below hB7
                    go_wp2_with fail
                    go_roundg j
                    case measure => omega
                    case rel => exact ⟨(j : Int) - 1, 2 * ctx + 0, (s1.step ctx (s1.mid ctx) 0).2, out1 ++ (s1.step ctx (s1.mid ctx) 0).1, by go_num, rfl, by omega, hctx.next (by omega), hs1.step hc256 hmid.1 hmid.2, hc6, hJ6, hB7, hr7, by have := step_len s1 ctx (s1.mid ctx) 0; simp; omega, enc_bit HB.out HBit.out⟩
            · obtain rfl : i = N := by omega
              have HE := Lib.hid (by
                have h := H.out
                rw [List.drop_of_length_le (by rw [← HN.out]; omega)] at h
                simpa [encBytes] using h : out = T ∧ s = Fs)
              have H0 := hdone
              clear hrr hrw hr hdone hstop hx
              go_wp2_with fail
              obtain ⟨wo, rfl⟩ : ∃ wo : World, wo = wr := ⟨_, rfl⟩
              go_loopg [11] 4 (fun n iv wr => ∃ (iv0 : Int) (out1 : List Nat), iv = .int .i64 iv0 ∧ iv0 + 8 = 8 * n ∧ n ≤ 4 ∧ CoderAt 52 wr c s (.func (.func 22) #[] #[.pointer (some ⟨w.heap.size, 0, none⟩)]) ∧ EncJ w.heap.size c w.heap.size out1 wr ∧ Below w.heap.size w wr ∧
                out1.length + n ≤ out.length + 4 ∧ Hid (out1 ++ flushN n s.lo = out ++ flushN 4 s.lo))
              case atStart => exact ⟨24, out, rfl, rfl, by omega, hcr, hJ, hBr, by omega, rfl⟩
              case round =>
                obtain ⟨iv0, out1, rfl, hiv, hn4, hc1, hJ1, hB1, hl1, HB⟩ := hrel
                by_cases hz9 : gk = 0
                · subst hz9
                  obtain rfl : iv0 = -8 := by omega
                  obtain ⟨v, j1, j2, j3, j4⟩ := hJ1
                  have hcell := j1.cell 0
                  go_wp2_with fail
                  go_ret
                  refine ⟨_, rfl, ?_, hB1⟩
                  have he : enc xs = out1 := by
                    have h1 := HB.out
                    rw [flushN_4] at h1
                    simp only [flushN, List.append_nil] at h1
                    rw [h1, HE.out.1, HE.out.2, HT.out, HF.out, H0.out, enc, body, if_neg hne, HN.out]
                    simp
                  rw [he]
                  exact j2
                · obtain ⟨j, rfl⟩ : ∃ j, gk = j + 1 := ⟨gk - 1, by omega⟩
                  obtain ⟨q, hq⟩ : ∃ q, q = 8 * j := ⟨_, rfl⟩
                  obtain rfl : iv0 = (q : Int) := by omega
                  have hq24 : q ≤ 24 := by omega
                  have HQ := Lib.hid hq
                  have HIV := Lib.hid hiv
                  clear hq hiv hz9
                  obtain ⟨v, j1, j2, j3, j4⟩ := hJ1
                  have hlo := hc1.lo_
                  have hcell := j1.cell 0
                  have hfr := j1.frozen 0
                  obtain ⟨A7, cap7, rfl⟩ := own_slice j2
                  have hlb := World.ownsRow.lt j2
                  have hclt := Blk.lt hc1
                  have hlto := j1.lt
                  go_wp2_with fail
                  go_region_law (refine step_push elem_u8 rfl (.tmp 68) (.tmp 76) rfl w.heap.size (.slice A7 out1.length cap7) _ _ rfl (j2.alloc _) wr.heap.size (.int .u8 ((s.lo / 2 ^ q % 256 : Nat) : Int)) rfl (by simp [wrap_u8]) rfl (by omega) (by omega) (by simp; omega) ?_; intro v' w1 h4 h5 h6; obtain ⟨A8, cap8, rfl⟩ := own_slice h4; have R := pushed (W := wr.drew) (c := c) (Nat.le_refl _) (Nat.le_refl _) j1 j2 j3 j4 h4 h5 (by simpa using h6); have hcell1 := R.1.cell 0; have hfr1 := R.1.frozen 0; have hc2 : CoderAt 52 w1 c s (.func (.func 22) #[] #[.pointer (some ⟨w.heap.size, 0, none⟩)]) := (Blk.alloc (w := wr.drew) hc1 _).grown h5 (fun e => j3 e.symm); clear h4 h5 h6 hcell hfr)
                  all_goals
                    obtain ⟨r1, r2, r3, r4, r5, r6, r7⟩ := R
                    have r8 : Below w.heap.size wr w1 := ⟨r3.os, r3.tape, r3.output, r3.size, r3.block⟩
                    go_wp2_with fail
                    go_roundg j
                    case measure => omega
                    case rel => exact ⟨(q : Int) - 8, out1 ++ [s.lo / 2 ^ q % 256], rfl, by have := HQ.out; omega, by omega, hc2.far (p := ⟨w.heap.size, 0, none⟩) (by simp; omega) _, ⟨_, r1.put 0 _, r2.far (p := ⟨w.heap.size, 0, none⟩) r6 _, r7 hclt, by simpa [World.setCell] using r4⟩, (hB1.trans r8).setCell (Nat.le_refl _) _, by simp; omega, Lib.hid (by have := HB.out; rw [HQ.out]; simpa [flushN] using this)⟩
end Go.Proofs.Ytcoaopaiipkcpaa
