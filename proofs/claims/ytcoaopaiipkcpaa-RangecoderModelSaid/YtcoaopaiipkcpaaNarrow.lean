/- narrow. -/
import Derived.Test.YtcoaopaiipkcpaaSplit
import Derived.Deep.LoopGhost
import Derived.StillTailTactics
import Derived.Laws.BitsAllLaws
namespace Go.Proofs.Ytcoaopaiipkcpaa
open Go.RowKit Rc

theorem divmul_cast (a b : Nat) : ((a / b : Nat) : Int) = (a : Int) / b := Int.natCast_ediv a b

set_option maxHeartbeats 400000 in
theorem update_one (c k : Nat) (s : St) (h3 : 15 ≤ s.p k) (h4 : s.p k ≤ 4081) (f : Value) (w : World) (hk : k < 256) (hc : CoderAt 52 w c s f) :
    Calls Try.prog 31 #[.pointer (some ⟨c, 0, none⟩), .int .i64 k, .int .u32 1] w fun e w' => e = .returned (.tuple #[]) ∧ w' = (w.setCell ⟨c, k, none⟩ (.int .u32 (upd (s.p k) 1 : Nat))).drew := by
    have hp := hc.p_ hk
    have hf := hc.free k
    clear hc
    generalize s.p k = p at *
    have hu : ((upd p 1 : Nat) : Int) = p + (4096 - p) / 16 := by unfold upd; rw [if_pos rfl]; omega
    have HU := Lib.hid hu
    clear hu
    have hk' : (0 : Int) ≤ k := by omega
    have hk'' : (k : Int) < 256 := by omega
    go_enter Try.func31, Try.ntmps31
    go_wp2_with fail
    go_region
    go_end0
    rw [HU.out]
    exact ⟨rfl, rfl⟩

set_option maxHeartbeats 400000 in
theorem update_zero (c k : Nat) (s : St) (h3 : 15 ≤ s.p k) (h4 : s.p k ≤ 4081) (f : Value) (w : World) (hk : k < 256) (hc : CoderAt 52 w c s f) :
    Calls Try.prog 31 #[.pointer (some ⟨c, 0, none⟩), .int .i64 k, .int .u32 0] w fun e w' => e = .returned (.tuple #[]) ∧ w' = (w.setCell ⟨c, k, none⟩ (.int .u32 (upd (s.p k) 0 : Nat))).drew := by
    have hp := hc.p_ hk
    have hf := hc.free k
    clear hc
    generalize s.p k = p at *
    have hu : ((upd p 0 : Nat) : Int) = p - p / 16 := by unfold upd; rw [if_neg (by omega)]; omega
    have HU := Lib.hid hu
    clear hu
    have hk' : (0 : Int) ≤ k := by omega
    have hk'' : (k : Int) < 256 := by omega
    go_enter Try.func31, Try.ntmps31
    go_wp2_with fail
    go_region
    go_end0
    rw [HU.out]
    exact ⟨rfl, rfl⟩

/-- What the coder's call-back does: it takes a byte; J: what holds of the bytes so far. -/
structure Shifts (c M fn : Nat) (Fr : World → World → Prop) (caps : Array Value) (J : List Nat → World → Prop) : Prop where
  refl : ∀ W, Fr W W
  trans : ∀ W1 W2 W3, Fr W1 W2 → Fr W2 W3 → Fr W1 W3
  set : ∀ W1 W2 k v, Fr W1 W2 → Fr W1 (W2.setCell ⟨c, k, none⟩ v)
  drew : ∀ W1 W2 n, Fr W1 W2 → Fr W1 (W2.drewN n)
  enters : ∀ (args : Array Value) (W : World), Sem.run Try.prog (callFunc fn args) W = .ok (.enter fn args) W
  calls : ∀ (out : List Nat) (W : World) (b : Nat) (v : Int) (s : St), v = b → b < 256 → out.length < M → J out W → CoderAt 52 W c s (.func (.func fn) #[] caps) →
    Calls Try.prog fn (#[.int .u8 v] ++ caps) W fun e W' => e = .returned (.tuple #[]) ∧ J (out ++ [b]) W' ∧ CoderAt 52 W' c s (.func (.func fn) #[] caps) ∧ Fr W W'
  put : ∀ (out : List Nat) (W : World) (k : Nat) (v : Value), J out W → J out (W.setCell ⟨c, k, none⟩ v)
  draw : ∀ (out : List Nat) (W : World) (n : Nat), J out W → J out (W.drewN n)

theorem bits_or_255 (hi : Nat) : bits BinOp.or IntKind.u32 ((hi : Int) * 256 % 4294967296) 255 = ((hi * 256 % 4294967296 + 255 : Nat) : Int) := by
  have := u32_or_nat (hi * 256 % 4294967296) 255 (by omega) (by omega)
  rw [or_255] at this
  rw [← this]
  rfl

set_option maxHeartbeats 400000 in
theorem narrow_one (c k : Nat) (s : St) (m : Nat) (hs : s.Ok) (fn : Nat) (caps : Array Value) (J : List Nat → World → Prop) (M : Nat) (Fr : World → World → Prop) (hS : Shifts c M fn Fr caps J) (out : List Nat) (w : World) (hk : k < 256) (h1 : s.lo ≤ m) (h2 : m < s.hi) (hc : CoderAt 52 w c s (.func (.func fn) #[] caps)) (hJ : J out w) (hM : out.length + 4 ≤ M) :
    Calls Try.prog 23 #[.pointer (some ⟨c, 0, none⟩), .int .i64 k, .int .u32 m, .int .u32 1] w fun e w' => e = .returned (.tuple #[]) ∧
      J (out ++ (s.step k m 1).1) w' ∧ CoderAt 52 w' c (s.step k m 1).2 (.func (.func fn) #[] caps) ∧ Fr w w' := by
    have hlo := hc.lo_
    have hhi := hc.hi_
    have hf := hc.free
    have hc1 := hc.sethi_ m
    have hf1 := hf 257
    clear hf
    go_enter Try.func23, Try.ntmps23
    go_wp2_with fail
    have h15 := hs.1 k hk
    have hpu := hc1.setp_ hk (upd (s.p k) 1)
    refine (update_one c k { s with hi := m } h15.1 h15.2 _ _ hk hc1).mono ?_
    rintro e w' ⟨rfl, rfl⟩
    have hj1 := hS.put _ _ k (.int .u32 (upd (s.p k) 1 : Nat)) (hS.put _ _ 257 (.int .u32 (m : Int)) hJ)
    have hb1 : Fr w ((w.setCell ⟨c, 257, none⟩ (.int .u32 (m : Int))).setCell ⟨c, k, none⟩ (.int .u32 (upd (s.p k) 1 : Nat))) := hS.set _ _ _ _ (hS.set _ _ _ _ (hS.refl _))
    obtain ⟨p', hp'⟩ : ∃ p', p' = setp s.p k (upd (s.p k) 1) := ⟨_, rfl⟩
    have HP := Lib.hid hp'
    rw [← hp'] at hpu
    clear hp' h15 hc1 hhi hlo hf1 hc hJ
    have hfin := norm_spec4 s.lo m h1 (by have := hs.2.2; omega)
    generalize ((w.setCell ⟨c, 257, none⟩ (.int .u32 (m : Int))).setCell ⟨c, k, none⟩ (.int .u32 (upd (s.p k) 1 : Nat))) = w2 at *
    go_wp2_with fail
    obtain ⟨R, hR⟩ : ∃ R, R = norm 4 s.lo m := ⟨_, rfl⟩
    rw [← hR] at hfin
    have HR := Lib.hid hR
    have hst : (s.step k m 1) = (R.1, ⟨p', R.2.1, R.2.2⟩) := by rw [hR, HP.out]; rfl
    have HST := Lib.hid hst
    clear hst hR
    go_loopg [] 4 (fun n wr => ∃ (lo hi : Nat) (done : List Nat), lo ≤ hi ∧ hi < 4294967296 ∧ done.length + n ≤ M ∧ CoderAt 52 wr c ⟨p', lo, hi⟩ (.func (.func fn) #[] caps) ∧ J done wr ∧ Fr w wr ∧ Hid (done ++ (norm n lo hi).1 = out ++ R.1 ∧ (norm n lo hi).2 = R.2))
    case atStart => exact ⟨s.lo, m, out, by omega, by have := hs.2.2; omega, hM, hpu.drewN 1, hS.draw _ _ 1 hj1, hS.drew _ _ 1 hb1, by rw [HR.out], by rw [HR.out]⟩
    case round =>
      obtain ⟨lo, hi, done, hle, hlt, hdl, hcr, hJr, hBr, HN⟩ := hrel
      have hlo := hcr.lo_
      have hhi := hcr.hi_
      have hfr := hcr.free
      by_cases heq : lo / 16777216 = hi / 16777216
      · have ht : (bits BinOp.xor IntKind.u32 (lo : Int) (hi : Int) / 16777216 == 0) = true := by
          rw [u32_xor_nat _ _ (by omega) (by omega)]
          have := (xor_top lo hi).2 heq
          simp; omega
        go_wp2_with fail
        go_quiet (fail)
        go_wp2_with fail
        have hcq := hcr.drewN nq
        have hJq := hS.draw _ _ nq hJr
        have hBq := hS.drew _ _ nq hBr
        clear hcr hJr hBr hlo hhi hfr
        generalize wr.drewN nq = wq at *
        obtain ⟨n', hn1, hn2, hn3⟩ := norm_go HN.out.1 HN.out.2 hfin.1 heq
        have HN1 := Lib.hid hn1
        have hcall := hS.calls done wq.drew (hi / 16777216) ((hi : Int) / 16777216) ⟨p', lo, hi⟩ (Int.natCast_ediv _ _).symm (by omega) (by omega) (hS.draw _ _ 1 hJq) hcq
        have hent := hS.enters
        have hff := hcq.f_
        have hhi := hcq.hi_
        have HC := Lib.hid hcall
        have HN2 := Lib.hid hn2
        have HN3 := Lib.hid hn3
        clear hcall hn1 hn2 hn3
        go_still_tail 10, (by kernel_rfl)
        change wpList _ _ _ _ _ wq.drew
        go_wp2_with fail
        refine HC.out.mono ?_
        rintro e w4 ⟨rfl, hJ4, hc4, hB4⟩
        go_wp2_with fail
        have hlo4 := hc4.lo_
        have hhi4 := hc4.hi_
        have hf4 := hc4.free 256
        have hf5 := hc4.free 257
        go_region
        go_wp2_with fail
        have hn1 := HN1.out
        go_roundg n'
        case measure => omega
        case rel =>
          have c1 := hc4.setlo_ (lo * 256 % 4294967296)
          have c2 := c1.sethi_ (hi * 256 % 4294967296 + 255)
          rw [bits_or_255]
          refine ⟨lo * 256 % 4294967296, hi * 256 % 4294967296 + 255, done ++ [hi / 16777216], by omega, by omega, by simp; omega, c2.drewN 1, hS.draw _ _ 1 (hS.put _ _ _ _ (hS.put _ _ _ _ hJ4)), hS.drew _ _ 1 (hS.set _ _ _ _ (hS.set _ _ _ _ (hS.trans _ _ _ (hS.drew _ _ 1 hBq) hB4))), HN2.out, HN3.out⟩
      · have ht : (bits BinOp.xor IntKind.u32 (lo : Int) (hi : Int) / 16777216 == 0) = false := by
          rw [u32_xor_nat _ _ (by omega) (by omega)]
          have := mt (xor_top lo hi).1 heq
          simp; omega
        go_wp2_with fail
        go_quiet (fail)
        go_wp2_with fail
        have hno := norm_stop (n := gk) heq
        have h3 := HN.out
        rw [hno] at h3
        go_end0
        rw [HST.out]
        refine ⟨rfl, ?_, ?_, hS.drew _ _ nq hBr⟩
        · have := hS.draw _ _ nq hJr
          rw [← h3.1]; simpa using this
        · have := hcr.drewN nq
          rw [← h3.2]; exact this
set_option maxHeartbeats 400000 in
theorem narrow_zero (c k : Nat) (s : St) (m : Nat) (hs : s.Ok) (fn : Nat) (caps : Array Value) (J : List Nat → World → Prop) (M : Nat) (Fr : World → World → Prop) (hS : Shifts c M fn Fr caps J) (out : List Nat) (w : World) (hk : k < 256) (_h1 : s.lo ≤ m) (h2 : m < s.hi) (hc : CoderAt 52 w c s (.func (.func fn) #[] caps)) (hJ : J out w) (hM : out.length + 4 ≤ M) :
    Calls Try.prog 23 #[.pointer (some ⟨c, 0, none⟩), .int .i64 k, .int .u32 m, .int .u32 0] w fun e w' => e = .returned (.tuple #[]) ∧
      J (out ++ (s.step k m 0).1) w' ∧ CoderAt 52 w' c (s.step k m 0).2 (.func (.func fn) #[] caps) ∧ Fr w w' := by
    have hlo := hc.lo_
    have hhi := hc.hi_
    have hf := hc.free
    have hc1 := hc.setlo_ (m + 1)
    have hf1 := hf 256
    clear hf
    have hmb : (m : Int) + 1 < 4294967296 := by have := hs.2.2; omega
    go_enter Try.func23, Try.ntmps23
    go_wp2_with fail
    rw [show (m : Int) + 1 = ((m + 1 : Nat) : Int) from by omega]
    have h15 := hs.1 k hk
    have hpu := hc1.setp_ hk (upd (s.p k) 0)
    refine (update_zero c k { s with lo := m + 1 } h15.1 h15.2 _ _ hk hc1).mono ?_
    rintro e w' ⟨rfl, rfl⟩
    have hj1 := hS.put _ _ k (.int .u32 (upd (s.p k) 0 : Nat)) (hS.put _ _ 256 (.int .u32 ((m + 1 : Nat) : Int)) hJ)
    have hb1 : Fr w ((w.setCell ⟨c, 256, none⟩ (.int .u32 ((m + 1 : Nat) : Int))).setCell ⟨c, k, none⟩ (.int .u32 (upd (s.p k) 0 : Nat))) := hS.set _ _ _ _ (hS.set _ _ _ _ (hS.refl _))
    obtain ⟨p', hp'⟩ : ∃ p', p' = setp s.p k (upd (s.p k) 0) := ⟨_, rfl⟩
    have HP := Lib.hid hp'
    rw [← hp'] at hpu
    clear hp' h15 hc1 hhi hlo hf1 hc hJ
    have hfin := norm_spec4 (m + 1) s.hi (by omega) (by have := hs.2.2; omega)
    generalize ((w.setCell ⟨c, 256, none⟩ (.int .u32 ((m + 1 : Nat) : Int))).setCell ⟨c, k, none⟩ (.int .u32 (upd (s.p k) 0 : Nat))) = w2 at *
    go_wp2_with fail
    obtain ⟨R, hR⟩ : ∃ R, R = norm 4 (m + 1) s.hi := ⟨_, rfl⟩
    rw [← hR] at hfin
    have HR := Lib.hid hR
    have hst : (s.step k m 0) = (R.1, ⟨p', R.2.1, R.2.2⟩) := by rw [hR, HP.out]; rfl
    have HST := Lib.hid hst
    clear hst hR
    go_loopg [] 4 (fun n wr => ∃ (lo hi : Nat) (done : List Nat), lo ≤ hi ∧ hi < 4294967296 ∧ done.length + n ≤ M ∧ CoderAt 52 wr c ⟨p', lo, hi⟩ (.func (.func fn) #[] caps) ∧ J done wr ∧ Fr w wr ∧ Hid (done ++ (norm n lo hi).1 = out ++ R.1 ∧ (norm n lo hi).2 = R.2))
    case atStart => exact ⟨m + 1, s.hi, out, by omega, by have := hs.2.2; omega, hM, hpu.drewN 1, hS.draw _ _ 1 hj1, hS.drew _ _ 1 hb1, by rw [HR.out], by rw [HR.out]⟩
    case round =>
      obtain ⟨lo, hi, done, hle, hlt, hdl, hcr, hJr, hBr, HN⟩ := hrel
      have hlo := hcr.lo_
      have hhi := hcr.hi_
      have hfr := hcr.free
      by_cases heq : lo / 16777216 = hi / 16777216
      · have ht : (bits BinOp.xor IntKind.u32 (lo : Int) (hi : Int) / 16777216 == 0) = true := by
          rw [u32_xor_nat _ _ (by omega) (by omega)]
          have := (xor_top lo hi).2 heq
          simp; omega
        go_wp2_with fail
        go_quiet (fail)
        go_wp2_with fail
        have hcq := hcr.drewN nq
        have hJq := hS.draw _ _ nq hJr
        have hBq := hS.drew _ _ nq hBr
        clear hcr hJr hBr hlo hhi hfr
        generalize wr.drewN nq = wq at *
        obtain ⟨n', hn1, hn2, hn3⟩ := norm_go HN.out.1 HN.out.2 hfin.1 heq
        have HN1 := Lib.hid hn1
        have hcall := hS.calls done wq.drew (hi / 16777216) ((hi : Int) / 16777216) ⟨p', lo, hi⟩ (Int.natCast_ediv _ _).symm (by omega) (by omega) (hS.draw _ _ 1 hJq) hcq
        have hent := hS.enters
        have hff := hcq.f_
        have hhi := hcq.hi_
        have HC := Lib.hid hcall
        have HN2 := Lib.hid hn2
        have HN3 := Lib.hid hn3
        clear hcall hn1 hn2 hn3
        go_still_tail 10, (by kernel_rfl)
        change wpList _ _ _ _ _ wq.drew
        go_wp2_with fail
        refine HC.out.mono ?_
        rintro e w4 ⟨rfl, hJ4, hc4, hB4⟩
        go_wp2_with fail
        have hlo4 := hc4.lo_
        have hhi4 := hc4.hi_
        have hf4 := hc4.free 256
        have hf5 := hc4.free 257
        go_region
        go_wp2_with fail
        have hn1 := HN1.out
        go_roundg n'
        case measure => omega
        case rel =>
          have c1 := hc4.setlo_ (lo * 256 % 4294967296)
          have c2 := c1.sethi_ (hi * 256 % 4294967296 + 255)
          rw [bits_or_255]
          refine ⟨lo * 256 % 4294967296, hi * 256 % 4294967296 + 255, done ++ [hi / 16777216], by omega, by omega, by simp; omega, c2.drewN 1, hS.draw _ _ 1 (hS.put _ _ _ _ (hS.put _ _ _ _ hJ4)), hS.drew _ _ 1 (hS.set _ _ _ _ (hS.set _ _ _ _ (hS.trans _ _ _ (hS.drew _ _ 1 hBq) hB4))), HN2.out, HN3.out⟩
      · have ht : (bits BinOp.xor IntKind.u32 (lo : Int) (hi : Int) / 16777216 == 0) = false := by
          rw [u32_xor_nat _ _ (by omega) (by omega)]
          have := mt (xor_top lo hi).1 heq
          simp; omega
        go_wp2_with fail
        go_quiet (fail)
        go_wp2_with fail
        have hno := norm_stop (n := gk) heq
        have h3 := HN.out
        rw [hno] at h3
        go_end0
        rw [HST.out]
        refine ⟨rfl, ?_, ?_, hS.drew _ _ nq hBr⟩
        · have := hS.draw _ _ nq hJr
          rw [← h3.1]; simpa using this
        · have := hcr.drewN nq
          rw [← h3.2]; exact this
end Go.Proofs.Ytcoaopaiipkcpaa
