/- Around, List, Calls: the generators of the reference. -/
import Derived.Test.YtlmmhgbbfmocaaaConfirm
namespace Go.Proofs.Ytlmmhgbbfmocaaa
open Go.RowKit

theorem ret_int {k : IntKind} {a b : Int} (h : a = b) : Ending.returned (.int k a) = .returned (.int k b) := by rw [h]

def aroundZ (n m : Int) : Int := if n < 0 then (-(n + 1)) % m else n % m
theorem aroundZ_nonneg (n m : Int) (hm : 1 ≤ m) : 0 ≤ aroundZ n m ∧ aroundZ n m < m := by
  unfold aroundZ
  split <;> exact ⟨Int.emod_nonneg _ (by omega), Int.emod_lt_of_pos _ (by omega)⟩
theorem aroundZ_neg {n m : Int} (h : n < 0) : aroundZ n m = (-(n + 1)) % m := if_pos h
theorem aroundZ_pos {n m : Int} (h : ¬ n < 0) : aroundZ n m = n % m := if_neg h

set_option maxHeartbeats 400000 in
theorem around_calls (n m : Int) (w : World) (hn : i64 n) (hm : 1 ≤ m) (hm2 : m ≤ 9223372036854775807) :
    Calls Try.prog 25 #[.int .i64 n, .int .i64 m] w fun e w' => e = .returned (.int .i64 (aroundZ n m)) ∧ w = w' := by
  obtain ⟨h1, h2⟩ := hn
  by_cases h : n < 0
  · have h3 : 0 ≤ -(n + 1) := by omega
    have H := Lib.hid (Int.tmod_eq_emod_of_nonneg (b := m) h3)
    have H2 := Lib.hid (aroundZ_neg (m := m) h)
    go_enter Try.func25, Try.ntmps25
    go_wp2
    go_ret
    exact ⟨ret_int (by rw [H2.out, ← H.out, Int.neg_tmod]), rfl⟩
  · have H2 := Lib.hid (aroundZ_pos (m := m) h)
    go_enter Try.func25, Try.ntmps25
    go_wp2
    go_ret
    exact ⟨ret_int (by rw [H2.out]), rfl⟩
/-- Around, its value named. -/
theorem around_named (n m : Int) (k : Nat) (w : World) (hn : i64 n) (hm : 1 ≤ m) (hm2 : m ≤ 9223372036854775807) (hk : aroundZ n m = k) :
    Calls Try.prog 25 #[.int .i64 n, .int .i64 m] w fun e w' => e = .returned (.int .i64 k) ∧ w = w' := by
  rw [← hk]
  exact around_calls n m w hn hm hm2
theorem around_nat (n m : Int) (hm : 1 ≤ m) : ∃ k : Nat, aroundZ n m = k ∧ (k : Int) < m := by
  have := aroundZ_nonneg n m hm
  exact ⟨(aroundZ n m).toNat, by omega, by omega⟩

def listF (t : Int) : Nat → Nat → Nat → List Eff
  | 0, _, _ => []
  | r + 1, i, n => ⟨t, (i / 3 : Nat), (n / 7 % 2 : Nat), (n / 7 / 2 % 2 : Nat)⟩ :: listF t r (i + 1) (n / 7)
/-- The list that the reference builds. -/
def listL (t n : Int) : List Eff := listF t ((aroundZ n 1000000).toNat % 7) 0 (aroundZ n 1000000).toNat

theorem listF_len (t : Int) (r i n : Nat) : (listF t r i n).length = r := by
  induction r generalizing i n with
  | zero => rfl
  | succ r ih => simp [listF, ih]
theorem listF_each (t : Int) (ht : i64 t) (r i n : Nat) (hi : i + r ≤ 100) : ∀ x ∈ listF t r i n, x.tick = t ∧ x.Ok := by
  induction r generalizing i n with
  | zero => intro x hx; cases hx
  | succ r ih =>
    intro x hx
    unfold listF at hx
    rcases List.mem_cons.1 hx with rfl | h
    · refine ⟨rfl, ht, ?_, ?_, ?_⟩ <;> (unfold i64; simp only; omega)
    · exact ih (i + 1) (n / 7) (by omega) x h
theorem listL_len (t n : Int) : (listL t n).length ≤ 6 := by unfold listL; rw [listF_len]; omega
theorem listL_each (t n : Int) (ht : i64 t) : ∀ x ∈ listL t n, x.tick = t ∧ x.Ok := listF_each t ht _ _ _ (by omega)
theorem listL_ok (t n : Int) (ht : i64 t) : OkAll (listL t n) := fun x hx => (listL_each t n ht x hx).2

set_option maxHeartbeats 1000000 in
theorem list_calls (t n : Int) (w : World) (_ht : i64 t) (hn : i64 n) :
    Calls Try.prog 24 #[.int .i64 t, .int .i64 n] w fun e w' => ∃ v, e = .returned v ∧ Own effE w' w.heap.size v (listL t n) ∧ Below w.heap.size w w' := by
  obtain ⟨m, hm, hm2⟩ := around_nat n 1000000 (by omega)
  obtain ⟨T, hT⟩ : ∃ T, T = listL t n := ⟨_, rfl⟩
  have HT := Lib.hid (by rw [hT]; unfold listL; rw [hm]; rfl : T = listF t (m % 7) 0 m)
  have HM := Lib.hid hm
  rw [← hT]
  clear hT hm
  have hm3 : m < 1000000 := by omega
  go_enter Try.func24, Try.ntmps24
  go_wp2_with fail
  refine (around_named n 1000000 m w hn (by omega) (by omega) HM.out).mono ?_
  rintro e w1 ⟨rfl, rfl⟩
  go_wp2_with fail
  go_loopg [1, 5, 7] (m % 7) (fun r nv v iv wr => ∃ (i q : Nat) (out : List Eff), i + r = m % 7 ∧ q < 1000000 ∧ nv = .int .i64 q ∧ iv = .int .i64 i ∧ Own effE wr w.heap.size v out ∧ out.length ≤ i ∧ Below w.heap.size w wr ∧ Hid (out ++ listF t r i q = T))
  case atStart => exact ⟨0, m, [], by omega, hm3, by go_num, rfl, Own.nil _ _, by simp, Below.refl _ _, by rw [HT.out]; rfl⟩
  case round =>
    obtain ⟨i, q, out, hi, hq, rfl, rfl, o, hol, B, H⟩ := hrel
    have sB := B.size
    by_cases hz : gk = 0
    · subst hz
      have hlt : ¬ (i : Int) < (m : Int) % 7 := by omega
      have HE := Lib.hid (by simpa [listF] using H.out : out = T)
      clear hi
      go_wp2_with fail
      go_ret
      exact ⟨_, rfl, HE.out ▸ o, B⟩
    · obtain ⟨r, rfl⟩ : ∃ r, gk = r + 1 := ⟨gk - 1, by omega⟩
      have hlt : (i : Int) < (m : Int) % 7 := by omega
      have hi6 : i ≤ 6 := by omega
      have HI := Lib.hid hi
      have H3 := Lib.hid (by have := H.out; unfold listF at this; rw [← this]; simp : (out ++ [(⟨t, (i / 3 : Nat), (q / 7 % 2 : Nat), (q / 7 / 2 % 2 : Nat)⟩ : Eff)]) ++ listF t r (i + 1) (q / 7) = T)
      obtain ⟨A5, c5, rfl, hc5⟩ := o.slice
      clear hi hz H
      go_wp2_with (at_builtin; refine wpList_push elem_eff rfl (.tmp 19) (.tmp 29) rfl w.heap.size (.slice A5 out.length c5) out rfl (o.alloc _) wr.heap.size ⟨t, (i / 3 : Nat), (q / 7 % 2 : Nat), (q / 7 / 2 % 2 : Nat)⟩ rfl ?q1 ?q2 ?q3 ?q4 ?_)
      case q1 => exact Blk.new wr _ _
      case q2 => omega
      case q3 => omega
      case q4 => simp; omega
      intro v7 w7 o7 g7 l7
      have B7 := (B.alloc sB (Obj.cells #[Value.int IntKind.i64 t, Value.int IntKind.i64 (i / 3 : Nat), Value.int IntKind.i64 (q / 7 % 2 : Nat), Value.int IntKind.i64 (q / 7 / 2 % 2 : Nat)] 51)).grown g7 (by simp; omega) (fun k hk => o.ge k hk)
      clear g7 l7 o
      go_wp2_with fail
      have hi := HI.out
      go_roundg r
      case measure => omega
      case rel => exact ⟨i + 1, q / 7, _, by omega, by omega, by go_num, by go_num, o7, by simp; omega, B7, H3.out⟩
/-- Slices of different element types lie in different blocks. -/
theorem Row.disj {α β : Type} {E : Enc α} {E' : Enc β} {w : World} {v v' : Value} {l : List α} {l' : List β} (h1 : Row E w v l) (h2 : Row E' w v' l') (hT : E.T ≠ E'.T) : ∀ k, v.ownBlock = some k → some k ≠ v'.ownBlock := by
  intro k hk e
  obtain ⟨A', c', rfl, _, hr⟩ := h2
  rcases hr with ⟨rfl, _⟩ | ⟨g', o', cs', rfl, hb, _⟩
  · cases e
  · have : k = g' := by simpa [Value.ownBlock] using e
    exact h1.ne hb hT (this ▸ hk)

/-- A slice of ints that came in. -/
def Ints (w : World) (v : Value) (zs : List Int) : Prop :=
  ∃ A c, v = .slice A zs.length c ∧ zs.length ≤ c ∧ (0 < zs.length → ∃ g o, A = some ⟨g, o, none⟩ ∧ g < w.heap.size ∧ ∀ j (hj : j < zs.length), w.cell? ⟨g, o + j, none⟩ = some (.int .i64 zs[j]))
theorem Ints.below {w w' : World} {v : Value} {zs : List Int} (h : Ints w v zs) (hb : Below w.heap.size w w') : Ints w' v zs := by
  obtain ⟨A, c, hv, hc, h⟩ := h
  refine ⟨A, c, hv, hc, fun h0 => ?_⟩
  obtain ⟨g, o, hA, hg, hcell⟩ := h h0
  exact ⟨g, o, hA, Nat.lt_of_lt_of_le hg hb.size, fun j hj => (hb.cell (p := ⟨g, o + j, none⟩) hg).trans (hcell j hj)⟩

theorem Ints.at_ {w : World} {A : Option Addr} {n c : Nat} {zs : List Int} (h : Ints w (.slice A n c) zs) {j : Nat} (hj : j < zs.length) : ∃ g o, A = some ⟨g, o, none⟩ ∧ g < w.heap.size ∧ w.cell? ⟨g, o + j, none⟩ = some (.int .i64 zs[j]) := by
  obtain ⟨A', c', hv, hc, hh⟩ := h
  obtain ⟨g, o, hA, hg, hcell⟩ := hh (by omega)
  injection hv with e1 e2 e3
  exact ⟨g, o, by rw [e1, hA], hg, hcell j hj⟩

/-- A call of a board. -/
structure Cl where
  conf : Bool
  tick : Int
  s : Sl
  l : List Eff
def clE : Enc Cl where
  T := 32
  k := 3
  cells x := [.bool x.conf, .int .i64 x.tick, x.s.v]
  len _ := rfl
  pos := by decide
  one a u hu := by
    simp only [List.mem_cons, List.not_mem_nil, or_false] at hu
    rcases hu with rfl | rfl | rfl <;> rfl
theorem elem_cl : Elem Try.prog 28 clE (.agg #[.bool false, .int .i64 0, .slice none 0 0]) 40 := ⟨Try.underlying28, by kernel_rfl, rfl⟩
structure Cl.Ok (x : Cl) : Prop where
  lo : 0 ≤ x.tick
  hi : x.tick ≤ 7
  len : x.l.length ≤ 6
  ok : OkAll x.l
  ticks : ∀ e ∈ x.l, e.tick = x.tick
def ClsAt (w : World) (cs : List Cl) : Prop := ∀ x ∈ cs, Row effE w x.s.v x.l
theorem ClsAt.nil (w : World) : ClsAt w [] := fun x hx => by cases hx
theorem oks_nil : ∀ x ∈ ([] : List Cl), x.Ok := fun x hx => by cases hx
theorem ClsAt.snoc {w : World} {cs : List Cl} (h : ClsAt w cs) {x : Cl} (hx : Row effE w x.s.v x.l) : ClsAt w (cs ++ [x]) := fun y hy => by
  rcases List.mem_append.1 hy with h1 | h1
  · exact h y h1
  · simp at h1; subst h1; exact hx
theorem oks_snoc {cs : List Cl} (h : ∀ x ∈ cs, x.Ok) {x : Cl} (hx : x.Ok) : ∀ y ∈ cs ++ [x], y.Ok := fun y hy => by
  rcases List.mem_append.1 hy with h1 | h1
  · exact h y h1
  · simp at h1; subst h1; exact hx
theorem ClsAt.below' {w w' : World} {cs : List Cl} (h : ClsAt w cs) (hb : Below w.heap.size w w') : ClsAt w' cs := fun x hx => (h x hx).below' hb

/-- What Calls leaves. -/
def CallsPost (w : World) (e : Ending) (w' : World) : Prop := ∃ v' cs, e = .returned v' ∧ Own clE w' w.heap.size v' cs ∧ cs.length ≤ 30 ∧ ClsAt w' cs ∧ (∀ x ∈ cs, x.Ok) ∧ Below w.heap.size w w'

set_option maxHeartbeats 2000000 in
set_option maxRecDepth 100000 in
theorem calls_calls (v : Value) (zs : List Int) (w : World) (h : Ints w v zs) (hz : ∀ z ∈ zs, i64 z) (hzl : zs.length ≤ 9223372036854775807) :
    Calls Try.prog 12 #[v] w (CallsPost w) := by
  have h' := h
  obtain ⟨A, c, rfl, hc, -⟩ := h
  obtain ⟨N, hN⟩ : ∃ N, N = zs.length := ⟨_, rfl⟩
  have HN := Lib.hid hN
  have HZ := Lib.hid hz
  rw [← hN] at h' hc hzl ⊢
  clear hN hz
  go_enter Try.func12, Try.ntmps12
  go_wp2_with fail
  go_loopg [3, 4, 6] 30 (fun n v iv pv wr => ∃ (k : Nat) (cs : List Cl), k + n = 30 ∧ k ≤ N ∧ iv = .int .i64 k ∧ Own clE wr w.heap.size v cs ∧ cs.length ≤ k ∧ ClsAt wr cs ∧ Below w.heap.size w wr ∧ Hid (∀ x ∈ cs, x.Ok))
  case atStart => exact ⟨0, [], by omega, by omega, rfl, Own.nil _ _, by simp, ClsAt.nil w, Below.refl _ _, oks_nil⟩
  case round =>
    obtain ⟨k, cs, hk, hkN, rfl, o, hol, hcs, B, H⟩ := hrel
    have HK := Lib.hid hk
    have sB := B.size
    have HCS := Lib.hid hcs
    have hk30 : k ≤ 30 := by omega
    clear hk hcs
    by_cases hlt : k < N ∧ k < 30
    · obtain ⟨hlt, hlt30⟩ := hlt
      have hk1 : k < zs.length := by rw [← HN.out]; exact hlt
      obtain ⟨g, o1, rfl, hg, c0⟩ := (h'.below B).at_ hk1
      have hzk := Lib.hid (HZ.out zs[k] (List.getElem_mem hk1))
      have hi0 : (0 : Int) ≤ k := by omega
      have hi1 : (k : Int) < N := by omega
      have hi2 : (k : Int) < 30 := by omega
      generalize zs[k] = z at *
      obtain ⟨m, hm, hm2⟩ := around_nat z 100000000 (by omega)
      have HM := Lib.hid hm
      have hm3 : m < 100000000 := by omega
      obtain ⟨t, ht⟩ : ∃ t, t = m / 10 % 8 := ⟨_, rfl⟩
      have ht8 : t ≤ 7 := by omega
      have hti : i64 (t : Int) := ⟨by omega, by omega⟩
      have HT := Lib.hid (by omega : (t : Int) = (m : Int) / 10 % 8)
      obtain ⟨A5, c5, rfl, hc5⟩ := o.slice
      clear hm ht
      go_wp2_with fail
      refine (around_named z 100000000 m wr hzk.out (by omega) (by omega) HM.out).mono ?_
      rintro e w1 ⟨rfl, rfl⟩
      by_cases hcf : (m : Int) % 10 = 0
      · have hcf' : ((m : Int) % 10 == 0) = true := by simp [hcf]
        have HCF := Lib.hid hcf
        clear hcf
        have o2 := o.alloc (.cells #[.bool true, .int .i64 ((m : Int) / 10 % 8), .slice none 0 0] 32)
        go_wp2_with (at_builtin; refine wpList_push elem_cl rfl (.tmp 36) (.tmp 38) rfl w.heap.size (.slice A5 cs.length c5) cs rfl (o2.alloc _) (wr.heap.size + 1) ⟨true, (m : Int) / 10 % 8, ⟨none, 0, 0⟩, []⟩ rfl ?q1 ?q2 ?q3 ?q4 ?_)
        case q1 => exact Blk.new1 wr _ _ _
        case q2 => omega
        case q3 => omega
        case q4 => first | omega | (simp; omega)
        intro v7 w7 o7 g7 l7
        have B6 := B.alloc sB (.cells #[.bool true, .int .i64 ((m : Int) / 10 % 8), .slice none 0 0] 32)
        have B7 := (B6.alloc (by simp; omega) (.cells #[.bool true, .int .i64 ((m : Int) / 10 % 8), .slice none 0 0] 32)).grown g7 (by simp; omega) (fun k hk => o.ge k hk)
        have K7 := Lib.hid (show ClsAt w7 (cs ++ [⟨true, (m : Int) / 10 % 8, ⟨none, 0, 0⟩, []⟩]) from by
          refine ClsAt.snoc (fun x hx => ?_) (Row.nil' _ _)
          have hr := HCS.out x hx
          have hr2 := (hr.alloc (.cells #[.bool true, .int .i64 ((m : Int) / 10 % 8), .slice none 0 0] 32)).alloc (.cells #[.bool true, .int .i64 ((m : Int) / 10 % 8), .slice none 0 0] 32)
          have oo := o2.alloc (.cells #[.bool true, .int .i64 ((m : Int) / 10 % 8), .slice none 0 0] 32)
          exact hr2.grown g7 (hr2.disj oo.row (by decide)))
        clear g7 l7 o o2
        go_wp2_with fail
        have hk := HK.out
        go_roundg (gk - 1)
        case measure => omega
        case rel => exact ⟨k + 1, _, by omega, by omega, by go_num, o7, by simp; omega, K7.out, B7, oks_snoc H.out ⟨by simp only; omega, by simp only; omega, by simp, OkAll.nil, fun e he => by cases he⟩⟩
      · have hcf' : ((m : Int) % 10 == 0) = false := by simp [hcf]
        have hp : ((m : Int) / 80) ≤ 100000000 ∧ 0 ≤ (m : Int) / 80 := by omega
        have hmi : i64 ((m : Int) / 80) := ⟨by omega, by omega⟩
        have hti2 : i64 ((m : Int) / 10 % 8) := ⟨by omega, by omega⟩
        clear hcf
        go_wp2_with fail
        refine (list_calls ((m : Int) / 10 % 8) ((m : Int) / 80) _ hti2 hmi).mono ?_
        rintro e w2 ⟨v2, rfl, o2, b2⟩
        obtain ⟨L, hL⟩ : ∃ L, L = listL ((m : Int) / 10 % 8) ((m : Int) / 80) := ⟨_, rfl⟩
        have hLl : L.length ≤ 6 := by rw [hL]; exact listL_len _ _
        have HLE := Lib.hid (by rw [hL]; exact listL_each _ _ hti2 : ∀ x ∈ L, x.tick = (m : Int) / 10 % 8 ∧ x.Ok)
        rw [← hL] at o2
        obtain ⟨A2, c2, rfl, hc2⟩ := o2.slice
        have bc := (Blk.new wr 32 #[.bool false, .int .i64 ((m : Int) / 10 % 8), .slice none 0 0]).below' b2
        have B2 : Below w.heap.size w w2 := (B.alloc sB _).trans (b2.mono (by simp; omega))
        have s2 : wr.heap.size + 1 ≤ w2.heap.size := by have := b2.size; simpa using this
        have o3 := (o.alloc (.cells #[.bool false, .int .i64 ((m : Int) / 10 % 8), .slice none 0 0] 32)).below' b2
        have hcs2 : ∀ x ∈ cs, Row effE w2 x.s.v x.l := fun x hx => ((HCS.out x hx).alloc _).below' b2
        have HC2 := Lib.hid hcs2
        have x0 := bc.cell 0
        have x1 := bc.cell 1
        have x2 := bc.cell 2
        have y2 := bc.frozen 2
        simp only [List.getElem?_toArray, List.getElem?_cons_succ, List.getElem?_cons_zero] at x0 x1 x2
        have on := o.lt
        clear hL hcs2 b2 o
        have hno : (Value.slice A5 cs.length c5).ownBlock ≠ some wr.heap.size := fun e => by have := on _ e; omega
        have o4 := o3.far (p := ⟨wr.heap.size, 2, none⟩) hno (.slice A2 L.length c2)
        have hs4 : (w2.setCell ⟨wr.heap.size, 2, none⟩ (.slice A2 L.length c2)).heap.size = w2.heap.size := by simp [World.setCell]
        have s4 : w.heap.size ≤ (w2.setCell ⟨wr.heap.size, 2, none⟩ (.slice A2 L.length c2)).heap.size + 1 := by rw [hs4]; omega
        go_wp2_with (at_builtin; refine wpList_push elem_cl rfl (.tmp 36) (.tmp 38) rfl w.heap.size (.slice A5 cs.length c5) cs rfl (o4.alloc _) w2.heap.size ⟨false, (m : Int) / 10 % 8, ⟨A2, L.length, c2⟩, L⟩ rfl ?q1 ?q2 ?q3 ?q4 ?_)
        case q1 => rw [← hs4]; exact Blk.new _ _ _
        case q2 => omega
        case q3 => omega
        case q4 => first | omega | (simp; omega)
        intro v7 w7 o7 g7 l7
        have B4 := B2.setCell (p := ⟨wr.heap.size, 2, none⟩) sB (.slice A2 L.length c2)
        have B7 := (B4.alloc (by rw [hs4]; omega) (.cells #[.bool false, .int .i64 ((m : Int) / 10 % 8), .slice A2 L.length c2] 32)).grown g7 (by simp [hs4]; omega) (fun k hk => o4.ge k hk)
        have K7 := Lib.hid (show ClsAt w7 (cs ++ [⟨false, (m : Int) / 10 % 8, ⟨A2, L.length, c2⟩, L⟩]) from by
          have key : ∀ (u : Value) (q : List Eff), Row effE w2 u q → Row effE w7 u q := fun u q hr => by
            have hr2 := hr.far (p := ⟨wr.heap.size, 2, none⟩) (hr.ne bc (by decide)) (.slice A2 L.length c2)
            have hr3 := hr2.alloc (.cells #[.bool false, .int .i64 ((m : Int) / 10 % 8), .slice A2 L.length c2] 32)
            have oo := o4.alloc (.cells #[.bool false, .int .i64 ((m : Int) / 10 % 8), .slice A2 L.length c2] 32)
            exact hr3.grown g7 (hr3.disj oo.row (by decide))
          exact ClsAt.snoc (fun x hx => key _ _ (HC2.out x hx)) (key _ _ o2.row))
        clear g7 l7 o2 o3 o4 x0 x1 x2 y2
        go_wp2_with fail
        have hk := HK.out
        go_roundg (gk - 1)
        case measure => omega
        case rel => exact ⟨k + 1, _, by omega, by omega, by go_num, o7, by simp; omega, K7.out, B7, oks_snoc H.out ⟨by simp only; omega, by simp only; omega, hLl, fun e he => (HLE.out e he).2, fun e he => (HLE.out e he).1⟩⟩
    · by_cases hlt2 : k < N
      · have hk3 : k = 30 := by omega
        have hi1 : (k : Int) < N := by omega
        have hi2 : ¬ (k : Int) < 30 := by omega
        have hol2 : cs.length ≤ 30 := by omega
        clear hk3 hlt
        go_wp2_with fail
        go_ret
        exact ⟨_, cs, rfl, o, hol2, HCS.out, H.out, B⟩
      · have hi1 : ¬ (k : Int) < N := by omega
        have hol2 : cs.length ≤ 30 := by omega
        clear hlt
        go_wp2_with fail
        go_ret
        exact ⟨_, cs, rfl, o, hol2, HCS.out, H.out, B⟩
end Go.Proofs.Ytlmmhgbbfmocaaa
