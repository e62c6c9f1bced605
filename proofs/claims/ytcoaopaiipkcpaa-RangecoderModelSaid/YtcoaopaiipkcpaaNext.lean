/- The decoder's call-back. -/
import Derived.Test.YtcoaopaiipkcpaaFew
namespace Go.Proofs.Ytcoaopaiipkcpaa
open Go.RowKit Rc

/-- The decoder's variables behind j reads: the place in a, the rest in rb, the value in vb. -/
structure DecAt (a rb vb : Nat) (w0 : World) (sl : Value) (l : List Nat) (j : Nat) (W : World) : Prop where
  at_ : Blk W a 3 #[.int .i64 (j : Int)]
  rest : Blk W rb 22 #[sl]
  value : Blk W vb 45 #[.int .u32 (val (stream l) j : Nat)]
  below : Below w0.heap.size w0 W

theorem bits_or_byte (v x : Nat) (hx : x < 256) : bits BinOp.or IntKind.u32 ((v : Int) * 256 % 4294967296) (x : Int) = ((v * 256 % 4294967296 + x : Nat) : Int) := by
  have := u32_or_nat (v * 256 % 4294967296) x (by omega) (by omega)
  rw [or_byte _ _ hx] at this
  rw [← this]
  rfl

set_option maxHeartbeats 1000000 in
theorem next_calls (a rb vb : Nat) (w0 : World) (sl : Value) (l : List Nat) (j : Nat) (b0 : Int) (W : World) (h : DecAt a rb vb w0 sl l j W) (hr : Reads w0 sl (u8s l)) (hl : ∀ x ∈ l, x < 256) (_hll : l.length ≤ 140737488355328) (hj : j < 140000000004)
    (ha : w0.heap.size ≤ a) (hv : w0.heap.size ≤ vb) :
    Calls Try.prog 28 #[.int .u8 b0, .pointer (some ⟨a, 0, none⟩), .pointer (some ⟨rb, 0, none⟩), .pointer (some ⟨vb, 0, none⟩)] W fun e W' => e = .returned (.tuple #[]) ∧ DecAt a rb vb w0 sl l (j + 1) W' ∧
      ∃ u1 u2 n, W' = ((W.setCell ⟨vb, 0, none⟩ u1).setCell ⟨a, 0, none⟩ u2).drewN n := by
  have hne : a ≠ vb := h.at_.ne h.value (by decide)
  have hne2 : vb ≠ a := hne.symm
  have hne3 : rb ≠ a := h.rest.ne h.at_ (by decide)
  have hne4 : rb ≠ vb := h.rest.ne h.value (by decide)
  have c1 := h.at_.cell 0
  have c2 := h.rest.cell 0
  have c3 := h.value.cell 0
  have f1 := h.at_.frozen 0
  have f3 := h.value.frozen 0
  have hr2 : Reads W sl (u8s l) := hr.below h.below
  have hfin : ∀ n, DecAt a rb vb w0 sl l (j + 1) (((W.setCell ⟨vb, 0, none⟩ (.int .u32 (val (stream l) (j + 1) : Nat))).setCell ⟨a, 0, none⟩ (.int .i64 ((j + 1 : Nat) : Int))).drewN n) := fun n =>
    ⟨((h.at_.far (p := ⟨vb, 0, none⟩) hne _).put 0 _).drewN n, ((h.rest.far (p := ⟨vb, 0, none⟩) hne4 _).far (p := ⟨a, 0, none⟩) hne3 _).drewN n, ((h.value.put 0 _).far (p := ⟨a, 0, none⟩) hne2 _).drewN n, below_drewN ((h.below.setCell hv _).setCell ha _) n⟩
  have hvl := val_lt (stream_lt hl) j
  obtain ⟨A, cap, hsl, hcap, -⟩ := id hr2
  rw [u8s_length] at hsl hcap
  subst hsl
  obtain ⟨vv, hvv⟩ : ∃ vv, vv = val (stream l) j := ⟨_, rfl⟩
  have hval : val (stream l) (j + 1) = vv * 256 % 4294967296 + stream l j := by rw [hvv]; rfl
  rw [← hvv] at c3 hvl
  have HVV := Lib.hid hvv
  have HFIN := Lib.hid hfin
  by_cases hlt : j < l.length
  · obtain ⟨g, o, rfl, hg, hcell⟩ := hr2.at_ hlt
    have hst : stream l j = l[j] := by simp [stream, hlt]
    have hx : l[j] < 256 := hl _ (List.getElem_mem hlt)
    rw [hst] at hval
    generalize l[j] = x at *
    have hj0 : (0 : Int) ≤ j := by omega
    have hj1 : (j : Int) < l.length := by omega
    have HVAL := Lib.hid hval
    generalize hN : l.length = N at *
    clear hval hst hvv hfin hN hr2 h hr
    go_enter Try.func28, Try.ntmps28
    go_wp2_with fail
    go_region
    rw [bits_or_byte _ _ hx]
    go_end0
    refine ⟨rfl, ?_, _, _, 1, rfl⟩
    have := HFIN.out 1
    rw [HVAL.out] at this
    exact this
  · have hst : stream l j = 0 := by simp [stream, List.getElem?_eq_none (by omega : l.length ≤ j)]
    rw [hst] at hval
    have HVAL := Lib.hid hval
    have hj1 : ¬ (j : Int) < l.length := by omega
    generalize hN : l.length = N at *
    clear hval hst hvv hfin hN hr2 h hr
    go_enter Try.func28, Try.ntmps28
    go_wp2_with fail
    go_region
    have hb := bits_or_byte vv 0 (by omega)
    go_end0
    refine ⟨rfl, ?_, _, _, 1, rfl⟩
    have := HFIN.out 1
    rw [HVAL.out, ← hb] at this
    exact this

/-- The decoder's state as the coder's call-back sees it. -/
def DecJ (a rb vb _c : Nat) (w0 : World) (sl : Value) (l : List Nat) (out : List Nat) (W : World) : Prop := DecAt a rb vb w0 sl l (out.length + 4) W

/-- Only these three blocks have turned. -/
structure Only3 (c a vb : Nat) (W W' : World) : Prop where
  os : W'.os = W.os
  tape : W'.tape = W.tape
  output : W'.output = W.output
  size : W'.heap.size = W.heap.size
  block : ∀ k, k ≠ c → k ≠ a → k ≠ vb → W'.heap[k]? = W.heap[k]?
theorem Only3.refl (c a vb : Nat) (W : World) : Only3 c a vb W W := ⟨rfl, rfl, rfl, rfl, fun _ _ _ _ => rfl⟩
theorem Only3.trans {c a vb : Nat} {W1 W2 W3 : World} (h : Only3 c a vb W1 W2) (k : Only3 c a vb W2 W3) : Only3 c a vb W1 W3 :=
  ⟨k.os.trans h.os, k.tape.trans h.tape, k.output.trans h.output, k.size.trans h.size, fun i h1 h2 h3 => (k.block i h1 h2 h3).trans (h.block i h1 h2 h3)⟩
theorem Only3.set {c a vb : Nat} {W1 W2 : World} (h : Only3 c a vb W1 W2) {p : Addr} (hp : p.block = c ∨ p.block = a ∨ p.block = vb) (v : Value) : Only3 c a vb W1 (W2.setCell p v) :=
  ⟨h.os, h.tape, h.output, by simpa [World.setCell] using h.size, fun i h1 h2 h3 => (Below.heap_setCell W2 p v i (by rcases hp with e | e | e <;> rw [e] <;> assumption)).trans (h.block i h1 h2 h3)⟩
theorem Only3.drewN {c a vb : Nat} {W1 W2 : World} (h : Only3 c a vb W1 W2) (n : Nat) : Only3 c a vb W1 (W2.drewN n) := ⟨h.os, h.tape, h.output, h.size, h.block⟩
theorem Only3.below {c a vb B : Nat} {W1 W2 : World} (h : Only3 c a vb W1 W2) (hc : B ≤ c) (ha : B ≤ a) (hv : B ≤ vb) : Below B W1 W2 := ⟨h.os, h.tape, h.output, Nat.le_of_eq h.size.symm, fun k hk => h.block k (by omega) (by omega) (by omega)⟩

theorem dec_shifts (a rb vb c : Nat) (w0 : World) (sl : Value) (l : List Nat) (hr : Reads w0 sl (u8s l)) (hl : ∀ x ∈ l, x < 256) (hll : l.length ≤ 140737488355328) (ha : w0.heap.size ≤ a) (hv : w0.heap.size ≤ vb)
    (hca : c ≠ a) (hcr : c ≠ rb) (hcv : c ≠ vb) (hc0 : w0.heap.size ≤ c) : Shifts c 140000000000 28 (Only3 c a vb) #[.pointer (some ⟨a, 0, none⟩), .pointer (some ⟨rb, 0, none⟩), .pointer (some ⟨vb, 0, none⟩)] (DecJ a rb vb c w0 sl l) where
  refl := fun W => Only3.refl _ _ _ _
  trans := fun _ _ _ h1 h2 => h1.trans h2
  set := fun _ _ _ v h => h.set (.inl rfl) v
  drew := fun _ _ n h => h.drewN n
  enters := fun args W => by kernel_rfl
  put := fun out W k v h => ⟨h.at_.far hca.symm v, h.rest.far hcr.symm v, h.value.far hcv.symm v, h.below.setCell hc0 v⟩
  draw := fun out W n h => ⟨h.at_, h.rest, h.value, below_drewN h.below n⟩
  calls := fun out W b v s hv' hb hM hJ hc => by
    refine (next_calls a rb vb w0 sl l (out.length + 4) v W hJ hr hl hll (by omega) ha hv).mono ?_
    rintro e W' ⟨rfl, hd, u1, u2, n, rfl⟩
    refine ⟨rfl, ?_, ((CoderAt.drewN (Blk.far (Blk.far hc (p := ⟨vb, 0, none⟩) hcv _) (p := ⟨a, 0, none⟩) hca _) n)), (((Only3.refl _ _ _ _).set (p := ⟨vb, 0, none⟩) (.inr (.inr rfl)) _).set (p := ⟨a, 0, none⟩) (.inr (.inl rfl)) _).drewN n⟩
    unfold DecJ
    rw [List.length_append, List.length_singleton, show out.length + 1 + 4 = out.length + 4 + 1 from by omega]
    exact hd
end Go.Proofs.Ytcoaopaiipkcpaa
