/- The encoder's call-back: it appends a byte. -/
import Derived.Test.YtcoaopaiipkcpaaNarrow
import Derived.Test.YtcoaopaiipkcpaaNew
namespace Go.Proofs.Ytcoaopaiipkcpaa
open Go.RowKit Rc

theorem elem_u8 : Elem Try.prog 22 5 (.int .u8 0) 1 1 := ⟨Try.underlying22, by kernel_rfl, rfl, by decide⟩

/-- The bytes so far lie in the captured variable o. -/
def EncJ (o c base : Nat) (out : List Nat) (W : World) : Prop :=
  ∃ v, Blk W o 22 #[v] ∧ OwnB 5 W base v out ∧ v.ownBlock ≠ some c ∧ base ≤ W.heap.size

/-- What one append does to the variable that holds the slice. -/
theorem pushed {o c base B : Nat} {out : List Nat} {W w1 : World} {u v' : Value} {x : Obj} {b : Nat} (hB1 : B ≤ o) (hB2 : B ≤ base) (ho : Blk W o 22 #[u]) (hown : OwnB 5 W base u out) (hne : u.ownBlock ≠ some c) (hbs : base ≤ W.heap.size)
    (h1 : w1.ownsRow base 5 1 v' (out.length + 1) (u8s out ++ [.int .u8 (b : Int)])) (h2 : (W.alloc x).grownBy w1 u.ownBlock) (h3 : v'.ownBlock = u.ownBlock ∨ v'.ownBlock = some (W.heap.size + 1)) :
    Blk w1 o 22 #[u] ∧ OwnB 5 w1 base v' (out ++ [b]) ∧ Below B W w1 ∧ base ≤ w1.heap.size ∧ o ≠ W.heap.size ∧ v'.ownBlock ≠ some o ∧ (c < W.heap.size → v'.ownBlock ≠ some c) := by
  have hlt := ho.lt
  have hlb := World.ownsRow.lt hown
  have hno := own_blk_ne hown ho (by decide)
  have hsz : (W.alloc x).heap.size = W.heap.size + 1 := by simp
  have hb1 : Blk w1 o 22 #[u] := (ho.alloc x).grown h2 (fun e => hno e.symm)
  refine ⟨hb1, ?_, ?_, ?_, by omega, ?_, ?_⟩
  · have : u8s (out ++ [b]) = u8s out ++ [.int .u8 (b : Int)] := by simp [u8s]
    unfold OwnB
    rw [this, List.length_append]
    exact h1
  · exact ((Below.refl B W).alloc (by omega) x).grown h2 (by omega) (fun k hk => by have := (hlb k hk).1; omega)
  · have := h2.size; omega
  · rcases h3 with h3 | h3
    · rw [h3]; exact hno
    · rw [h3]; intro e; injection e with e; omega
  · intro hc
    rcases h3 with h3 | h3
    · rw [h3]; exact hne
    · rw [h3]; intro e; injection e with e; omega

set_option maxHeartbeats 400000 in
theorem enc_shifts (o c base B : Nat) (hoc : o ≠ c) (hB1 : B ≤ o) (hB2 : B ≤ base) (hBc : B ≤ c) : Shifts c 140000000000 22 (Below B) #[.pointer (some ⟨o, 0, none⟩)] (EncJ o c base) where
  refl := fun W => Below.refl _ _
  trans := fun _ _ _ h1 h2 => h1.trans h2
  set := fun _ _ _ v h => h.setCell hBc v
  drew := fun _ _ n h => below_drewN h n
  enters := fun args W => by kernel_rfl
  put := fun out W k v hJ => by
    obtain ⟨u, ho, hown, hne, hbs⟩ := hJ
    exact ⟨u, ho.far hoc v, hown.far hne v, hne, by simpa [World.setCell] using hbs⟩
  draw := fun out W n hJ => hJ
  calls := fun out W b v s hv hb hM hJ hc => by
    subst hv
    obtain ⟨u, ho, hown, hne, hbs⟩ := hJ
    have hcell := ho.cell 0
    have hfr := ho.frozen 0
    have hlt := ho.lt
    have hclt := Blk.lt hc
    show Calls Try.prog _ #[.int .u8 (b : Int), .pointer (some ⟨o, 0, none⟩)] W _
    go_enter Try.func22, Try.ntmps22
    go_wp2_with (at_builtin; refine wpList_push elem_u8 rfl (.tmp 3) (.tmp 5) rfl base u _ _ rfl (hown.alloc _) W.heap.size (.int .u8 (b : Int)) rfl ?c1 rfl ?c2 ?c3 ?c4 ?_)
    case c1 => simp
    case c2 => omega
    case c3 => omega
    case c4 => simp; omega
    intro v' w1 h1 h2 h3
    obtain ⟨r1, r2, r3, r4, r5, r6, r7⟩ := pushed (c := c) hB1 hB2 ho hown hne hbs h1 h2 h3
    have hcell1 := r1.cell 0
    have hfr1 := r1.frozen 0
    have R7 := r7 hclt
    have hc1 : CoderAt 52 w1 c s (.func (.func 22) #[] #[.pointer (some ⟨o, 0, none⟩)]) := (Blk.alloc hc _).grown h2 (fun e => hne e.symm)
    obtain ⟨A, cap, rfl⟩ := own_slice h1
    clear h1 h2 h3 hcell hfr
    go_wp2_with fail
    go_end0
    exact ⟨rfl, ⟨_, r1.put 0 _, r2.far (p := ⟨o, 0, none⟩) r6 _, R7, by simpa [World.setCell] using r4⟩, hc1.far hoc.symm _, r3.setCell hB1 _⟩
end Go.Proofs.Ytcoaopaiipkcpaa
