/- The reference's Show. -/
import Derived.Test.YtlmmhgbbfmocaaaRefW
namespace Go.Proofs.Ytlmmhgbbfmocaaa
open Go.RowKit

def showF (t : Int) (x : Sl × List Eff) : Bool → List REnt → List REnt
  | false, [] => [(t, x)]
  | true, [] => []
  | a, p :: R =>
    if a = false ∧ t ≤ p.1 then (if p.1 = t then (t, x) :: showF t x true R else (t, x) :: p :: showF t x true R)
    else if p.1 = t then showF t x a R else p :: showF t x a R

theorem showF_go {t : Int} {x : Sl × List Eff} {a : Bool} {p : REnt} {R out T : List REnt} (h : out ++ showF t x a (p :: R) = T) :
    ((a = false ∧ t ≤ p.1) → p.1 = t → (out ++ [(t, x)]) ++ showF t x true R = T) ∧
    ((a = false ∧ t ≤ p.1) → ¬ p.1 = t → (out ++ [(t, x)] ++ [p]) ++ showF t x true R = T) ∧
    (¬ (a = false ∧ t ≤ p.1) → p.1 = t → out ++ showF t x a R = T) ∧
    (¬ (a = false ∧ t ≤ p.1) → ¬ p.1 = t → (out ++ [p]) ++ showF t x a R = T) := by
  have e : showF t x a (p :: R) = if a = false ∧ t ≤ p.1 then (if p.1 = t then (t, x) :: showF t x true R else (t, x) :: p :: showF t x true R) else if p.1 = t then showF t x a R else p :: showF t x a R := by
    cases a <;> rfl
  rw [e] at h
  refine ⟨fun h1 h2 => ?_, fun h1 h2 => ?_, fun h1 h2 => ?_, fun h1 h2 => ?_⟩
  · rw [if_pos h1, if_pos h2] at h; rw [← h]; simp
  · rw [if_pos h1, if_neg h2] at h; rw [← h]; simp
  · rw [if_neg h1, if_pos h2] at h; exact h
  · rw [if_neg h1, if_neg h2] at h; rw [← h]; simp

theorem showF_true {t : Int} {x : Sl × List Eff} {R : List REnt} (h : ∀ p ∈ R, t < p.1) : showF t x true R = R := by
  induction R with
  | nil => rfl
  | cons p R ih =>
    have hp := h p List.mem_cons_self
    unfold showF
    rw [if_neg (by simp), if_neg (by omega), ih (fun q hq => h q (List.mem_cons_of_mem _ hq))]
theorem filter_ne {β : Type} {t : Int} {M : List (Int × β)} (h : ∀ p ∈ M, p.1 ≠ t) : M.filter (fun p => p.1 != t) = M := by
  rw [List.filter_eq_self]
  intro p hp
  simpa using h p hp
theorem showF_mput {t : Int} {x : Sl × List Eff} {R : List REnt} (h : Sorted R) : showF t x false R = mput t x R := by
  induction R with
  | nil => rfl
  | cons p R ih =>
    obtain ⟨h1, h2⟩ := List.pairwise_cons.1 h
    have e : showF t x false (p :: R) = if false = false ∧ t ≤ p.1 then (if p.1 = t then (t, x) :: showF t x true R else (t, x) :: p :: showF t x true R) else if p.1 = t then showF t x false R else p :: showF t x false R := rfl
    rw [e]
    unfold mput
    by_cases hle : t ≤ p.1
    · rw [if_pos ⟨rfl, hle⟩, showF_true (fun q hq => by have := h1 q hq; omega)]
      have hR : R.filter (fun p => p.1 != t) = R := filter_ne (fun q hq => by have := h1 q hq; omega)
      by_cases he : p.1 = t
      · rw [if_pos he, List.filter_cons_of_neg (by simpa using he), hR]
        cases R with
        | nil => rfl
        | cons q R => unfold ins; rw [if_pos (by have := h1 q List.mem_cons_self; simp only; omega)]
      · rw [if_neg he, List.filter_cons_of_pos (by simpa using he), hR]
        unfold ins
        rw [if_pos (by simp only; omega)]
    · rw [if_neg (by omega), if_neg (by omega), List.filter_cons_of_pos (by simp; omega)]
      unfold ins
      rw [if_neg (by simp only; omega), ih h2]
      rfl

theorem showF_mem {t : Int} {x : Sl × List Eff} {a : Bool} {R : List REnt} : ∀ p ∈ showF t x a R, p = (t, x) ∨ p ∈ R := by
  induction R generalizing a with
  | nil => intro p hp; cases a <;> simp [showF] at hp; exact .inl hp
  | cons q R ih =>
    intro p hp
    have e : showF t x a (q :: R) = if a = false ∧ t ≤ q.1 then (if q.1 = t then (t, x) :: showF t x true R else (t, x) :: q :: showF t x true R) else if q.1 = t then showF t x a R else q :: showF t x a R := by
      cases a <;> rfl
    rw [e] at hp
    split at hp
    · split at hp
      · rcases List.mem_cons.1 hp with h | h
        · exact .inl h
        · exact (ih p h).imp id (List.mem_cons_of_mem _)
      · rcases List.mem_cons.1 hp with h | h
        · exact .inl h
        · rcases List.mem_cons.1 h with h | h
          · exact .inr (h ▸ List.mem_cons_self)
          · exact (ih p h).imp id (List.mem_cons_of_mem _)
    · split at hp
      · exact (ih p hp).imp id (List.mem_cons_of_mem _)
      · rcases List.mem_cons.1 hp with h | h
        · exact .inr (h ▸ List.mem_cons_self)
        · exact (ih p h).imp id (List.mem_cons_of_mem _)
/-- What is handed back reads as the reference's board. -/
theorem ref_done {w Z : World} {tv sv : Value} {t : Int} {s : Sl} {l : List Eff} {R T : List REnt} {ts : List Int} {ss : List Sl} {base : Nat} (hT : T = showF t (s, l) false R) (h1 : ts = T.map (·.1)) (h2 : ss = T.map (·.2.1))
    (o1 : Own intE Z base tv ts) (o2 : Own slE Z base sv ss) (hR : ∀ p ∈ R, Row effE w p.2.1.v p.2.2) (hn : Row effE w s.v l) (hb : Below w.heap.size w Z) : RefAt Z tv sv (showF t (s, l) false R) := by
  subst h1 h2 hT
  refine ⟨o1.row, o2.row, fun p hp => ?_⟩
  rcases showF_mem p hp with rfl | h
  · exact hn.below' hb
  · exact (hR p h).below' hb

theorem Blk.new2 (w : World) (o o' : Obj) (t : TypeId) (cs : Array Value) : Blk (((w.alloc o).alloc o').alloc (.cells cs t)) (w.heap.size + 2) t cs := by
  have := Blk.new ((w.alloc o).alloc o') t cs
  rwa [show ((w.alloc o).alloc o').heap.size = w.heap.size + 2 from by simp] at this

/-- The board that is being built. -/
def NextAt (w : World) (base n : Nat) (bd : Int) (ts : List Int) (ss : List Sl) : Prop :=
  ∃ A1 c1 A2 c2, Blk w n 27 #[.slice A1 ts.length c1, .slice A2 ss.length c2, .int .i64 bd] ∧ Own intE w base (.slice A1 ts.length c1) ts ∧ Own slE w base (.slice A2 ss.length c2) ss

/-- One tick more. -/
theorem next_tick {w w' : World} {base n c1 c2 : Nat} {A1 A2 : Option Addr} {bd : Int} {ts ts' : List Int} {ss : List Sl} {v : Value} (o : Obj)
    (hb : Blk w n 27 #[.slice A1 ts.length c1, .slice A2 ss.length c2, .int .i64 bd]) (h1 : Own intE w base (.slice A1 ts.length c1) ts) (h2 : Own slE w base (.slice A2 ss.length c2) ss)
    (hv : Own intE w' base v ts') (hg : (w.alloc o).grownBy w' (Value.slice A1 ts.length c1).ownBlock) :
    Blk w' n 27 #[.slice A1 ts.length c1, .slice A2 ss.length c2, .int .i64 bd] ∧ Own slE w' base (.slice A2 ss.length c2) ss ∧ NextAt (w'.setCell ⟨n, 0, none⟩ v) base n bd ts' ss ∧ ∃ A c, v = .slice A ts'.length c := by
  have k1 : Blk w' n 27 #[.slice A1 ts.length c1, .slice A2 ss.length c2, .int .i64 bd] := (hb.alloc o).grown hg (fun e => h1.ne hb (by decide) e.symm)
  have o2 : Own slE w' base (.slice A2 ss.length c2) ss := (h2.alloc o).grown hg ((h2.alloc o).row.disj (h1.alloc o).row (by decide))
  obtain ⟨A, c, rfl, _⟩ := hv.slice
  exact ⟨k1, o2, ⟨A, c, A2, c2, k1.put 0 _, hv.far (p := ⟨n, 0, none⟩) (hv.ne k1 (by decide)) _, o2.far (p := ⟨n, 0, none⟩) (o2.ne k1 (by decide)) _⟩, A, c, rfl⟩
/-- One list more. -/
theorem next_list {w w' : World} {base n c1 c2 : Nat} {A1 A2 : Option Addr} {bd : Int} {ts : List Int} {ss ss' : List Sl} {v : Value} (o : Obj)
    (hb : Blk w n 27 #[.slice A1 ts.length c1, .slice A2 ss.length c2, .int .i64 bd]) (h1 : Own intE w base (.slice A1 ts.length c1) ts) (h2 : Own slE w base (.slice A2 ss.length c2) ss)
    (hv : Own slE w' base v ss') (hg : (w.alloc o).grownBy w' (Value.slice A2 ss.length c2).ownBlock) :
    Blk w' n 27 #[.slice A1 ts.length c1, .slice A2 ss.length c2, .int .i64 bd] ∧ NextAt (w'.setCell ⟨n, 1, none⟩ v) base n bd ts ss' ∧ ∃ A c, v = .slice A ss'.length c := by
  have k1 : Blk w' n 27 #[.slice A1 ts.length c1, .slice A2 ss.length c2, .int .i64 bd] := (hb.alloc o).grown hg (fun e => h2.ne hb (by decide) e.symm)
  have o1 : Own intE w' base (.slice A1 ts.length c1) ts := (h1.alloc o).grown hg ((h1.alloc o).row.disj (h2.alloc o).row (by decide))
  obtain ⟨A, c, rfl, _⟩ := hv.slice
  exact ⟨k1, ⟨A1, c1, A, c, k1.put 1 _, o1.far (p := ⟨n, 1, none⟩) (o1.ne k1 (by decide)) _, hv.far (p := ⟨n, 1, none⟩) (hv.ne k1 (by decide)) _⟩, A, c, rfl⟩
end Go.Proofs.Ytlmmhgbbfmocaaa
