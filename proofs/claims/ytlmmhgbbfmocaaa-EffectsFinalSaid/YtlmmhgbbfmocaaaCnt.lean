/- A map that counts effects: looked up, and one place of it raised or lowered. -/
import Derived.Test.YtlmmhgbbfmocaaaEff
import Derived.WideKeyEntry
import Derived.Maps.OwnOps
namespace Go.Proofs.Ytlmmhgbbfmocaaa
open Go.RowKit
open Go.ChangeMaps (setBlock heap_setBlock_same heap_setBlock_other)

theorem setBlock_self {w : World} {b : Nat} {o : Obj} (h : w.heap[b]? = some o) : setBlock w b o = w := by
  unfold setBlock
  have : w.heap.setIfInBounds b o = w.heap := by
    apply Array.ext_getElem?
    intro i
    rw [Array.getElem?_setIfInBounds]
    split
    · rename_i e
      subst e
      split
      · exact h.symm
      · rename_i hn
        rw [Array.getElem?_eq_none (by omega)]
    · rfl
  rw [this]

/-- Block b is a map that counts as c does. -/
def CntAt (w : World) (b n : Nat) (c : Eff → Nat) : Prop :=
  ∃ D : DataW Unit, w.ownsMap Try.prog 51 (plainElem Try.prog 3) b n D ∧ ∀ x : Eff, x.Ok → D.atKey (kl x) (.lit (.int .i64 0)) = .lit (.int .i64 (c x : Nat))

def put (c : Eff → Nat) (x : Eff) (n : Nat) : Eff → Nat := fun y => if y = x then n else c y

theorem CntAt.lt {w : World} {b n : Nat} {c : Eff → Nat} (h : CntAt w b n c) : b < w.heap.size := by
  obtain ⟨D, h, _⟩ := h
  exact h.lt
theorem CntAt.kept {w w' : World} {b n : Nat} {c : Eff → Nat} {r : Option Nat} (h : CntAt w b n c) (hg : w.grownBy w' r) (hne : some b ≠ r) : CntAt w' b n c := by
  obtain ⟨D, h1, h2⟩ := h
  exact ⟨D, h1.kept hg hne, h2⟩
theorem CntAt.alloc {w : World} {b n : Nat} {c : Eff → Nat} (h : CntAt w b n c) (o : Obj) : CntAt (w.alloc o) b n c := h.kept (World.grownBy_alloc w o none) (by simp)
theorem CntAt.drew {w : World} {b n : Nat} {c : Eff → Nat} (h : CntAt w b n c) : CntAt w.drew b n c := h
theorem CntAt.made (w : World) : CntAt (w.alloc (.map #[] 0)) w.heap.size 0 (fun _ => 0) := ⟨_, World.ownsMap_made w _ _ _, fun _ _ => rfl⟩
theorem CntAt.ne {w : World} {b n : Nat} {c : Eff → Nat} (h : CntAt w b n c) {g : Nat} {t : TypeId} {cs : Array Value} (hg : Blk w g t cs) : b ≠ g := by
  rintro rfl
  obtain ⟨D, ⟨es, clock, hb, _⟩, _⟩ := h
  unfold Blk at hg
  rw [hg] at hb
  cases hb

theorem CntAt.apart {α : Type} {E : Enc α} {w : World} {b n : Nat} {c : Eff → Nat} {v : Value} {l : List α} (h : CntAt w b n c) (r : Row E w v l) : ∀ k, v.ownBlock = some k → some k ≠ some b := by
  obtain ⟨A, cp, rfl, hc, hr⟩ := r
  rcases hr with ⟨rfl, _⟩ | ⟨g', o, cs', rfl, hb, _⟩
  · intro k hk; cases hk
  · intro k hk e
    simp only [Value.ownBlock, Option.some.injEq] at hk
    injection e with e
    exact h.ne hb (by rw [← e, ← hk])
theorem CntAt.look {w : World} {b n : Nat} {c : Eff → Nat} (h : CntAt w b n c) {x : Eff} (hx : x.Ok) : (Instr.lookup 72 (.map (some b)) x.v false).run Try.prog w = .ok (.int .i64 (c x : Nat)) w := by
  obtain ⟨D, h1, h2⟩ := h
  obtain ⟨k, hr, hat, _⟩ := h1.lookup_int key_keyed Try.underlying72 Try.underlying3 (Try.zeroValue3 w) (key_of x hx)
  rw [h2 x hx] at hat
  rw [hr]
  simp only [DataW.lit.injEq, Lit.int.injEq, true_and] at hat
  rw [hat]

theorem put_counts {D : DataW Unit} {c : Eff → Nat} (hm : Maps.IsMap D) (h : ∀ x : Eff, x.Ok → D.atKey (kl x) (.lit (.int .i64 0)) = .lit (.int .i64 (c x : Nat))) {y : Eff} (hy : y.Ok) (m : Nat) :
    ∀ x : Eff, x.Ok → (D.put (kl y) (.lit (.int .i64 (m : Int)))).atKey (kl x) (.lit (.int .i64 0)) = .lit (.int .i64 (put c y m x : Nat)) := by
  intro x hx
  unfold put
  by_cases he : x = y
  · subst he
    rw [if_pos rfl]
    exact Maps.atKey_put_same hm (show WideAt.IsKeyLit (kl x) from trivial) _ _
  · rw [if_neg he, Maps.atKey_put_other (fun e => he (kl_inj hx hy e))]
    exact h x hx

/-- m[x] op= .. : the look-up, the entry, the look-up behind it, the store. -/
theorem CntAt.entry {w : World} {b n : Nat} {c : Eff → Nat} (h : CntAt w b n c) (hn : n + 1 < maxLen) {x : Eff} (hx : x.Ok) :
    ∃ (v0 : Value) (st : Nat) (w1 : World), (Instr.mapEntry 72 (.map (some b)) x.v).run Try.prog w = .ok (.tuple #[v0, .int .i64 st]) w1 ∧ w.grownBy w1 (some b) ∧ CntAt w1 b (n + 1) c ∧
      ∀ (m : Nat), (Lit.int .i64 (m : Int)).wf = true → ∃ w2, (Instr.entryStore 72 (.map (some b)) (.int .i64 st) (.int .i64 (m : Int))).run Try.prog w1 = .ok () w2 ∧ w.grownBy w2 (some b) ∧ CntAt w2 b (n + 1) (put c x m) := by
  obtain ⟨D, ⟨es, clock, hb, F, hs, hD⟩, hc⟩ := h
  have hown : w.ownsMap Try.prog 51 (plainElem Try.prog 3) b n D := ⟨es, clock, hb, F, hs, hD⟩
  have hm : Maps.IsMap D := by rw [hD]; exact ⟨_, rfl⟩
  obtain ⟨v0, st, es1, clock1, hM, hv, hS⟩ := WideElems.entry_then_store (H := Unit) (w := w) (t := 72) key_law Try.underlying72 (z := .int .i64 0) (fun u => Try.zeroValue3 u) hb F (key_of x hx)
  have hw1 : w.grownBy (setBlock w b (.map es1 clock1)) (some b) ∧ CntAt (setBlock w b (.map es1 clock1)) b (n + 1) c := by
    have hg : w.grownBy (setBlock w b (.map es1 clock1)) (some b) := ⟨rfl, rfl, rfl, by simp [setBlock], fun i _ hi => heap_setBlock_other hb _ (fun e => hi (by rw [e]))⟩
    refine ⟨hg, ?_⟩
    rcases key_law.find w (key_of x hx) es.toList F.keys with ⟨h1, h2⟩ | ⟨j, e0, h1, h2, h3⟩
    · have hM2 : (Instr.mapEntry 72 (.map (some b)) x.v).run Try.prog w = .ok (.tuple #[.int .i64 0, goInt clock]) (setBlock w b (.map (es.push ⟨x.v, .int .i64 0, clock⟩) (clock + 1))) := by
        simp [Instr.mapEntry, run_underlying Try.underlying72, MapKept.run_getObj_map hb, key_law.check w false (key_of x hx), h1, Try.zeroValue3, MapKept.run_setObj_map _ hb, Result.andThen, setBlock]
      have hU : (Instr.mapUpdate 72 (.map (some b)) x.v (.int .i64 0)).run Try.prog w = .ok () (setBlock w b (.map (es.push ⟨x.v, .int .i64 0, clock⟩) (clock + 1))) := by
        simp [Instr.mapUpdate, run_underlying Try.underlying72, MapKept.run_getObj_map hb, key_law.check w false (key_of x hx), h1, MapKept.run_setObj_map _ hb, Result.andThen, setBlock]
      rw [hM] at hM2
      injection hM2 with _ hw
      rw [hw]
      obtain ⟨w', hr, ho, _⟩ := hown.update key_keyed Try.underlying72 (by omega) (key_of x hx) (plainElem_int (H := Unit) Try.underlying3 (a := 0) (by decide))
      rw [hU] at hr
      injection hr with _ hr
      rw [hr]
      obtain ⟨v, _, hl, hat⟩ := hown.lookup key_keyed Try.underlying72 (Try.zeroValue3 w) (plainElem_int (H := Unit) Try.underlying3 (a := 0) (by decide)) (key_of x hx)
      have hl2 : (Instr.lookup 72 (.map (some b)) x.v false).run Try.prog w = .ok (.int .i64 0) w := by
        simp [Instr.lookup, run_underlying Try.underlying72, MapKept.run_getObj_map hb, key_law.check w _ (key_of x hx), h1, Try.zeroValue3, Result.andThen]
      rw [hl2] at hl
      injection hl with hl _
      subst hl
      rw [plainElem_int Try.underlying3 (by decide), hc x hx] at hat
      simp only [Option.some.injEq, Prod.mk.injEq, DataW.lit.injEq, Lit.int.injEq, true_and] at hat
      have hc0 : c x = 0 := by omega
      refine ⟨_, ho, fun y hy => ?_⟩
      have := put_counts hm hc hx 0 y hy
      rw [show ((0 : Nat) : Int) = 0 from rfl] at this
      have hp : put c x 0 y = c y := by
        unfold put
        split
        · rename_i e; rw [e, hc0]
        · rfl
      rw [this, hp]
    · have hj : es[j]? = some e0 := by simpa using h2
      have hsame : es.modify j (fun e => { e with key := x.v }) = es := by
        apply Array.ext'
        rw [Array.toList_modify, ChangeMaps.modify_eq_set _ _ _ _ h2]
        have : ({ e0 with key := x.v } : MapEntry) = e0 := by rw [← h3]
        rw [this]
        exact WideElems.set_self _ _ _ h2
      have hM2 : (Instr.mapEntry 72 (.map (some b)) x.v).run Try.prog w = .ok (.tuple #[e0.val, goInt e0.born]) (setBlock w b (.map es clock)) := by
        simp [Instr.mapEntry, run_underlying Try.underlying72, MapKept.run_getObj_map hb, key_law.check w false (key_of x hx), h1, hj, h3, key_law.stays w (key_of x hx), hsame, MapKept.run_setObj_map _ hb, Result.andThen, setBlock]
      rw [hM] at hM2
      injection hM2 with _ hw
      rw [hw, setBlock_self hb]
      exact ⟨D, hown.mono (by omega), hc⟩
  refine ⟨v0, st, _, hM, hw1.1, hw1.2, fun m hwf => ?_⟩
  obtain ⟨es', clock', hst, hup⟩ := hS (setBlock w b (.map es1 clock1)) (.int .i64 (m : Int)) (heap_setBlock_same hb _)
  obtain ⟨w', hr, ho, hg⟩ := hown.update key_keyed Try.underlying72 (by omega) (key_of x hx) (plainElem_int (H := Unit) Try.underlying3 hwf)
  rw [hup] at hr
  injection hr with _ hr
  have hss : setBlock (setBlock w b (.map es1 clock1)) b (.map es' clock') = setBlock w b (.map es' clock') := by
    unfold setBlock
    simp [Array.setIfInBounds_setIfInBounds]
  refine ⟨_, hst, ?_, ?_⟩
  · rw [hss, hr]; exact hg
  · rw [hss, hr]
    exact ⟨_, ho, put_counts hm hc hx m⟩
end Go.Proofs.Ytlmmhgbbfmocaaa
