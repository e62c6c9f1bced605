/-
  No cell of these rows narrows 'for every input' (looked for: loops, veiled, ifaces, maps, wideKeys, modest, calm, conditions, laid).
  DERIVED. THE GIVEN ROWS OF THIS SEAT. 8 by the template 'for every input the law returns true; each argument reads behind the call as it read before'; 0 by the template 'total and deterministic' (their statements: YtlmmhgbbfmocaaaTotals.lean).
  GIVEN WITH THE SEED: the statements are not yours to turn. If you find one false, say at which input.
  Laid BY PROGRAM, IN A SANDBOX (cutbox-rows.mjs): the forced cells as the released guide's own fill.sh prints them over the translation fdfac2f225d2011c… (all of the seat's roots in one cut). By AI agents, Wed Nov 11 2026. No macro, syntax, notation, axiom, sorry.
-/
import Derived.Test.YtlmmhgbbfmocaaaChecked
import GoSem.Claim
import GoSem.ClaimJoined
import GoSem.ClaimMapViews
import Derived.JoinedTies
import Derived.KernelRfl
namespace Go.Proofs.Ytlmmhgbbfmocaaa
/- THE CELL 'sum', in the pinned program and in every row, IS THE sha256 OF THE DUMP (.gsa) THAT YtlmmhgbbfmocaaaProg.lean LOADS. Nothing in Lean hashes anything: it is a label: what it is worth is what the hold of that sum in a sandbox is worth. -/
noncomputable def Try.pinned : Pinned := { name := "ytlmmhgbbfmocaaa", sum := "fdfac2f225d2011c64a63fe4becb0150023271aaf275b857e2f0da271a90d03c", checked := Try.checked }
namespace Rows
def none {H : Type} : Left H := { results := [], args := [] }

/-- 'arenanetlaw26.EffectsModel': WHATEVER THE INPUT: true; the input reads as it did. -/
def effectsModelSpec : ChangeSpec := { name := "effectsModel", fn := fun _ => fun
  | [d] => { results := [.lit (.bool true)], args := [d] }
  | _ => none }
def effectsModelRow : OpenClaim := { program := "ytlmmhgbbfmocaaa", sum := "fdfac2f225d2011c64a63fe4becb0150023271aaf275b857e2f0da271a90d03c", func := "arenanet/arenanetlaw26.EffectsModel", spec := "effectsModel", unfollowed := true, recurses := true, plainKeys := false, apart := false }
def EffectsModelSaid : Prop := effectsModelRow.holds Try.pinned (OpenSpec.ofChange effectsModelSpec)

/-- ITS FALSE NEIGHBOUR: 'it returns false'. Refute it at one input. -/
def effectsModelWrong : ChangeSpec := { name := "effectsModel", fn := fun _ => fun
  | [d] => { results := [.lit (.bool false)], args := [d] }
  | _ => none }
def EffectsModelWrongFalsely : Prop := effectsModelRow.holds Try.pinned (OpenSpec.ofChange effectsModelWrong)

/-- 'arenanetlaw26.EffectsErrors': WHATEVER THE INPUT: true; the input reads as it did. -/
def effectsErrorsSpec : ChangeSpec := { name := "effectsErrors", fn := fun _ => fun
  | [d1, d2, d3, d4, d5] => { results := [.lit (.bool true)], args := [d1, d2, d3, d4, d5] }
  | _ => none }
def effectsErrorsRow : OpenClaim := { program := "ytlmmhgbbfmocaaa", sum := "fdfac2f225d2011c64a63fe4becb0150023271aaf275b857e2f0da271a90d03c", func := "arenanet/arenanetlaw26.EffectsErrors", spec := "effectsErrors", unfollowed := true, recurses := true, plainKeys := false, apart := false }
def EffectsErrorsSaid : Prop := effectsErrorsRow.holds Try.pinned (OpenSpec.ofChange effectsErrorsSpec)

/-- ITS FALSE NEIGHBOUR: 'it returns false'. Refute it at one input. -/
def effectsErrorsWrong : ChangeSpec := { name := "effectsErrors", fn := fun _ => fun
  | [d1, d2, d3, d4, d5] => { results := [.lit (.bool false)], args := [d1, d2, d3, d4, d5] }
  | _ => none }
def EffectsErrorsWrongFalsely : Prop := effectsErrorsRow.holds Try.pinned (OpenSpec.ofChange effectsErrorsWrong)

/-- 'arenanetlaw26.EffectsExactlyOnce': WHATEVER THE INPUT: true; the input reads as it did. -/
def effectsExactlyOnceSpec : ChangeSpec := { name := "effectsExactlyOnce", fn := fun _ => fun
  | [d] => { results := [.lit (.bool true)], args := [d] }
  | _ => none }
def effectsExactlyOnceRow : OpenClaim := { program := "ytlmmhgbbfmocaaa", sum := "fdfac2f225d2011c64a63fe4becb0150023271aaf275b857e2f0da271a90d03c", func := "arenanet/arenanetlaw26.EffectsExactlyOnce", spec := "effectsExactlyOnce", unfollowed := true, recurses := true, plainKeys := false, apart := false }
def EffectsExactlyOnceSaid : Prop := effectsExactlyOnceRow.holds Try.pinned (OpenSpec.ofChange effectsExactlyOnceSpec)

/-- ITS FALSE NEIGHBOUR: 'it returns false'. Refute it at one input. -/
def effectsExactlyOnceWrong : ChangeSpec := { name := "effectsExactlyOnce", fn := fun _ => fun
  | [d] => { results := [.lit (.bool false)], args := [d] }
  | _ => none }
def EffectsExactlyOnceWrongFalsely : Prop := effectsExactlyOnceRow.holds Try.pinned (OpenSpec.ofChange effectsExactlyOnceWrong)

/-- 'arenanetlaw26.EffectsMinimal': WHATEVER THE INPUT: true; the input reads as it did. -/
def effectsMinimalSpec : ChangeSpec := { name := "effectsMinimal", fn := fun _ => fun
  | [d1, d2, d3, d4] => { results := [.lit (.bool true)], args := [d1, d2, d3, d4] }
  | _ => none }
def effectsMinimalRow : OpenClaim := { program := "ytlmmhgbbfmocaaa", sum := "fdfac2f225d2011c64a63fe4becb0150023271aaf275b857e2f0da271a90d03c", func := "arenanet/arenanetlaw26.EffectsMinimal", spec := "effectsMinimal", unfollowed := true, recurses := true, plainKeys := false, apart := false }
def EffectsMinimalSaid : Prop := effectsMinimalRow.holds Try.pinned (OpenSpec.ofChange effectsMinimalSpec)

/-- ITS FALSE NEIGHBOUR: 'it returns false'. Refute it at one input. -/
def effectsMinimalWrong : ChangeSpec := { name := "effectsMinimal", fn := fun _ => fun
  | [d1, d2, d3, d4] => { results := [.lit (.bool false)], args := [d1, d2, d3, d4] }
  | _ => none }
def EffectsMinimalWrongFalsely : Prop := effectsMinimalRow.holds Try.pinned (OpenSpec.ofChange effectsMinimalWrong)

/-- 'arenanetlaw26.EffectsFinal': WHATEVER THE INPUT: true; the input reads as it did. -/
def effectsFinalSpec : ChangeSpec := { name := "effectsFinal", fn := fun _ => fun
  | [d1, d2] => { results := [.lit (.bool true)], args := [d1, d2] }
  | _ => none }
def effectsFinalRow : OpenClaim := { program := "ytlmmhgbbfmocaaa", sum := "fdfac2f225d2011c64a63fe4becb0150023271aaf275b857e2f0da271a90d03c", func := "arenanet/arenanetlaw26.EffectsFinal", spec := "effectsFinal", unfollowed := true, recurses := true, plainKeys := false, apart := false }
def EffectsFinalSaid : Prop := effectsFinalRow.holds Try.pinned (OpenSpec.ofChange effectsFinalSpec)

/-- ITS FALSE NEIGHBOUR: 'it returns false'. Refute it at one input. -/
def effectsFinalWrong : ChangeSpec := { name := "effectsFinal", fn := fun _ => fun
  | [d1, d2] => { results := [.lit (.bool false)], args := [d1, d2] }
  | _ => none }
def EffectsFinalWrongFalsely : Prop := effectsFinalRow.holds Try.pinned (OpenSpec.ofChange effectsFinalWrong)

/-- 'arenanetlaw26.EffectsCommute': WHATEVER THE INPUT: true; the input reads as it did. -/
def effectsCommuteSpec : ChangeSpec := { name := "effectsCommute", fn := fun _ => fun
  | [d1, d2, d3, d4, d5] => { results := [.lit (.bool true)], args := [d1, d2, d3, d4, d5] }
  | _ => none }
def effectsCommuteRow : OpenClaim := { program := "ytlmmhgbbfmocaaa", sum := "fdfac2f225d2011c64a63fe4becb0150023271aaf275b857e2f0da271a90d03c", func := "arenanet/arenanetlaw26.EffectsCommute", spec := "effectsCommute", unfollowed := true, recurses := true, plainKeys := false, apart := false }
def EffectsCommuteSaid : Prop := effectsCommuteRow.holds Try.pinned (OpenSpec.ofChange effectsCommuteSpec)

/-- ITS FALSE NEIGHBOUR: 'it returns false'. Refute it at one input. -/
def effectsCommuteWrong : ChangeSpec := { name := "effectsCommute", fn := fun _ => fun
  | [d1, d2, d3, d4, d5] => { results := [.lit (.bool false)], args := [d1, d2, d3, d4, d5] }
  | _ => none }
def EffectsCommuteWrongFalsely : Prop := effectsCommuteRow.holds Try.pinned (OpenSpec.ofChange effectsCommuteWrong)

/-- 'arenanetlaw26.EffectsRollback': WHATEVER THE INPUT: true; the input reads as it did. -/
def effectsRollbackSpec : ChangeSpec := { name := "effectsRollback", fn := fun _ => fun
  | [d1, d2, d3] => { results := [.lit (.bool true)], args := [d1, d2, d3] }
  | _ => none }
def effectsRollbackRow : OpenClaim := { program := "ytlmmhgbbfmocaaa", sum := "fdfac2f225d2011c64a63fe4becb0150023271aaf275b857e2f0da271a90d03c", func := "arenanet/arenanetlaw26.EffectsRollback", spec := "effectsRollback", unfollowed := true, recurses := true, plainKeys := false, apart := false }
def EffectsRollbackSaid : Prop := effectsRollbackRow.holds Try.pinned (OpenSpec.ofChange effectsRollbackSpec)

/-- ITS FALSE NEIGHBOUR: 'it returns false'. Refute it at one input. -/
def effectsRollbackWrong : ChangeSpec := { name := "effectsRollback", fn := fun _ => fun
  | [d1, d2, d3] => { results := [.lit (.bool false)], args := [d1, d2, d3] }
  | _ => none }
def EffectsRollbackWrongFalsely : Prop := effectsRollbackRow.holds Try.pinned (OpenSpec.ofChange effectsRollbackWrong)

/-- 'arenanetlaw26.EffectsOwnership': WHATEVER THE INPUT: true; the input reads as it did. -/
def effectsOwnershipSpec : ChangeSpec := { name := "effectsOwnership", fn := fun _ => fun
  | [d1, d2, d3] => { results := [.lit (.bool true)], args := [d1, d2, d3] }
  | _ => none }
def effectsOwnershipRow : OpenClaim := { program := "ytlmmhgbbfmocaaa", sum := "fdfac2f225d2011c64a63fe4becb0150023271aaf275b857e2f0da271a90d03c", func := "arenanet/arenanetlaw26.EffectsOwnership", spec := "effectsOwnership", unfollowed := true, recurses := true, plainKeys := false, apart := false }
def EffectsOwnershipSaid : Prop := effectsOwnershipRow.holds Try.pinned (OpenSpec.ofChange effectsOwnershipSpec)

/-- ITS FALSE NEIGHBOUR: 'it returns false'. Refute it at one input. -/
def effectsOwnershipWrong : ChangeSpec := { name := "effectsOwnership", fn := fun _ => fun
  | [d1, d2, d3] => { results := [.lit (.bool false)], args := [d1, d2, d3] }
  | _ => none }
def EffectsOwnershipWrongFalsely : Prop := effectsOwnershipRow.holds Try.pinned (OpenSpec.ofChange effectsOwnershipWrong)

/- THE SECOND FORM. 'bulk': how many values and letters a reading holds, each counted each time it is reached (what is shared counts as often as it is met; a slice's spare places count too). A statement '..UptoSaid' is the law's where the arguments, and the package variables that the reading takes, are together of bulk at most 1048576: NARROWER than '..Said'. Prove '..Said' where nothing that the law and all that it calls make is longer than what came in: it says more and counts as full. Else prove '..UptoSaid'. A law counts once. -/
mutual
def uptoBulk {H : Type} : DataW H → Nat
  | .lit (.string bytes) => bytes.length + 1
  | .lit _ => 1
  | .nil => 1
  | .ptr d => uptoBulk d + 1
  | .slice elems spare => uptoBulkAll elems + uptoBulkAll spare + 1
  | .agg parts => uptoBulkAll parts + 1
  | .iface _ d => uptoBulk d + 1
  | .map entries => uptoBulkEntries entries + 1
  | .held _ => 1
def uptoBulkAll {H : Type} : List (DataW H) → Nat
  | [] => 0
  | d :: r => uptoBulk d + uptoBulkAll r
def uptoBulkEntries {H : Type} : List (Lit × DataW H) → Nat
  | [] => 0
  | x :: r => uptoBulkEntry x + uptoBulkEntries r
def uptoBulkEntry {H : Type} : Lit × DataW H → Nat
  | (.string bytes, d) => bytes.length + uptoBulk d + 1
  | (_, d) => uptoBulk d + 1
 end
def uptoSmall : (H : Type) → List (DataW H) → Bool := fun _ ds => decide (uptoBulkAll ds ≤ 1048576)
def OpenSpec.upto (s : _root_.Go.ChangeSpec) : _root_.Go.OpenSpec := { _root_.Go.OpenSpec.ofChange s with cond := some uptoSmall }

/-- 'arenanetlaw26.EffectsModel', WHERE WHAT IT READS IS OF BULK AT MOST 1048576: true; the input reads as it did. -/
def effectsModelUptoRow : OpenClaim := { program := "ytlmmhgbbfmocaaa", sum := "fdfac2f225d2011c64a63fe4becb0150023271aaf275b857e2f0da271a90d03c", func := "arenanet/arenanetlaw26.EffectsModel", spec := "effectsModel", unfollowed := true, recurses := true, plainKeys := false, apart := false, narrowed := true }
def EffectsModelUptoSaid : Prop := effectsModelUptoRow.holds Try.pinned (OpenSpec.upto effectsModelSpec)

/-- 'arenanetlaw26.EffectsErrors', WHERE WHAT IT READS IS OF BULK AT MOST 1048576: true; the input reads as it did. -/
def effectsErrorsUptoRow : OpenClaim := { program := "ytlmmhgbbfmocaaa", sum := "fdfac2f225d2011c64a63fe4becb0150023271aaf275b857e2f0da271a90d03c", func := "arenanet/arenanetlaw26.EffectsErrors", spec := "effectsErrors", unfollowed := true, recurses := true, plainKeys := false, apart := false, narrowed := true }
def EffectsErrorsUptoSaid : Prop := effectsErrorsUptoRow.holds Try.pinned (OpenSpec.upto effectsErrorsSpec)

/-- 'arenanetlaw26.EffectsExactlyOnce', WHERE WHAT IT READS IS OF BULK AT MOST 1048576: true; the input reads as it did. -/
def effectsExactlyOnceUptoRow : OpenClaim := { program := "ytlmmhgbbfmocaaa", sum := "fdfac2f225d2011c64a63fe4becb0150023271aaf275b857e2f0da271a90d03c", func := "arenanet/arenanetlaw26.EffectsExactlyOnce", spec := "effectsExactlyOnce", unfollowed := true, recurses := true, plainKeys := false, apart := false, narrowed := true }
def EffectsExactlyOnceUptoSaid : Prop := effectsExactlyOnceUptoRow.holds Try.pinned (OpenSpec.upto effectsExactlyOnceSpec)

/-- 'arenanetlaw26.EffectsMinimal', WHERE WHAT IT READS IS OF BULK AT MOST 1048576: true; the input reads as it did. -/
def effectsMinimalUptoRow : OpenClaim := { program := "ytlmmhgbbfmocaaa", sum := "fdfac2f225d2011c64a63fe4becb0150023271aaf275b857e2f0da271a90d03c", func := "arenanet/arenanetlaw26.EffectsMinimal", spec := "effectsMinimal", unfollowed := true, recurses := true, plainKeys := false, apart := false, narrowed := true }
def EffectsMinimalUptoSaid : Prop := effectsMinimalUptoRow.holds Try.pinned (OpenSpec.upto effectsMinimalSpec)

/-- 'arenanetlaw26.EffectsFinal', WHERE WHAT IT READS IS OF BULK AT MOST 1048576: true; the input reads as it did. -/
def effectsFinalUptoRow : OpenClaim := { program := "ytlmmhgbbfmocaaa", sum := "fdfac2f225d2011c64a63fe4becb0150023271aaf275b857e2f0da271a90d03c", func := "arenanet/arenanetlaw26.EffectsFinal", spec := "effectsFinal", unfollowed := true, recurses := true, plainKeys := false, apart := false, narrowed := true }
def EffectsFinalUptoSaid : Prop := effectsFinalUptoRow.holds Try.pinned (OpenSpec.upto effectsFinalSpec)

/-- 'arenanetlaw26.EffectsCommute', WHERE WHAT IT READS IS OF BULK AT MOST 1048576: true; the input reads as it did. -/
def effectsCommuteUptoRow : OpenClaim := { program := "ytlmmhgbbfmocaaa", sum := "fdfac2f225d2011c64a63fe4becb0150023271aaf275b857e2f0da271a90d03c", func := "arenanet/arenanetlaw26.EffectsCommute", spec := "effectsCommute", unfollowed := true, recurses := true, plainKeys := false, apart := false, narrowed := true }
def EffectsCommuteUptoSaid : Prop := effectsCommuteUptoRow.holds Try.pinned (OpenSpec.upto effectsCommuteSpec)

/-- 'arenanetlaw26.EffectsRollback', WHERE WHAT IT READS IS OF BULK AT MOST 1048576: true; the input reads as it did. -/
def effectsRollbackUptoRow : OpenClaim := { program := "ytlmmhgbbfmocaaa", sum := "fdfac2f225d2011c64a63fe4becb0150023271aaf275b857e2f0da271a90d03c", func := "arenanet/arenanetlaw26.EffectsRollback", spec := "effectsRollback", unfollowed := true, recurses := true, plainKeys := false, apart := false, narrowed := true }
def EffectsRollbackUptoSaid : Prop := effectsRollbackUptoRow.holds Try.pinned (OpenSpec.upto effectsRollbackSpec)

/-- 'arenanetlaw26.EffectsOwnership', WHERE WHAT IT READS IS OF BULK AT MOST 1048576: true; the input reads as it did. -/
def effectsOwnershipUptoRow : OpenClaim := { program := "ytlmmhgbbfmocaaa", sum := "fdfac2f225d2011c64a63fe4becb0150023271aaf275b857e2f0da271a90d03c", func := "arenanet/arenanetlaw26.EffectsOwnership", spec := "effectsOwnership", unfollowed := true, recurses := true, plainKeys := false, apart := false, narrowed := true }
def EffectsOwnershipUptoSaid : Prop := effectsOwnershipUptoRow.holds Try.pinned (OpenSpec.upto effectsOwnershipSpec)

end Rows
end Go.Proofs.Ytlmmhgbbfmocaaa
