/-
  No cell of these rows narrows 'for every input' (looked for: loops, veiled, ifaces, maps, wideKeys, modest, calm, conditions, laid).
  DERIVED. THE GIVEN ROWS OF THIS SEAT. 7 by the template 'for every input the law returns true; each argument reads behind the call as it read before'; 0 by the template 'total and deterministic' (their statements: YtogfdodnfeggfaaTotals.lean).
  GIVEN WITH THE SEED: the statements are not yours to turn. If you find one false, say at which input.
  Laid BY PROGRAM, IN A SANDBOX (cutbox-rows.mjs): the forced cells as the released guide's own fill.sh prints them over the translation ccec11e78fcf8ad8… (all of the seat's roots in one cut). By AI agents, Wed Nov 11 2026. No macro, syntax, notation, axiom, sorry.
-/
import Derived.Test.YtogfdodnfeggfaaChecked
import GoSem.Claim
import GoSem.ClaimJoined
import GoSem.ClaimMapViews
import Derived.JoinedTies
import Derived.KernelRfl
namespace Go.Proofs.Ytogfdodnfeggfaa
/- THE CELL 'sum', in the pinned program and in every row, IS THE sha256 OF THE DUMP (.gsa) THAT YtogfdodnfeggfaaProg.lean LOADS. Nothing in Lean hashes anything: it is a label: what it is worth is what the hold of that sum in a sandbox is worth. -/
noncomputable def Try.pinned : Pinned := { name := "ytogfdodnfeggfaa", sum := "ccec11e78fcf8ad8dbf4afa2912cbdabaa226fd8163c5c36e6ea075dc28b0e78", checked := Try.checked }
namespace Rows
def none {H : Type} : Left H := { results := [], args := [] }

/-- 'dasdlaw11.VariablePacks': WHATEVER THE INPUT: true; the input reads as it did. -/
def variablePacksSpec : ChangeSpec := { name := "variablePacks", fn := fun _ => fun
  | [d1, d2, d3] => { results := [.lit (.bool true)], args := [d1, d2, d3] }
  | _ => none }
def variablePacksRow : OpenClaim := { program := "ytogfdodnfeggfaa", sum := "ccec11e78fcf8ad8dbf4afa2912cbdabaa226fd8163c5c36e6ea075dc28b0e78", func := "dasd/dasdlaw11.VariablePacks", spec := "variablePacks", apart := false }
def VariablePacksSaid : Prop := variablePacksRow.holds Try.pinned (OpenSpec.ofChange variablePacksSpec)

/-- ITS FALSE NEIGHBOUR: 'it returns false'. Refute it at one input. -/
def variablePacksWrong : ChangeSpec := { name := "variablePacks", fn := fun _ => fun
  | [d1, d2, d3] => { results := [.lit (.bool false)], args := [d1, d2, d3] }
  | _ => none }
def VariablePacksWrongFalsely : Prop := variablePacksRow.holds Try.pinned (OpenSpec.ofChange variablePacksWrong)

/-- 'dasdlaw11.VariableWords': WHATEVER THE INPUT: true; the input reads as it did. -/
def variableWordsSpec : ChangeSpec := { name := "variableWords", fn := fun _ => fun
  | [d1, d2] => { results := [.lit (.bool true)], args := [d1, d2] }
  | _ => none }
def variableWordsRow : OpenClaim := { program := "ytogfdodnfeggfaa", sum := "ccec11e78fcf8ad8dbf4afa2912cbdabaa226fd8163c5c36e6ea075dc28b0e78", func := "dasd/dasdlaw11.VariableWords", spec := "variableWords", apart := false }
def VariableWordsSaid : Prop := variableWordsRow.holds Try.pinned (OpenSpec.ofChange variableWordsSpec)

/-- ITS FALSE NEIGHBOUR: 'it returns false'. Refute it at one input. -/
def variableWordsWrong : ChangeSpec := { name := "variableWords", fn := fun _ => fun
  | [d1, d2] => { results := [.lit (.bool false)], args := [d1, d2] }
  | _ => none }
def VariableWordsWrongFalsely : Prop := variableWordsRow.holds Try.pinned (OpenSpec.ofChange variableWordsWrong)

/-- 'dasdlaw11.VariableUnpacks': WHATEVER THE INPUT: true; the input reads as it did. -/
def variableUnpacksSpec : ChangeSpec := { name := "variableUnpacks", fn := fun _ => fun
  | [d1, d2, d3] => { results := [.lit (.bool true)], args := [d1, d2, d3] }
  | _ => none }
def variableUnpacksRow : OpenClaim := { program := "ytogfdodnfeggfaa", sum := "ccec11e78fcf8ad8dbf4afa2912cbdabaa226fd8163c5c36e6ea075dc28b0e78", func := "dasd/dasdlaw11.VariableUnpacks", spec := "variableUnpacks", unfollowed := true, recurses := true, apart := false }
def VariableUnpacksSaid : Prop := variableUnpacksRow.holds Try.pinned (OpenSpec.ofChange variableUnpacksSpec)

/-- ITS FALSE NEIGHBOUR: 'it returns false'. Refute it at one input. -/
def variableUnpacksWrong : ChangeSpec := { name := "variableUnpacks", fn := fun _ => fun
  | [d1, d2, d3] => { results := [.lit (.bool false)], args := [d1, d2, d3] }
  | _ => none }
def VariableUnpacksWrongFalsely : Prop := variableUnpacksRow.holds Try.pinned (OpenSpec.ofChange variableUnpacksWrong)

/-- 'dasdlaw11.VariableReturns': WHATEVER THE INPUT: true; the input reads as it did. -/
def variableReturnsSpec : ChangeSpec := { name := "variableReturns", fn := fun _ => fun
  | [d1, d2, d3] => { results := [.lit (.bool true)], args := [d1, d2, d3] }
  | _ => none }
def variableReturnsRow : OpenClaim := { program := "ytogfdodnfeggfaa", sum := "ccec11e78fcf8ad8dbf4afa2912cbdabaa226fd8163c5c36e6ea075dc28b0e78", func := "dasd/dasdlaw11.VariableReturns", spec := "variableReturns", unfollowed := true, recurses := true, apart := false }
def VariableReturnsSaid : Prop := variableReturnsRow.holds Try.pinned (OpenSpec.ofChange variableReturnsSpec)

/-- ITS FALSE NEIGHBOUR: 'it returns false'. Refute it at one input. -/
def variableReturnsWrong : ChangeSpec := { name := "variableReturns", fn := fun _ => fun
  | [d1, d2, d3] => { results := [.lit (.bool false)], args := [d1, d2, d3] }
  | _ => none }
def VariableReturnsWrongFalsely : Prop := variableReturnsRow.holds Try.pinned (OpenSpec.ofChange variableReturnsWrong)

/-- 'dasdlaw11.VariableStrict': WHATEVER THE INPUT: true; the input reads as it did. -/
def variableStrictSpec : ChangeSpec := { name := "variableStrict", fn := fun _ => fun
  | [d1, d2, d3] => { results := [.lit (.bool true)], args := [d1, d2, d3] }
  | _ => none }
def variableStrictRow : OpenClaim := { program := "ytogfdodnfeggfaa", sum := "ccec11e78fcf8ad8dbf4afa2912cbdabaa226fd8163c5c36e6ea075dc28b0e78", func := "dasd/dasdlaw11.VariableStrict", spec := "variableStrict", unfollowed := true, recurses := true, apart := false }
def VariableStrictSaid : Prop := variableStrictRow.holds Try.pinned (OpenSpec.ofChange variableStrictSpec)

/-- ITS FALSE NEIGHBOUR: 'it returns false'. Refute it at one input. -/
def variableStrictWrong : ChangeSpec := { name := "variableStrict", fn := fun _ => fun
  | [d1, d2, d3] => { results := [.lit (.bool false)], args := [d1, d2, d3] }
  | _ => none }
def VariableStrictWrongFalsely : Prop := variableStrictRow.holds Try.pinned (OpenSpec.ofChange variableStrictWrong)

/-- 'dasdlaw11.VariableAdds': WHATEVER THE INPUT: true; the input reads as it did. -/
def variableAddsSpec : ChangeSpec := { name := "variableAdds", fn := fun _ => fun
  | [d1, d2, d3, d4] => { results := [.lit (.bool true)], args := [d1, d2, d3, d4] }
  | _ => none }
def variableAddsRow : OpenClaim := { program := "ytogfdodnfeggfaa", sum := "ccec11e78fcf8ad8dbf4afa2912cbdabaa226fd8163c5c36e6ea075dc28b0e78", func := "dasd/dasdlaw11.VariableAdds", spec := "variableAdds", unfollowed := true, recurses := true, apart := false }
def VariableAddsSaid : Prop := variableAddsRow.holds Try.pinned (OpenSpec.ofChange variableAddsSpec)

/-- ITS FALSE NEIGHBOUR: 'it returns false'. Refute it at one input. -/
def variableAddsWrong : ChangeSpec := { name := "variableAdds", fn := fun _ => fun
  | [d1, d2, d3, d4] => { results := [.lit (.bool false)], args := [d1, d2, d3, d4] }
  | _ => none }
def VariableAddsWrongFalsely : Prop := variableAddsRow.holds Try.pinned (OpenSpec.ofChange variableAddsWrong)

/-- 'dasdlaw11.VariableBuilds': WHATEVER THE INPUT: true; the input reads as it did. -/
def variableBuildsSpec : ChangeSpec := { name := "variableBuilds", fn := fun _ => fun
  | [d1, d2, d3] => { results := [.lit (.bool true)], args := [d1, d2, d3] }
  | _ => none }
def variableBuildsRow : OpenClaim := { program := "ytogfdodnfeggfaa", sum := "ccec11e78fcf8ad8dbf4afa2912cbdabaa226fd8163c5c36e6ea075dc28b0e78", func := "dasd/dasdlaw11.VariableBuilds", spec := "variableBuilds", unfollowed := true, recurses := true, apart := false }
def VariableBuildsSaid : Prop := variableBuildsRow.holds Try.pinned (OpenSpec.ofChange variableBuildsSpec)

/-- ITS FALSE NEIGHBOUR: 'it returns false'. Refute it at one input. -/
def variableBuildsWrong : ChangeSpec := { name := "variableBuilds", fn := fun _ => fun
  | [d1, d2, d3] => { results := [.lit (.bool false)], args := [d1, d2, d3] }
  | _ => none }
def VariableBuildsWrongFalsely : Prop := variableBuildsRow.holds Try.pinned (OpenSpec.ofChange variableBuildsWrong)

/- THE SECOND FORM. 'bulk': how many values and letters a reading holds, each counted each time it is reached (what is shared counts as often as it is met; a slice's spare places count too). A statement '..UptoSaid' is the law's where the arguments, and the package variables that the reading takes, are together of bulk at most 1048576: NARROWER than '..Said'. Prove '..Said' where nothing that the law and all that it calls make is longer than what came in: it says more and counts as full. Else prove '..UptoSaid'. A law counts once. -/
mutual
def uptoBulk {H : Type} : DataW H → Nat
  | .lit (.string bytes) => bytes.length + 1
  | .lit _ => 1
  | .nil => 1
  | .ptr d => uptoBulk d + 1
  | .slice elems spare => uptoBulkAll elems + uptoBulkAll spare + 1
  | .agg parts => uptoBulkAll parts + 1
  | .iface _ d => uptoBulk d + 1
  | .map entries => uptoBulkEntries entries + 1
  | .held _ => 1
def uptoBulkAll {H : Type} : List (DataW H) → Nat
  | [] => 0
  | d :: r => uptoBulk d + uptoBulkAll r
def uptoBulkEntries {H : Type} : List (Lit × DataW H) → Nat
  | [] => 0
  | x :: r => uptoBulkEntry x + uptoBulkEntries r
def uptoBulkEntry {H : Type} : Lit × DataW H → Nat
  | (.string bytes, d) => bytes.length + uptoBulk d + 1
  | (_, d) => uptoBulk d + 1
 end
def uptoSmall : (H : Type) → List (DataW H) → Bool := fun _ ds => decide (uptoBulkAll ds ≤ 1048576)
def OpenSpec.upto (s : _root_.Go.ChangeSpec) : _root_.Go.OpenSpec := { _root_.Go.OpenSpec.ofChange s with cond := some uptoSmall }

/-- 'dasdlaw11.VariablePacks', WHERE WHAT IT READS IS OF BULK AT MOST 1048576: true; the input reads as it did. -/
def variablePacksUptoRow : OpenClaim := { program := "ytogfdodnfeggfaa", sum := "ccec11e78fcf8ad8dbf4afa2912cbdabaa226fd8163c5c36e6ea075dc28b0e78", func := "dasd/dasdlaw11.VariablePacks", spec := "variablePacks", apart := false, narrowed := true }
def VariablePacksUptoSaid : Prop := variablePacksUptoRow.holds Try.pinned (OpenSpec.upto variablePacksSpec)

/-- 'dasdlaw11.VariableWords', WHERE WHAT IT READS IS OF BULK AT MOST 1048576: true; the input reads as it did. -/
def variableWordsUptoRow : OpenClaim := { program := "ytogfdodnfeggfaa", sum := "ccec11e78fcf8ad8dbf4afa2912cbdabaa226fd8163c5c36e6ea075dc28b0e78", func := "dasd/dasdlaw11.VariableWords", spec := "variableWords", apart := false, narrowed := true }
def VariableWordsUptoSaid : Prop := variableWordsUptoRow.holds Try.pinned (OpenSpec.upto variableWordsSpec)

/-- 'dasdlaw11.VariableUnpacks', WHERE WHAT IT READS IS OF BULK AT MOST 1048576: true; the input reads as it did. -/
def variableUnpacksUptoRow : OpenClaim := { program := "ytogfdodnfeggfaa", sum := "ccec11e78fcf8ad8dbf4afa2912cbdabaa226fd8163c5c36e6ea075dc28b0e78", func := "dasd/dasdlaw11.VariableUnpacks", spec := "variableUnpacks", unfollowed := true, recurses := true, apart := false, narrowed := true }
def VariableUnpacksUptoSaid : Prop := variableUnpacksUptoRow.holds Try.pinned (OpenSpec.upto variableUnpacksSpec)

/-- 'dasdlaw11.VariableReturns', WHERE WHAT IT READS IS OF BULK AT MOST 1048576: true; the input reads as it did. -/
def variableReturnsUptoRow : OpenClaim := { program := "ytogfdodnfeggfaa", sum := "ccec11e78fcf8ad8dbf4afa2912cbdabaa226fd8163c5c36e6ea075dc28b0e78", func := "dasd/dasdlaw11.VariableReturns", spec := "variableReturns", unfollowed := true, recurses := true, apart := false, narrowed := true }
def VariableReturnsUptoSaid : Prop := variableReturnsUptoRow.holds Try.pinned (OpenSpec.upto variableReturnsSpec)

/-- 'dasdlaw11.VariableStrict', WHERE WHAT IT READS IS OF BULK AT MOST 1048576: true; the input reads as it did. -/
def variableStrictUptoRow : OpenClaim := { program := "ytogfdodnfeggfaa", sum := "ccec11e78fcf8ad8dbf4afa2912cbdabaa226fd8163c5c36e6ea075dc28b0e78", func := "dasd/dasdlaw11.VariableStrict", spec := "variableStrict", unfollowed := true, recurses := true, apart := false, narrowed := true }
def VariableStrictUptoSaid : Prop := variableStrictUptoRow.holds Try.pinned (OpenSpec.upto variableStrictSpec)

/-- 'dasdlaw11.VariableAdds', WHERE WHAT IT READS IS OF BULK AT MOST 1048576: true; the input reads as it did. -/
def variableAddsUptoRow : OpenClaim := { program := "ytogfdodnfeggfaa", sum := "ccec11e78fcf8ad8dbf4afa2912cbdabaa226fd8163c5c36e6ea075dc28b0e78", func := "dasd/dasdlaw11.VariableAdds", spec := "variableAdds", unfollowed := true, recurses := true, apart := false, narrowed := true }
def VariableAddsUptoSaid : Prop := variableAddsUptoRow.holds Try.pinned (OpenSpec.upto variableAddsSpec)

/-- 'dasdlaw11.VariableBuilds', WHERE WHAT IT READS IS OF BULK AT MOST 1048576: true; the input reads as it did. -/
def variableBuildsUptoRow : OpenClaim := { program := "ytogfdodnfeggfaa", sum := "ccec11e78fcf8ad8dbf4afa2912cbdabaa226fd8163c5c36e6ea075dc28b0e78", func := "dasd/dasdlaw11.VariableBuilds", spec := "variableBuilds", unfollowed := true, recurses := true, apart := false, narrowed := true }
def VariableBuildsUptoSaid : Prop := variableBuildsUptoRow.holds Try.pinned (OpenSpec.upto variableBuildsSpec)

end Rows
end Go.Proofs.Ytogfdodnfeggfaa
