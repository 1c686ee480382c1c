/-
  No cell of these rows narrows 'for every input' (looked for: loops, veiled, ifaces, maps, wideKeys, modest, calm, conditions, laid).
  DERIVED. THE GIVEN ROWS OF THIS SEAT. 7 by the template 'for every input the law returns true; each argument reads behind the call as it read before'; 0 by the template 'total and deterministic' (their statements: YtkabfjknpjhonaaTotals.lean).
  GIVEN WITH THE SEED: the statements are not yours to turn. If you find one false, say at which input.
  Laid BY PROGRAM, IN A SANDBOX (cutbox-rows.mjs): the forced cells as the released guide's own fill.sh prints them over the translation 16758547c5e8bccc… (all of the seat's roots in one cut). By AI agents, Wed Nov 11 2026. No macro, syntax, notation, axiom, sorry.
-/
import Derived.Test.YtkabfjknpjhonaaChecked
import GoSem.Claim
import GoSem.ClaimJoined
import GoSem.ClaimMapViews
import Derived.JoinedTies
import Derived.KernelRfl
namespace Go.Proofs.Ytkabfjknpjhonaa
/- THE CELL 'sum', in the pinned program and in every row, IS THE sha256 OF THE DUMP (.gsa) THAT YtkabfjknpjhonaaProg.lean LOADS. Nothing in Lean hashes anything: it is a label: what it is worth is what the hold of that sum in a sandbox is worth. -/
noncomputable def Try.pinned : Pinned := { name := "ytkabfjknpjhonaa", sum := "16758547c5e8bccc013b8673d98a5a8e1d330b5a64e0e4db2527edf93afe0ba4", checked := Try.checked }
namespace Rows
def none {H : Type} : Left H := { results := [], args := [] }

/-- 'dasdlaw46.LockAcyclic': WHATEVER THE INPUT: true; the input reads as it did. -/
def lockAcyclicSpec : ChangeSpec := { name := "lockAcyclic", fn := fun _ => fun
  | [d] => { results := [.lit (.bool true)], args := [d] }
  | _ => none }
def lockAcyclicRow : OpenClaim := { program := "ytkabfjknpjhonaa", sum := "16758547c5e8bccc013b8673d98a5a8e1d330b5a64e0e4db2527edf93afe0ba4", func := "dasd/dasdlaw46.LockAcyclic", spec := "lockAcyclic", inPlace := ["internal/bytealg.abigen_runtime_cmpstring"], unfollowed := true, recurses := true, apart := false }
def LockAcyclicSaid : Prop := lockAcyclicRow.holds Try.pinned (OpenSpec.ofChange lockAcyclicSpec)

/-- ITS FALSE NEIGHBOUR: 'it returns false'. Refute it at one input. -/
def lockAcyclicWrong : ChangeSpec := { name := "lockAcyclic", fn := fun _ => fun
  | [d] => { results := [.lit (.bool false)], args := [d] }
  | _ => none }
def LockAcyclicWrongFalsely : Prop := lockAcyclicRow.holds Try.pinned (OpenSpec.ofChange lockAcyclicWrong)

/-- 'dasdlaw46.LockRules': WHATEVER THE INPUT: true; the input reads as it did. -/
def lockRulesSpec : ChangeSpec := { name := "lockRules", fn := fun _ => fun
  | [d] => { results := [.lit (.bool true)], args := [d] }
  | _ => none }
def lockRulesRow : OpenClaim := { program := "ytkabfjknpjhonaa", sum := "16758547c5e8bccc013b8673d98a5a8e1d330b5a64e0e4db2527edf93afe0ba4", func := "dasd/dasdlaw46.LockRules", spec := "lockRules", inPlace := ["internal/bytealg.abigen_runtime_cmpstring"], unfollowed := true, recurses := true, apart := false }
def LockRulesSaid : Prop := lockRulesRow.holds Try.pinned (OpenSpec.ofChange lockRulesSpec)

/-- ITS FALSE NEIGHBOUR: 'it returns false'. Refute it at one input. -/
def lockRulesWrong : ChangeSpec := { name := "lockRules", fn := fun _ => fun
  | [d] => { results := [.lit (.bool false)], args := [d] }
  | _ => none }
def LockRulesWrongFalsely : Prop := lockRulesRow.holds Try.pinned (OpenSpec.ofChange lockRulesWrong)

/-- 'dasdlaw46.LockCompatible': WHATEVER THE INPUT: true; the input reads as it did. -/
def lockCompatibleSpec : ChangeSpec := { name := "lockCompatible", fn := fun _ => fun
  | [d] => { results := [.lit (.bool true)], args := [d] }
  | _ => none }
def lockCompatibleRow : OpenClaim := { program := "ytkabfjknpjhonaa", sum := "16758547c5e8bccc013b8673d98a5a8e1d330b5a64e0e4db2527edf93afe0ba4", func := "dasd/dasdlaw46.LockCompatible", spec := "lockCompatible", inPlace := ["internal/bytealg.abigen_runtime_cmpstring"], unfollowed := true, recurses := true, apart := false }
def LockCompatibleSaid : Prop := lockCompatibleRow.holds Try.pinned (OpenSpec.ofChange lockCompatibleSpec)

/-- ITS FALSE NEIGHBOUR: 'it returns false'. Refute it at one input. -/
def lockCompatibleWrong : ChangeSpec := { name := "lockCompatible", fn := fun _ => fun
  | [d] => { results := [.lit (.bool false)], args := [d] }
  | _ => none }
def LockCompatibleWrongFalsely : Prop := lockCompatibleRow.holds Try.pinned (OpenSpec.ofChange lockCompatibleWrong)

/-- 'dasdlaw46.LockOrder': WHATEVER THE INPUT: true; the input reads as it did. -/
def lockOrderSpec : ChangeSpec := { name := "lockOrder", fn := fun _ => fun
  | [d1, d2] => { results := [.lit (.bool true)], args := [d1, d2] }
  | _ => none }
def lockOrderRow : OpenClaim := { program := "ytkabfjknpjhonaa", sum := "16758547c5e8bccc013b8673d98a5a8e1d330b5a64e0e4db2527edf93afe0ba4", func := "dasd/dasdlaw46.LockOrder", spec := "lockOrder", inPlace := ["internal/bytealg.abigen_runtime_cmpstring"], unfollowed := true, recurses := true, apart := false }
def LockOrderSaid : Prop := lockOrderRow.holds Try.pinned (OpenSpec.ofChange lockOrderSpec)

/-- ITS FALSE NEIGHBOUR: 'it returns false'. Refute it at one input. -/
def lockOrderWrong : ChangeSpec := { name := "lockOrder", fn := fun _ => fun
  | [d1, d2] => { results := [.lit (.bool false)], args := [d1, d2] }
  | _ => none }
def LockOrderWrongFalsely : Prop := lockOrderRow.holds Try.pinned (OpenSpec.ofChange lockOrderWrong)

/-- 'dasdlaw46.LockAgain': WHATEVER THE INPUT: true; the input reads as it did. -/
def lockAgainSpec : ChangeSpec := { name := "lockAgain", fn := fun _ => fun
  | [d1, d2] => { results := [.lit (.bool true)], args := [d1, d2] }
  | _ => none }
def lockAgainRow : OpenClaim := { program := "ytkabfjknpjhonaa", sum := "16758547c5e8bccc013b8673d98a5a8e1d330b5a64e0e4db2527edf93afe0ba4", func := "dasd/dasdlaw46.LockAgain", spec := "lockAgain", inPlace := ["internal/bytealg.abigen_runtime_cmpstring"], unfollowed := true, recurses := true, apart := false }
def LockAgainSaid : Prop := lockAgainRow.holds Try.pinned (OpenSpec.ofChange lockAgainSpec)

/-- ITS FALSE NEIGHBOUR: 'it returns false'. Refute it at one input. -/
def lockAgainWrong : ChangeSpec := { name := "lockAgain", fn := fun _ => fun
  | [d1, d2] => { results := [.lit (.bool false)], args := [d1, d2] }
  | _ => none }
def LockAgainWrongFalsely : Prop := lockAgainRow.holds Try.pinned (OpenSpec.ofChange lockAgainWrong)

/-- 'dasdlaw46.LockCalls': WHATEVER THE INPUT: true; the input reads as it did. -/
def lockCallsSpec : ChangeSpec := { name := "lockCalls", fn := fun _ => fun
  | [d] => { results := [.lit (.bool true)], args := [d] }
  | _ => none }
def lockCallsRow : OpenClaim := { program := "ytkabfjknpjhonaa", sum := "16758547c5e8bccc013b8673d98a5a8e1d330b5a64e0e4db2527edf93afe0ba4", func := "dasd/dasdlaw46.LockCalls", spec := "lockCalls", inPlace := ["internal/bytealg.abigen_runtime_cmpstring"], unfollowed := true, recurses := true, apart := false }
def LockCallsSaid : Prop := lockCallsRow.holds Try.pinned (OpenSpec.ofChange lockCallsSpec)

/-- ITS FALSE NEIGHBOUR: 'it returns false'. Refute it at one input. -/
def lockCallsWrong : ChangeSpec := { name := "lockCalls", fn := fun _ => fun
  | [d] => { results := [.lit (.bool false)], args := [d] }
  | _ => none }
def LockCallsWrongFalsely : Prop := lockCallsRow.holds Try.pinned (OpenSpec.ofChange lockCallsWrong)

/-- 'dasdlaw46.LockEnds': WHATEVER THE INPUT: true; the input reads as it did. -/
def lockEndsSpec : ChangeSpec := { name := "lockEnds", fn := fun _ => fun
  | [d] => { results := [.lit (.bool true)], args := [d] }
  | _ => none }
def lockEndsRow : OpenClaim := { program := "ytkabfjknpjhonaa", sum := "16758547c5e8bccc013b8673d98a5a8e1d330b5a64e0e4db2527edf93afe0ba4", func := "dasd/dasdlaw46.LockEnds", spec := "lockEnds", inPlace := ["internal/bytealg.abigen_runtime_cmpstring"], unfollowed := true, recurses := true, apart := false }
def LockEndsSaid : Prop := lockEndsRow.holds Try.pinned (OpenSpec.ofChange lockEndsSpec)

/-- ITS FALSE NEIGHBOUR: 'it returns false'. Refute it at one input. -/
def lockEndsWrong : ChangeSpec := { name := "lockEnds", fn := fun _ => fun
  | [d] => { results := [.lit (.bool false)], args := [d] }
  | _ => none }
def LockEndsWrongFalsely : Prop := lockEndsRow.holds Try.pinned (OpenSpec.ofChange lockEndsWrong)

/- THE SECOND FORM. 'bulk': how many values and letters a reading holds, each counted each time it is reached (what is shared counts as often as it is met; a slice's spare places count too). A statement '..UptoSaid' is the law's where the arguments, and the package variables that the reading takes, are together of bulk at most 1048576: NARROWER than '..Said'. Prove '..Said' where nothing that the law and all that it calls make is longer than what came in: it says more and counts as full. Else prove '..UptoSaid'. A law counts once. -/
mutual
def uptoBulk {H : Type} : DataW H → Nat
  | .lit (.string bytes) => bytes.length + 1
  | .lit _ => 1
  | .nil => 1
  | .ptr d => uptoBulk d + 1
  | .slice elems spare => uptoBulkAll elems + uptoBulkAll spare + 1
  | .agg parts => uptoBulkAll parts + 1
  | .iface _ d => uptoBulk d + 1
  | .map entries => uptoBulkEntries entries + 1
  | .held _ => 1
def uptoBulkAll {H : Type} : List (DataW H) → Nat
  | [] => 0
  | d :: r => uptoBulk d + uptoBulkAll r
def uptoBulkEntries {H : Type} : List (Lit × DataW H) → Nat
  | [] => 0
  | x :: r => uptoBulkEntry x + uptoBulkEntries r
def uptoBulkEntry {H : Type} : Lit × DataW H → Nat
  | (.string bytes, d) => bytes.length + uptoBulk d + 1
  | (_, d) => uptoBulk d + 1
 end
def uptoSmall : (H : Type) → List (DataW H) → Bool := fun _ ds => decide (uptoBulkAll ds ≤ 1048576)
def OpenSpec.upto (s : _root_.Go.ChangeSpec) : _root_.Go.OpenSpec := { _root_.Go.OpenSpec.ofChange s with cond := some uptoSmall }

/-- 'dasdlaw46.LockAcyclic', WHERE WHAT IT READS IS OF BULK AT MOST 1048576: true; the input reads as it did. -/
def lockAcyclicUptoRow : OpenClaim := { program := "ytkabfjknpjhonaa", sum := "16758547c5e8bccc013b8673d98a5a8e1d330b5a64e0e4db2527edf93afe0ba4", func := "dasd/dasdlaw46.LockAcyclic", spec := "lockAcyclic", inPlace := ["internal/bytealg.abigen_runtime_cmpstring"], unfollowed := true, recurses := true, apart := false, narrowed := true }
def LockAcyclicUptoSaid : Prop := lockAcyclicUptoRow.holds Try.pinned (OpenSpec.upto lockAcyclicSpec)

/-- 'dasdlaw46.LockRules', WHERE WHAT IT READS IS OF BULK AT MOST 1048576: true; the input reads as it did. -/
def lockRulesUptoRow : OpenClaim := { program := "ytkabfjknpjhonaa", sum := "16758547c5e8bccc013b8673d98a5a8e1d330b5a64e0e4db2527edf93afe0ba4", func := "dasd/dasdlaw46.LockRules", spec := "lockRules", inPlace := ["internal/bytealg.abigen_runtime_cmpstring"], unfollowed := true, recurses := true, apart := false, narrowed := true }
def LockRulesUptoSaid : Prop := lockRulesUptoRow.holds Try.pinned (OpenSpec.upto lockRulesSpec)

/-- 'dasdlaw46.LockCompatible', WHERE WHAT IT READS IS OF BULK AT MOST 1048576: true; the input reads as it did. -/
def lockCompatibleUptoRow : OpenClaim := { program := "ytkabfjknpjhonaa", sum := "16758547c5e8bccc013b8673d98a5a8e1d330b5a64e0e4db2527edf93afe0ba4", func := "dasd/dasdlaw46.LockCompatible", spec := "lockCompatible", inPlace := ["internal/bytealg.abigen_runtime_cmpstring"], unfollowed := true, recurses := true, apart := false, narrowed := true }
def LockCompatibleUptoSaid : Prop := lockCompatibleUptoRow.holds Try.pinned (OpenSpec.upto lockCompatibleSpec)

/-- 'dasdlaw46.LockOrder', WHERE WHAT IT READS IS OF BULK AT MOST 1048576: true; the input reads as it did. -/
def lockOrderUptoRow : OpenClaim := { program := "ytkabfjknpjhonaa", sum := "16758547c5e8bccc013b8673d98a5a8e1d330b5a64e0e4db2527edf93afe0ba4", func := "dasd/dasdlaw46.LockOrder", spec := "lockOrder", inPlace := ["internal/bytealg.abigen_runtime_cmpstring"], unfollowed := true, recurses := true, apart := false, narrowed := true }
def LockOrderUptoSaid : Prop := lockOrderUptoRow.holds Try.pinned (OpenSpec.upto lockOrderSpec)

/-- 'dasdlaw46.LockAgain', WHERE WHAT IT READS IS OF BULK AT MOST 1048576: true; the input reads as it did. -/
def lockAgainUptoRow : OpenClaim := { program := "ytkabfjknpjhonaa", sum := "16758547c5e8bccc013b8673d98a5a8e1d330b5a64e0e4db2527edf93afe0ba4", func := "dasd/dasdlaw46.LockAgain", spec := "lockAgain", inPlace := ["internal/bytealg.abigen_runtime_cmpstring"], unfollowed := true, recurses := true, apart := false, narrowed := true }
def LockAgainUptoSaid : Prop := lockAgainUptoRow.holds Try.pinned (OpenSpec.upto lockAgainSpec)

/-- 'dasdlaw46.LockCalls', WHERE WHAT IT READS IS OF BULK AT MOST 1048576: true; the input reads as it did. -/
def lockCallsUptoRow : OpenClaim := { program := "ytkabfjknpjhonaa", sum := "16758547c5e8bccc013b8673d98a5a8e1d330b5a64e0e4db2527edf93afe0ba4", func := "dasd/dasdlaw46.LockCalls", spec := "lockCalls", inPlace := ["internal/bytealg.abigen_runtime_cmpstring"], unfollowed := true, recurses := true, apart := false, narrowed := true }
def LockCallsUptoSaid : Prop := lockCallsUptoRow.holds Try.pinned (OpenSpec.upto lockCallsSpec)

/-- 'dasdlaw46.LockEnds', WHERE WHAT IT READS IS OF BULK AT MOST 1048576: true; the input reads as it did. -/
def lockEndsUptoRow : OpenClaim := { program := "ytkabfjknpjhonaa", sum := "16758547c5e8bccc013b8673d98a5a8e1d330b5a64e0e4db2527edf93afe0ba4", func := "dasd/dasdlaw46.LockEnds", spec := "lockEnds", inPlace := ["internal/bytealg.abigen_runtime_cmpstring"], unfollowed := true, recurses := true, apart := false, narrowed := true }
def LockEndsUptoSaid : Prop := lockEndsUptoRow.holds Try.pinned (OpenSpec.upto lockEndsSpec)

end Rows
end Go.Proofs.Ytkabfjknpjhonaa
