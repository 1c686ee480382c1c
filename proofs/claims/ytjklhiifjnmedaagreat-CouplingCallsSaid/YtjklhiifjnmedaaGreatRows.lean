/-
  No cell of these rows narrows 'for every input' (looked for: loops, veiled, ifaces, maps, wideKeys, modest, calm, conditions, laid).
  DERIVED. THE GIVEN ROWS OF THIS SEAT. 3 by the template 'for every input the law returns true; each argument reads behind the call as it read before'; 0 by the template 'total and deterministic' (their statements: YtjklhiifjnmedaaGreatTotals.lean).
  GIVEN WITH THE SEED: the statements are not yours to turn. If you find one false, say at which input.
  Laid BY PROGRAM, IN A SANDBOX (cutbox-rows.mjs): the forced cells as the released guide's own fill.sh prints them over the translation 46072ae30cac5574… (all of the seat's roots in one cut). By AI agents, Wed Nov 11 2026. No macro, syntax, notation, axiom, sorry.
-/
import Derived.Test.YtjklhiifjnmedaaGreatChecked
import GoSem.Claim
import GoSem.ClaimJoined
import GoSem.ClaimMapViews
import Derived.JoinedTies
import Derived.KernelRfl
namespace Go.Proofs.YtjklhiifjnmedaaGreat
/- THE CELL 'sum', in the pinned program and in every row, IS THE sha256 OF THE DUMP (.gsa) THAT YtjklhiifjnmedaaGreatProg.lean LOADS. Nothing in Lean hashes anything: it is a label: what it is worth is what the hold of that sum in a sandbox is worth. -/
noncomputable def Tryz.pinned : Pinned := { name := "ytjklhiifjnmedaagreat", sum := "46072ae30cac55743c807b640f2ce1b39dda07dd2778e807363b2230e4887146", checked := Tryz.checked }
namespace Rows
def none {H : Type} : Left H := { results := [], args := [] }

/-- 'dasdlaw52.CouplingRetains': WHATEVER THE INPUT: true; the input reads as it did. -/
def couplingRetainsSpec : ChangeSpec := { name := "couplingRetains", fn := fun _ => fun
  | [d1, d2, d3] => { results := [.lit (.bool true)], args := [d1, d2, d3] }
  | _ => none }
def couplingRetainsRow : OpenClaim := { program := "ytjklhiifjnmedaagreat", sum := "46072ae30cac55743c807b640f2ce1b39dda07dd2778e807363b2230e4887146", func := "dasd/dasdlaw52.CouplingRetains", spec := "couplingRetains", inPlace := ["internal/bytealg.abigen_runtime_cmpstring"], unfollowed := true, recurses := true, apart := false }
def CouplingRetainsSaid : Prop := couplingRetainsRow.holds Tryz.pinned (OpenSpec.ofChange couplingRetainsSpec)

/-- ITS FALSE NEIGHBOUR: 'it returns false'. Refute it at one input. -/
def couplingRetainsWrong : ChangeSpec := { name := "couplingRetains", fn := fun _ => fun
  | [d1, d2, d3] => { results := [.lit (.bool false)], args := [d1, d2, d3] }
  | _ => none }
def CouplingRetainsWrongFalsely : Prop := couplingRetainsRow.holds Tryz.pinned (OpenSpec.ofChange couplingRetainsWrong)

/-- 'dasdlaw52.CouplingRebuilt': WHATEVER THE INPUT: true; the input reads as it did. -/
def couplingRebuiltSpec : ChangeSpec := { name := "couplingRebuilt", fn := fun _ => fun
  | [d1, d2] => { results := [.lit (.bool true)], args := [d1, d2] }
  | _ => none }
def couplingRebuiltRow : OpenClaim := { program := "ytjklhiifjnmedaagreat", sum := "46072ae30cac55743c807b640f2ce1b39dda07dd2778e807363b2230e4887146", func := "dasd/dasdlaw52.CouplingRebuilt", spec := "couplingRebuilt", inPlace := ["internal/bytealg.abigen_runtime_cmpstring"], unfollowed := true, recurses := true, apart := false }
def CouplingRebuiltSaid : Prop := couplingRebuiltRow.holds Tryz.pinned (OpenSpec.ofChange couplingRebuiltSpec)

/-- ITS FALSE NEIGHBOUR: 'it returns false'. Refute it at one input. -/
def couplingRebuiltWrong : ChangeSpec := { name := "couplingRebuilt", fn := fun _ => fun
  | [d1, d2] => { results := [.lit (.bool false)], args := [d1, d2] }
  | _ => none }
def CouplingRebuiltWrongFalsely : Prop := couplingRebuiltRow.holds Tryz.pinned (OpenSpec.ofChange couplingRebuiltWrong)

/-- 'dasdlaw52.CouplingCalls': WHATEVER THE INPUT: true; the input reads as it did. -/
def couplingCallsSpec : ChangeSpec := { name := "couplingCalls", fn := fun _ => fun
  | [d] => { results := [.lit (.bool true)], args := [d] }
  | _ => none }
def couplingCallsRow : OpenClaim := { program := "ytjklhiifjnmedaagreat", sum := "46072ae30cac55743c807b640f2ce1b39dda07dd2778e807363b2230e4887146", func := "dasd/dasdlaw52.CouplingCalls", spec := "couplingCalls", inPlace := ["internal/bytealg.abigen_runtime_cmpstring"], unfollowed := true, recurses := true, apart := false }
def CouplingCallsSaid : Prop := couplingCallsRow.holds Tryz.pinned (OpenSpec.ofChange couplingCallsSpec)

/-- ITS FALSE NEIGHBOUR: 'it returns false'. Refute it at one input. -/
def couplingCallsWrong : ChangeSpec := { name := "couplingCalls", fn := fun _ => fun
  | [d] => { results := [.lit (.bool false)], args := [d] }
  | _ => none }
def CouplingCallsWrongFalsely : Prop := couplingCallsRow.holds Tryz.pinned (OpenSpec.ofChange couplingCallsWrong)

/- THE SECOND FORM. 'bulk': how many values and letters a reading holds, each counted each time it is reached (what is shared counts as often as it is met; a slice's spare places count too). A statement '..UptoSaid' is the law's where the arguments, and the package variables that the reading takes, are together of bulk at most 1048576: NARROWER than '..Said'. Prove '..Said' where nothing that the law and all that it calls make is longer than what came in: it says more and counts as full. Else prove '..UptoSaid'. A law counts once. -/
mutual
def uptoBulk {H : Type} : DataW H → Nat
  | .lit (.string bytes) => bytes.length + 1
  | .lit _ => 1
  | .nil => 1
  | .ptr d => uptoBulk d + 1
  | .slice elems spare => uptoBulkAll elems + uptoBulkAll spare + 1
  | .agg parts => uptoBulkAll parts + 1
  | .iface _ d => uptoBulk d + 1
  | .map entries => uptoBulkEntries entries + 1
  | .held _ => 1
def uptoBulkAll {H : Type} : List (DataW H) → Nat
  | [] => 0
  | d :: r => uptoBulk d + uptoBulkAll r
def uptoBulkEntries {H : Type} : List (Lit × DataW H) → Nat
  | [] => 0
  | x :: r => uptoBulkEntry x + uptoBulkEntries r
def uptoBulkEntry {H : Type} : Lit × DataW H → Nat
  | (.string bytes, d) => bytes.length + uptoBulk d + 1
  | (_, d) => uptoBulk d + 1
 end
def uptoSmall : (H : Type) → List (DataW H) → Bool := fun _ ds => decide (uptoBulkAll ds ≤ 1048576)
def OpenSpec.upto (s : _root_.Go.ChangeSpec) : _root_.Go.OpenSpec := { _root_.Go.OpenSpec.ofChange s with cond := some uptoSmall }

/-- 'dasdlaw52.CouplingRetains', WHERE WHAT IT READS IS OF BULK AT MOST 1048576: true; the input reads as it did. -/
def couplingRetainsUptoRow : OpenClaim := { program := "ytjklhiifjnmedaagreat", sum := "46072ae30cac55743c807b640f2ce1b39dda07dd2778e807363b2230e4887146", func := "dasd/dasdlaw52.CouplingRetains", spec := "couplingRetains", inPlace := ["internal/bytealg.abigen_runtime_cmpstring"], unfollowed := true, recurses := true, apart := false, narrowed := true }
def CouplingRetainsUptoSaid : Prop := couplingRetainsUptoRow.holds Tryz.pinned (OpenSpec.upto couplingRetainsSpec)

/-- 'dasdlaw52.CouplingRebuilt', WHERE WHAT IT READS IS OF BULK AT MOST 1048576: true; the input reads as it did. -/
def couplingRebuiltUptoRow : OpenClaim := { program := "ytjklhiifjnmedaagreat", sum := "46072ae30cac55743c807b640f2ce1b39dda07dd2778e807363b2230e4887146", func := "dasd/dasdlaw52.CouplingRebuilt", spec := "couplingRebuilt", inPlace := ["internal/bytealg.abigen_runtime_cmpstring"], unfollowed := true, recurses := true, apart := false, narrowed := true }
def CouplingRebuiltUptoSaid : Prop := couplingRebuiltUptoRow.holds Tryz.pinned (OpenSpec.upto couplingRebuiltSpec)

/-- 'dasdlaw52.CouplingCalls', WHERE WHAT IT READS IS OF BULK AT MOST 1048576: true; the input reads as it did. -/
def couplingCallsUptoRow : OpenClaim := { program := "ytjklhiifjnmedaagreat", sum := "46072ae30cac55743c807b640f2ce1b39dda07dd2778e807363b2230e4887146", func := "dasd/dasdlaw52.CouplingCalls", spec := "couplingCalls", inPlace := ["internal/bytealg.abigen_runtime_cmpstring"], unfollowed := true, recurses := true, apart := false, narrowed := true }
def CouplingCallsUptoSaid : Prop := couplingCallsUptoRow.holds Tryz.pinned (OpenSpec.upto couplingCallsSpec)

end Rows
end Go.Proofs.YtjklhiifjnmedaaGreat
