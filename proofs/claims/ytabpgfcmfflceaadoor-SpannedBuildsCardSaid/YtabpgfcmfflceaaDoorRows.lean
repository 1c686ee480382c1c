/-
  NARROWER THAN 'FOR EVERY INPUT', by the rows' own cells (each row's printed sentence says how): SpannedPacks: laid · SpannedSegments: laid · SpannedFull: laid · SpannedAppends: laid · SpannedBuilds: laid · SpannedJoins: laid · SpannedReturns: laid · SpannedStrict: laid.
  DERIVED. THE GIVEN ROWS OF THIS SEAT. 8 by the template 'for every input the law returns true; each argument reads behind the call as it read before'; 0 by the template 'total and deterministic' (their statements: YtabpgfcmfflceaaDoorTotals.lean).
  GIVEN WITH THE SEED: the statements are not yours to turn. If you find one false, say at which input.
  Laid BY PROGRAM, IN A SANDBOX (cutbox-rows.mjs): the forced cells as the released guide's own fill.sh prints them over the translation 4735af1e3e3f01d0… (all of the seat's roots in one cut). By AI agents, Wed Nov 11 2026. No macro, syntax, notation, axiom, sorry.
-/
import Derived.Test.YtabpgfcmfflceaaDoorChecked
import GoSem.Claim
import GoSem.ClaimJoined
import GoSem.ClaimMapViews
import Derived.JoinedTies
import Derived.KernelRfl
namespace Go.Proofs.YtabpgfcmfflceaaDoor
/- THE CELL 'sum', in the pinned program and in every row, IS THE sha256 OF THE DUMP (.gsa) THAT YtabpgfcmfflceaaDoorProg.lean LOADS. Nothing in Lean hashes anything: it is a label: what it is worth is what the hold of that sum in a sandbox is worth. -/
noncomputable def Tryd.pinned : Pinned := { name := "ytabpgfcmfflceaadoor", sum := "4735af1e3e3f01d025ab923b7b4efbed9786b7747d653e5aa50f68887b8b6dcd", checked := Tryd.checked }
namespace Rows
def none {H : Type} : Left H := { results := [], args := [] }

/- WHAT THE LISTED PACKAGE-LEVEL VARIABLES READ AS WHEN THE CALL BEGINS. Each datum BY PROGRAM (the guide's laid-datum.mjs) off the statement by which the dump's own 'gosem.cut.vars' lays the variable. In a bare row this is a premise. The card (YtabpgfcmfflceaaDoorCards.lean) ties it to the program's text. -/
def laid_dasd_spanned_codes {H : Type} : DataW H := .agg [.agg [.lit (.bool false), .lit (.bool false)], .agg [.lit (.bool false), .lit (.bool true)], .agg [.lit (.bool true), .lit (.bool false)], .agg [.lit (.bool true), .lit (.bool true)]]

/-- 'dasdlaw12.SpannedPacks': WHATEVER THE INPUT: true; the input reads as it did. -/
def spannedPacksSpec : ChangeSpec := { name := "spannedPacks", fn := fun _ => fun
  | [d1, d2, d3] => { results := [.lit (.bool true)], args := [d1, d2, d3] }
  | _ => none }
def spannedPacksRow : OpenClaim := { program := "ytabpgfcmfflceaadoor", sum := "4735af1e3e3f01d025ab923b7b4efbed9786b7747d653e5aa50f68887b8b6dcd", func := "dasd/dasdlaw12.SpannedPacks", spec := "spannedPacks", unfollowed := true, recurses := true, named := ["dasd/spanned.codes"], apart := false, laid := [("dasd/spanned.codes", laid_dasd_spanned_codes)] }
def SpannedPacksSaid : Prop := spannedPacksRow.holds Tryd.pinned (OpenSpec.ofChange spannedPacksSpec)

/-- ITS FALSE NEIGHBOUR: 'it returns false'. Refute it at one input. -/
def spannedPacksWrong : ChangeSpec := { name := "spannedPacks", fn := fun _ => fun
  | [d1, d2, d3] => { results := [.lit (.bool false)], args := [d1, d2, d3] }
  | _ => none }
def SpannedPacksWrongFalsely : Prop := spannedPacksRow.holds Tryd.pinned (OpenSpec.ofChange spannedPacksWrong)

/-- 'dasdlaw12.SpannedSegments': WHATEVER THE INPUT: true; the input reads as it did. -/
def spannedSegmentsSpec : ChangeSpec := { name := "spannedSegments", fn := fun _ => fun
  | [d1, d2, d3] => { results := [.lit (.bool true)], args := [d1, d2, d3] }
  | _ => none }
def spannedSegmentsRow : OpenClaim := { program := "ytabpgfcmfflceaadoor", sum := "4735af1e3e3f01d025ab923b7b4efbed9786b7747d653e5aa50f68887b8b6dcd", func := "dasd/dasdlaw12.SpannedSegments", spec := "spannedSegments", unfollowed := true, recurses := true, named := ["dasd/spanned.codes"], apart := false, laid := [("dasd/spanned.codes", laid_dasd_spanned_codes)] }
def SpannedSegmentsSaid : Prop := spannedSegmentsRow.holds Tryd.pinned (OpenSpec.ofChange spannedSegmentsSpec)

/-- ITS FALSE NEIGHBOUR: 'it returns false'. Refute it at one input. -/
def spannedSegmentsWrong : ChangeSpec := { name := "spannedSegments", fn := fun _ => fun
  | [d1, d2, d3] => { results := [.lit (.bool false)], args := [d1, d2, d3] }
  | _ => none }
def SpannedSegmentsWrongFalsely : Prop := spannedSegmentsRow.holds Tryd.pinned (OpenSpec.ofChange spannedSegmentsWrong)

/-- 'dasdlaw12.SpannedFull': WHATEVER THE INPUT: true; the input reads as it did. -/
def spannedFullSpec : ChangeSpec := { name := "spannedFull", fn := fun _ => fun
  | [d1, d2, d3] => { results := [.lit (.bool true)], args := [d1, d2, d3] }
  | _ => none }
def spannedFullRow : OpenClaim := { program := "ytabpgfcmfflceaadoor", sum := "4735af1e3e3f01d025ab923b7b4efbed9786b7747d653e5aa50f68887b8b6dcd", func := "dasd/dasdlaw12.SpannedFull", spec := "spannedFull", unfollowed := true, recurses := true, named := ["dasd/spanned.codes"], apart := false, laid := [("dasd/spanned.codes", laid_dasd_spanned_codes)] }
def SpannedFullSaid : Prop := spannedFullRow.holds Tryd.pinned (OpenSpec.ofChange spannedFullSpec)

/-- ITS FALSE NEIGHBOUR: 'it returns false'. Refute it at one input. -/
def spannedFullWrong : ChangeSpec := { name := "spannedFull", fn := fun _ => fun
  | [d1, d2, d3] => { results := [.lit (.bool false)], args := [d1, d2, d3] }
  | _ => none }
def SpannedFullWrongFalsely : Prop := spannedFullRow.holds Tryd.pinned (OpenSpec.ofChange spannedFullWrong)

/-- 'dasdlaw12.SpannedAppends': WHATEVER THE INPUT: true; the input reads as it did. -/
def spannedAppendsSpec : ChangeSpec := { name := "spannedAppends", fn := fun _ => fun
  | [d1, d2, d3, d4] => { results := [.lit (.bool true)], args := [d1, d2, d3, d4] }
  | _ => none }
def spannedAppendsRow : OpenClaim := { program := "ytabpgfcmfflceaadoor", sum := "4735af1e3e3f01d025ab923b7b4efbed9786b7747d653e5aa50f68887b8b6dcd", func := "dasd/dasdlaw12.SpannedAppends", spec := "spannedAppends", unfollowed := true, recurses := true, named := ["dasd/spanned.codes"], apart := false, laid := [("dasd/spanned.codes", laid_dasd_spanned_codes)] }
def SpannedAppendsSaid : Prop := spannedAppendsRow.holds Tryd.pinned (OpenSpec.ofChange spannedAppendsSpec)

/-- ITS FALSE NEIGHBOUR: 'it returns false'. Refute it at one input. -/
def spannedAppendsWrong : ChangeSpec := { name := "spannedAppends", fn := fun _ => fun
  | [d1, d2, d3, d4] => { results := [.lit (.bool false)], args := [d1, d2, d3, d4] }
  | _ => none }
def SpannedAppendsWrongFalsely : Prop := spannedAppendsRow.holds Tryd.pinned (OpenSpec.ofChange spannedAppendsWrong)

/-- 'dasdlaw12.SpannedBuilds': WHATEVER THE INPUT: true; the input reads as it did. -/
def spannedBuildsSpec : ChangeSpec := { name := "spannedBuilds", fn := fun _ => fun
  | [d1, d2, d3] => { results := [.lit (.bool true)], args := [d1, d2, d3] }
  | _ => none }
def spannedBuildsRow : OpenClaim := { program := "ytabpgfcmfflceaadoor", sum := "4735af1e3e3f01d025ab923b7b4efbed9786b7747d653e5aa50f68887b8b6dcd", func := "dasd/dasdlaw12.SpannedBuilds", spec := "spannedBuilds", unfollowed := true, recurses := true, named := ["dasd/spanned.codes"], apart := false, laid := [("dasd/spanned.codes", laid_dasd_spanned_codes)] }
def SpannedBuildsSaid : Prop := spannedBuildsRow.holds Tryd.pinned (OpenSpec.ofChange spannedBuildsSpec)

/-- ITS FALSE NEIGHBOUR: 'it returns false'. Refute it at one input. -/
def spannedBuildsWrong : ChangeSpec := { name := "spannedBuilds", fn := fun _ => fun
  | [d1, d2, d3] => { results := [.lit (.bool false)], args := [d1, d2, d3] }
  | _ => none }
def SpannedBuildsWrongFalsely : Prop := spannedBuildsRow.holds Tryd.pinned (OpenSpec.ofChange spannedBuildsWrong)

/-- 'dasdlaw12.SpannedJoins': WHATEVER THE INPUT: true; the input reads as it did. -/
def spannedJoinsSpec : ChangeSpec := { name := "spannedJoins", fn := fun _ => fun
  | [d1, d2, d3, d4] => { results := [.lit (.bool true)], args := [d1, d2, d3, d4] }
  | _ => none }
def spannedJoinsRow : OpenClaim := { program := "ytabpgfcmfflceaadoor", sum := "4735af1e3e3f01d025ab923b7b4efbed9786b7747d653e5aa50f68887b8b6dcd", func := "dasd/dasdlaw12.SpannedJoins", spec := "spannedJoins", unfollowed := true, recurses := true, named := ["dasd/spanned.codes"], apart := false, laid := [("dasd/spanned.codes", laid_dasd_spanned_codes)] }
def SpannedJoinsSaid : Prop := spannedJoinsRow.holds Tryd.pinned (OpenSpec.ofChange spannedJoinsSpec)

/-- ITS FALSE NEIGHBOUR: 'it returns false'. Refute it at one input. -/
def spannedJoinsWrong : ChangeSpec := { name := "spannedJoins", fn := fun _ => fun
  | [d1, d2, d3, d4] => { results := [.lit (.bool false)], args := [d1, d2, d3, d4] }
  | _ => none }
def SpannedJoinsWrongFalsely : Prop := spannedJoinsRow.holds Tryd.pinned (OpenSpec.ofChange spannedJoinsWrong)

/-- 'dasdlaw12.SpannedReturns': WHATEVER THE INPUT: true; the input reads as it did. -/
def spannedReturnsSpec : ChangeSpec := { name := "spannedReturns", fn := fun _ => fun
  | [d1, d2, d3] => { results := [.lit (.bool true)], args := [d1, d2, d3] }
  | _ => none }
def spannedReturnsRow : OpenClaim := { program := "ytabpgfcmfflceaadoor", sum := "4735af1e3e3f01d025ab923b7b4efbed9786b7747d653e5aa50f68887b8b6dcd", func := "dasd/dasdlaw12.SpannedReturns", spec := "spannedReturns", unfollowed := true, recurses := true, named := ["dasd/spanned.codes"], apart := false, laid := [("dasd/spanned.codes", laid_dasd_spanned_codes)] }
def SpannedReturnsSaid : Prop := spannedReturnsRow.holds Tryd.pinned (OpenSpec.ofChange spannedReturnsSpec)

/-- ITS FALSE NEIGHBOUR: 'it returns false'. Refute it at one input. -/
def spannedReturnsWrong : ChangeSpec := { name := "spannedReturns", fn := fun _ => fun
  | [d1, d2, d3] => { results := [.lit (.bool false)], args := [d1, d2, d3] }
  | _ => none }
def SpannedReturnsWrongFalsely : Prop := spannedReturnsRow.holds Tryd.pinned (OpenSpec.ofChange spannedReturnsWrong)

/-- 'dasdlaw12.SpannedStrict': WHATEVER THE INPUT: true; the input reads as it did. -/
def spannedStrictSpec : ChangeSpec := { name := "spannedStrict", fn := fun _ => fun
  | [d1, d2, d3] => { results := [.lit (.bool true)], args := [d1, d2, d3] }
  | _ => none }
def spannedStrictRow : OpenClaim := { program := "ytabpgfcmfflceaadoor", sum := "4735af1e3e3f01d025ab923b7b4efbed9786b7747d653e5aa50f68887b8b6dcd", func := "dasd/dasdlaw12.SpannedStrict", spec := "spannedStrict", unfollowed := true, recurses := true, named := ["dasd/spanned.codes"], apart := false, laid := [("dasd/spanned.codes", laid_dasd_spanned_codes)] }
def SpannedStrictSaid : Prop := spannedStrictRow.holds Tryd.pinned (OpenSpec.ofChange spannedStrictSpec)

/-- ITS FALSE NEIGHBOUR: 'it returns false'. Refute it at one input. -/
def spannedStrictWrong : ChangeSpec := { name := "spannedStrict", fn := fun _ => fun
  | [d1, d2, d3] => { results := [.lit (.bool false)], args := [d1, d2, d3] }
  | _ => none }
def SpannedStrictWrongFalsely : Prop := spannedStrictRow.holds Tryd.pinned (OpenSpec.ofChange spannedStrictWrong)

/- THE SECOND FORM. 'bulk': how many values and letters a reading holds, each counted each time it is reached (what is shared counts as often as it is met; a slice's spare places count too). A statement '..UptoSaid' is the law's where the arguments, and the package variables that the reading takes, are together of bulk at most 1048576: NARROWER than '..Said'. Prove '..Said' where nothing that the law and all that it calls make is longer than what came in: it says more and counts as full. Else prove '..UptoSaid'. A law counts once. -/
mutual
def uptoBulk {H : Type} : DataW H → Nat
  | .lit (.string bytes) => bytes.length + 1
  | .lit _ => 1
  | .nil => 1
  | .ptr d => uptoBulk d + 1
  | .slice elems spare => uptoBulkAll elems + uptoBulkAll spare + 1
  | .agg parts => uptoBulkAll parts + 1
  | .iface _ d => uptoBulk d + 1
  | .map entries => uptoBulkEntries entries + 1
  | .held _ => 1
def uptoBulkAll {H : Type} : List (DataW H) → Nat
  | [] => 0
  | d :: r => uptoBulk d + uptoBulkAll r
def uptoBulkEntries {H : Type} : List (Lit × DataW H) → Nat
  | [] => 0
  | x :: r => uptoBulkEntry x + uptoBulkEntries r
def uptoBulkEntry {H : Type} : Lit × DataW H → Nat
  | (.string bytes, d) => bytes.length + uptoBulk d + 1
  | (_, d) => uptoBulk d + 1
 end
def uptoSmall : (H : Type) → List (DataW H) → Bool := fun _ ds => decide (uptoBulkAll ds ≤ 1048576)
def OpenSpec.upto (s : _root_.Go.ChangeSpec) : _root_.Go.OpenSpec := { _root_.Go.OpenSpec.ofChange s with cond := some uptoSmall }

/-- 'dasdlaw12.SpannedPacks', WHERE WHAT IT READS IS OF BULK AT MOST 1048576: true; the input reads as it did. -/
def spannedPacksUptoRow : OpenClaim := { program := "ytabpgfcmfflceaadoor", sum := "4735af1e3e3f01d025ab923b7b4efbed9786b7747d653e5aa50f68887b8b6dcd", func := "dasd/dasdlaw12.SpannedPacks", spec := "spannedPacks", unfollowed := true, recurses := true, named := ["dasd/spanned.codes"], apart := false, laid := [("dasd/spanned.codes", laid_dasd_spanned_codes)], narrowed := true }
def SpannedPacksUptoSaid : Prop := spannedPacksUptoRow.holds Tryd.pinned (OpenSpec.upto spannedPacksSpec)

/-- 'dasdlaw12.SpannedSegments', WHERE WHAT IT READS IS OF BULK AT MOST 1048576: true; the input reads as it did. -/
def spannedSegmentsUptoRow : OpenClaim := { program := "ytabpgfcmfflceaadoor", sum := "4735af1e3e3f01d025ab923b7b4efbed9786b7747d653e5aa50f68887b8b6dcd", func := "dasd/dasdlaw12.SpannedSegments", spec := "spannedSegments", unfollowed := true, recurses := true, named := ["dasd/spanned.codes"], apart := false, laid := [("dasd/spanned.codes", laid_dasd_spanned_codes)], narrowed := true }
def SpannedSegmentsUptoSaid : Prop := spannedSegmentsUptoRow.holds Tryd.pinned (OpenSpec.upto spannedSegmentsSpec)

/-- 'dasdlaw12.SpannedFull', WHERE WHAT IT READS IS OF BULK AT MOST 1048576: true; the input reads as it did. -/
def spannedFullUptoRow : OpenClaim := { program := "ytabpgfcmfflceaadoor", sum := "4735af1e3e3f01d025ab923b7b4efbed9786b7747d653e5aa50f68887b8b6dcd", func := "dasd/dasdlaw12.SpannedFull", spec := "spannedFull", unfollowed := true, recurses := true, named := ["dasd/spanned.codes"], apart := false, laid := [("dasd/spanned.codes", laid_dasd_spanned_codes)], narrowed := true }
def SpannedFullUptoSaid : Prop := spannedFullUptoRow.holds Tryd.pinned (OpenSpec.upto spannedFullSpec)

/-- 'dasdlaw12.SpannedAppends', WHERE WHAT IT READS IS OF BULK AT MOST 1048576: true; the input reads as it did. -/
def spannedAppendsUptoRow : OpenClaim := { program := "ytabpgfcmfflceaadoor", sum := "4735af1e3e3f01d025ab923b7b4efbed9786b7747d653e5aa50f68887b8b6dcd", func := "dasd/dasdlaw12.SpannedAppends", spec := "spannedAppends", unfollowed := true, recurses := true, named := ["dasd/spanned.codes"], apart := false, laid := [("dasd/spanned.codes", laid_dasd_spanned_codes)], narrowed := true }
def SpannedAppendsUptoSaid : Prop := spannedAppendsUptoRow.holds Tryd.pinned (OpenSpec.upto spannedAppendsSpec)

/-- 'dasdlaw12.SpannedBuilds', WHERE WHAT IT READS IS OF BULK AT MOST 1048576: true; the input reads as it did. -/
def spannedBuildsUptoRow : OpenClaim := { program := "ytabpgfcmfflceaadoor", sum := "4735af1e3e3f01d025ab923b7b4efbed9786b7747d653e5aa50f68887b8b6dcd", func := "dasd/dasdlaw12.SpannedBuilds", spec := "spannedBuilds", unfollowed := true, recurses := true, named := ["dasd/spanned.codes"], apart := false, laid := [("dasd/spanned.codes", laid_dasd_spanned_codes)], narrowed := true }
def SpannedBuildsUptoSaid : Prop := spannedBuildsUptoRow.holds Tryd.pinned (OpenSpec.upto spannedBuildsSpec)

/-- 'dasdlaw12.SpannedJoins', WHERE WHAT IT READS IS OF BULK AT MOST 1048576: true; the input reads as it did. -/
def spannedJoinsUptoRow : OpenClaim := { program := "ytabpgfcmfflceaadoor", sum := "4735af1e3e3f01d025ab923b7b4efbed9786b7747d653e5aa50f68887b8b6dcd", func := "dasd/dasdlaw12.SpannedJoins", spec := "spannedJoins", unfollowed := true, recurses := true, named := ["dasd/spanned.codes"], apart := false, laid := [("dasd/spanned.codes", laid_dasd_spanned_codes)], narrowed := true }
def SpannedJoinsUptoSaid : Prop := spannedJoinsUptoRow.holds Tryd.pinned (OpenSpec.upto spannedJoinsSpec)

/-- 'dasdlaw12.SpannedReturns', WHERE WHAT IT READS IS OF BULK AT MOST 1048576: true; the input reads as it did. -/
def spannedReturnsUptoRow : OpenClaim := { program := "ytabpgfcmfflceaadoor", sum := "4735af1e3e3f01d025ab923b7b4efbed9786b7747d653e5aa50f68887b8b6dcd", func := "dasd/dasdlaw12.SpannedReturns", spec := "spannedReturns", unfollowed := true, recurses := true, named := ["dasd/spanned.codes"], apart := false, laid := [("dasd/spanned.codes", laid_dasd_spanned_codes)], narrowed := true }
def SpannedReturnsUptoSaid : Prop := spannedReturnsUptoRow.holds Tryd.pinned (OpenSpec.upto spannedReturnsSpec)

/-- 'dasdlaw12.SpannedStrict', WHERE WHAT IT READS IS OF BULK AT MOST 1048576: true; the input reads as it did. -/
def spannedStrictUptoRow : OpenClaim := { program := "ytabpgfcmfflceaadoor", sum := "4735af1e3e3f01d025ab923b7b4efbed9786b7747d653e5aa50f68887b8b6dcd", func := "dasd/dasdlaw12.SpannedStrict", spec := "spannedStrict", unfollowed := true, recurses := true, named := ["dasd/spanned.codes"], apart := false, laid := [("dasd/spanned.codes", laid_dasd_spanned_codes)], narrowed := true }
def SpannedStrictUptoSaid : Prop := spannedStrictUptoRow.holds Tryd.pinned (OpenSpec.upto spannedStrictSpec)

end Rows
end Go.Proofs.YtabpgfcmfflceaaDoor
