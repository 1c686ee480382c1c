/-
  NARROWER THAN 'FOR EVERY INPUT', by the rows' own cells (each row's printed sentence says how): EnqueueMoves: laid · EnqueueExclusive: laid · EnqueueOrder: laid · EnqueueFair: laid · EnqueueShares: laid · EnqueueRefuses: laid.
  DERIVED. THE GIVEN ROWS OF THIS SEAT. 6 by the template 'for every input the law returns true; each argument reads behind the call as it read before'; 0 by the template 'total and deterministic' (their statements: YtojbddcbnnbklaaDoorTotals.lean).
  GIVEN WITH THE SEED: the statements are not yours to turn. If you find one false, say at which input.
  Laid BY PROGRAM, IN A SANDBOX (cutbox-rows.mjs): the forced cells as the released guide's own fill.sh prints them over the translation 686a3186bfd477cd… (all of the seat's roots in one cut). By AI agents, Wed Nov 11 2026. No macro, syntax, notation, axiom, sorry.
-/
import Derived.Test.YtojbddcbnnbklaaDoorChecked
import GoSem.PinnedTables
import GoSem.Claim
import GoSem.ClaimJoined
import GoSem.ClaimMapViews
import Derived.JoinedTies
import Derived.KernelRfl
namespace Go.Proofs.YtojbddcbnnbklaaDoor
/- THE CELL 'sum', in the pinned program and in every row, IS THE sha256 OF THE DUMP (.gsa) THAT YtojbddcbnnbklaaDoorProg.lean LOADS. Nothing in Lean hashes anything: it is a label: what it is worth is what the hold of that sum in a sandbox is worth. -/
noncomputable def Tryd.pinned : Pinned := { name := "ytojbddcbnnbklaadoor", sum := "686a3186bfd477cd2dad41bc7de4a07ad1a184017391ce5fc8639b5ecc9eaf04", checked := Tryd.checked }
namespace Rows
def none {H : Type} : Left H := { results := [], args := [] }

/- WHAT THE LISTED PACKAGE-LEVEL VARIABLES READ AS WHEN THE CALL BEGINS. Each datum BY PROGRAM (the guide's laid-datum.mjs) off the statement by which the dump's own 'gosem.cut.vars' lays the variable. In a bare row this is a premise. The card (YtojbddcbnnbklaaDoorCards.lean) ties it to the program's text. -/
def laid_unicode_utf8_acceptRanges {H : Type} : DataW H := .agg [.agg [.lit (.int .u8 128), .lit (.int .u8 191)], .agg [.lit (.int .u8 160), .lit (.int .u8 191)], .agg [.lit (.int .u8 128), .lit (.int .u8 159)], .agg [.lit (.int .u8 144), .lit (.int .u8 191)], .agg [.lit (.int .u8 128), .lit (.int .u8 143)], .agg [.lit (.int .u8 0), .lit (.int .u8 0)], .agg [.lit (.int .u8 0), .lit (.int .u8 0)], .agg [.lit (.int .u8 0), .lit (.int .u8 0)], .agg [.lit (.int .u8 0), .lit (.int .u8 0)], .agg [.lit (.int .u8 0), .lit (.int .u8 0)], .agg [.lit (.int .u8 0), .lit (.int .u8 0)], .agg [.lit (.int .u8 0), .lit (.int .u8 0)], .agg [.lit (.int .u8 0), .lit (.int .u8 0)], .agg [.lit (.int .u8 0), .lit (.int .u8 0)], .agg [.lit (.int .u8 0), .lit (.int .u8 0)], .agg [.lit (.int .u8 0), .lit (.int .u8 0)]]
/-- One of Go's own tables, pinned by name: the form's constant. -/
def laid_unicode_utf8_first : DataW Unit := Go.Pinned.utf8First

/-- 'dasdlaw43.EnqueueMoves': WHATEVER THE INPUT: true; the input reads as it did. -/
def enqueueMovesSpec : ChangeSpec := { name := "enqueueMoves", fn := fun _ => fun
  | [d] => { results := [.lit (.bool true)], args := [d] }
  | _ => none }
def enqueueMovesRow : OpenClaim := { program := "ytojbddcbnnbklaadoor", sum := "686a3186bfd477cd2dad41bc7de4a07ad1a184017391ce5fc8639b5ecc9eaf04", func := "dasd/dasdlaw43.EnqueueMoves", spec := "enqueueMoves", inPlace := ["internal/bytealg.CountString", "internal/bytealg.IndexByteString", "internal/bytealg.IndexString"], unfollowed := true, recurses := true, named := ["unicode/utf8.first", "unicode/utf8.acceptRanges", "internal/bytealg.MaxLen"], apart := false, laid := [("unicode/utf8.acceptRanges", laid_unicode_utf8_acceptRanges), ("unicode/utf8.first", laid_unicode_utf8_first)] }
def EnqueueMovesSaid : Prop := enqueueMovesRow.holds Tryd.pinned (OpenSpec.ofChange enqueueMovesSpec)

/-- ITS FALSE NEIGHBOUR: 'it returns false'. Refute it at one input. -/
def enqueueMovesWrong : ChangeSpec := { name := "enqueueMoves", fn := fun _ => fun
  | [d] => { results := [.lit (.bool false)], args := [d] }
  | _ => none }
def EnqueueMovesWrongFalsely : Prop := enqueueMovesRow.holds Tryd.pinned (OpenSpec.ofChange enqueueMovesWrong)

/-- 'dasdlaw43.EnqueueExclusive': WHATEVER THE INPUT: true; the input reads as it did. -/
def enqueueExclusiveSpec : ChangeSpec := { name := "enqueueExclusive", fn := fun _ => fun
  | [d] => { results := [.lit (.bool true)], args := [d] }
  | _ => none }
def enqueueExclusiveRow : OpenClaim := { program := "ytojbddcbnnbklaadoor", sum := "686a3186bfd477cd2dad41bc7de4a07ad1a184017391ce5fc8639b5ecc9eaf04", func := "dasd/dasdlaw43.EnqueueExclusive", spec := "enqueueExclusive", inPlace := ["internal/bytealg.CountString", "internal/bytealg.IndexByteString", "internal/bytealg.IndexString"], unfollowed := true, recurses := true, named := ["unicode/utf8.first", "unicode/utf8.acceptRanges", "internal/bytealg.MaxLen"], apart := false, laid := [("unicode/utf8.acceptRanges", laid_unicode_utf8_acceptRanges), ("unicode/utf8.first", laid_unicode_utf8_first)] }
def EnqueueExclusiveSaid : Prop := enqueueExclusiveRow.holds Tryd.pinned (OpenSpec.ofChange enqueueExclusiveSpec)

/-- ITS FALSE NEIGHBOUR: 'it returns false'. Refute it at one input. -/
def enqueueExclusiveWrong : ChangeSpec := { name := "enqueueExclusive", fn := fun _ => fun
  | [d] => { results := [.lit (.bool false)], args := [d] }
  | _ => none }
def EnqueueExclusiveWrongFalsely : Prop := enqueueExclusiveRow.holds Tryd.pinned (OpenSpec.ofChange enqueueExclusiveWrong)

/-- 'dasdlaw43.EnqueueOrder': WHATEVER THE INPUT: true; the input reads as it did. -/
def enqueueOrderSpec : ChangeSpec := { name := "enqueueOrder", fn := fun _ => fun
  | [d] => { results := [.lit (.bool true)], args := [d] }
  | _ => none }
def enqueueOrderRow : OpenClaim := { program := "ytojbddcbnnbklaadoor", sum := "686a3186bfd477cd2dad41bc7de4a07ad1a184017391ce5fc8639b5ecc9eaf04", func := "dasd/dasdlaw43.EnqueueOrder", spec := "enqueueOrder", inPlace := ["internal/bytealg.CountString", "internal/bytealg.IndexByteString", "internal/bytealg.IndexString"], unfollowed := true, recurses := true, named := ["unicode/utf8.first", "unicode/utf8.acceptRanges", "internal/bytealg.MaxLen"], apart := false, laid := [("unicode/utf8.acceptRanges", laid_unicode_utf8_acceptRanges), ("unicode/utf8.first", laid_unicode_utf8_first)] }
def EnqueueOrderSaid : Prop := enqueueOrderRow.holds Tryd.pinned (OpenSpec.ofChange enqueueOrderSpec)

/-- ITS FALSE NEIGHBOUR: 'it returns false'. Refute it at one input. -/
def enqueueOrderWrong : ChangeSpec := { name := "enqueueOrder", fn := fun _ => fun
  | [d] => { results := [.lit (.bool false)], args := [d] }
  | _ => none }
def EnqueueOrderWrongFalsely : Prop := enqueueOrderRow.holds Tryd.pinned (OpenSpec.ofChange enqueueOrderWrong)

/-- 'dasdlaw43.EnqueueFair': WHATEVER THE INPUT: true; the input reads as it did. -/
def enqueueFairSpec : ChangeSpec := { name := "enqueueFair", fn := fun _ => fun
  | [d1, d2] => { results := [.lit (.bool true)], args := [d1, d2] }
  | _ => none }
def enqueueFairRow : OpenClaim := { program := "ytojbddcbnnbklaadoor", sum := "686a3186bfd477cd2dad41bc7de4a07ad1a184017391ce5fc8639b5ecc9eaf04", func := "dasd/dasdlaw43.EnqueueFair", spec := "enqueueFair", inPlace := ["internal/bytealg.CountString", "internal/bytealg.IndexByteString", "internal/bytealg.IndexString"], unfollowed := true, recurses := true, named := ["unicode/utf8.first", "unicode/utf8.acceptRanges", "internal/bytealg.MaxLen"], apart := false, laid := [("unicode/utf8.acceptRanges", laid_unicode_utf8_acceptRanges), ("unicode/utf8.first", laid_unicode_utf8_first)] }
def EnqueueFairSaid : Prop := enqueueFairRow.holds Tryd.pinned (OpenSpec.ofChange enqueueFairSpec)

/-- ITS FALSE NEIGHBOUR: 'it returns false'. Refute it at one input. -/
def enqueueFairWrong : ChangeSpec := { name := "enqueueFair", fn := fun _ => fun
  | [d1, d2] => { results := [.lit (.bool false)], args := [d1, d2] }
  | _ => none }
def EnqueueFairWrongFalsely : Prop := enqueueFairRow.holds Tryd.pinned (OpenSpec.ofChange enqueueFairWrong)

/-- 'dasdlaw43.EnqueueShares': WHATEVER THE INPUT: true; the input reads as it did. -/
def enqueueSharesSpec : ChangeSpec := { name := "enqueueShares", fn := fun _ => fun
  | [d1, d2, d3] => { results := [.lit (.bool true)], args := [d1, d2, d3] }
  | _ => none }
def enqueueSharesRow : OpenClaim := { program := "ytojbddcbnnbklaadoor", sum := "686a3186bfd477cd2dad41bc7de4a07ad1a184017391ce5fc8639b5ecc9eaf04", func := "dasd/dasdlaw43.EnqueueShares", spec := "enqueueShares", inPlace := ["internal/bytealg.CountString", "internal/bytealg.IndexByteString", "internal/bytealg.IndexString"], unfollowed := true, recurses := true, named := ["unicode/utf8.first", "unicode/utf8.acceptRanges", "internal/bytealg.MaxLen"], apart := false, laid := [("unicode/utf8.acceptRanges", laid_unicode_utf8_acceptRanges), ("unicode/utf8.first", laid_unicode_utf8_first)] }
def EnqueueSharesSaid : Prop := enqueueSharesRow.holds Tryd.pinned (OpenSpec.ofChange enqueueSharesSpec)

/-- ITS FALSE NEIGHBOUR: 'it returns false'. Refute it at one input. -/
def enqueueSharesWrong : ChangeSpec := { name := "enqueueShares", fn := fun _ => fun
  | [d1, d2, d3] => { results := [.lit (.bool false)], args := [d1, d2, d3] }
  | _ => none }
def EnqueueSharesWrongFalsely : Prop := enqueueSharesRow.holds Tryd.pinned (OpenSpec.ofChange enqueueSharesWrong)

/-- 'dasdlaw43.EnqueueRefuses': WHATEVER THE INPUT: true; the input reads as it did. -/
def enqueueRefusesSpec : ChangeSpec := { name := "enqueueRefuses", fn := fun _ => fun
  | [d1, d2] => { results := [.lit (.bool true)], args := [d1, d2] }
  | _ => none }
def enqueueRefusesRow : OpenClaim := { program := "ytojbddcbnnbklaadoor", sum := "686a3186bfd477cd2dad41bc7de4a07ad1a184017391ce5fc8639b5ecc9eaf04", func := "dasd/dasdlaw43.EnqueueRefuses", spec := "enqueueRefuses", inPlace := ["internal/bytealg.CountString", "internal/bytealg.IndexByteString", "internal/bytealg.IndexString", "maps.clone"], unfollowed := true, recurses := true, named := ["unicode/utf8.first", "unicode/utf8.acceptRanges", "internal/bytealg.MaxLen"], apart := false, laid := [("unicode/utf8.acceptRanges", laid_unicode_utf8_acceptRanges), ("unicode/utf8.first", laid_unicode_utf8_first)] }
def EnqueueRefusesSaid : Prop := enqueueRefusesRow.holds Tryd.pinned (OpenSpec.ofChange enqueueRefusesSpec)

/-- ITS FALSE NEIGHBOUR: 'it returns false'. Refute it at one input. -/
def enqueueRefusesWrong : ChangeSpec := { name := "enqueueRefuses", fn := fun _ => fun
  | [d1, d2] => { results := [.lit (.bool false)], args := [d1, d2] }
  | _ => none }
def EnqueueRefusesWrongFalsely : Prop := enqueueRefusesRow.holds Tryd.pinned (OpenSpec.ofChange enqueueRefusesWrong)

/- THE SECOND FORM. 'bulk': how many values and letters a reading holds, each counted each time it is reached (what is shared counts as often as it is met; a slice's spare places count too). A statement '..UptoSaid' is the law's where the arguments, and the package variables that the reading takes, are together of bulk at most 1048576: NARROWER than '..Said'. Prove '..Said' where nothing that the law and all that it calls make is longer than what came in: it says more and counts as full. Else prove '..UptoSaid'. A law counts once. -/
mutual
def uptoBulk {H : Type} : DataW H → Nat
  | .lit (.string bytes) => bytes.length + 1
  | .lit _ => 1
  | .nil => 1
  | .ptr d => uptoBulk d + 1
  | .slice elems spare => uptoBulkAll elems + uptoBulkAll spare + 1
  | .agg parts => uptoBulkAll parts + 1
  | .iface _ d => uptoBulk d + 1
  | .map entries => uptoBulkEntries entries + 1
  | .held _ => 1
def uptoBulkAll {H : Type} : List (DataW H) → Nat
  | [] => 0
  | d :: r => uptoBulk d + uptoBulkAll r
def uptoBulkEntries {H : Type} : List (Lit × DataW H) → Nat
  | [] => 0
  | x :: r => uptoBulkEntry x + uptoBulkEntries r
def uptoBulkEntry {H : Type} : Lit × DataW H → Nat
  | (.string bytes, d) => bytes.length + uptoBulk d + 1
  | (_, d) => uptoBulk d + 1
 end
def uptoSmall : (H : Type) → List (DataW H) → Bool := fun _ ds => decide (uptoBulkAll ds ≤ 1048576)
def OpenSpec.upto (s : _root_.Go.ChangeSpec) : _root_.Go.OpenSpec := { _root_.Go.OpenSpec.ofChange s with cond := some uptoSmall }

/-- 'dasdlaw43.EnqueueMoves', WHERE WHAT IT READS IS OF BULK AT MOST 1048576: true; the input reads as it did. -/
def enqueueMovesUptoRow : OpenClaim := { program := "ytojbddcbnnbklaadoor", sum := "686a3186bfd477cd2dad41bc7de4a07ad1a184017391ce5fc8639b5ecc9eaf04", func := "dasd/dasdlaw43.EnqueueMoves", spec := "enqueueMoves", inPlace := ["internal/bytealg.CountString", "internal/bytealg.IndexByteString", "internal/bytealg.IndexString"], unfollowed := true, recurses := true, named := ["unicode/utf8.first", "unicode/utf8.acceptRanges", "internal/bytealg.MaxLen"], apart := false, laid := [("unicode/utf8.acceptRanges", laid_unicode_utf8_acceptRanges), ("unicode/utf8.first", laid_unicode_utf8_first)], narrowed := true }
def EnqueueMovesUptoSaid : Prop := enqueueMovesUptoRow.holds Tryd.pinned (OpenSpec.upto enqueueMovesSpec)

/-- 'dasdlaw43.EnqueueExclusive', WHERE WHAT IT READS IS OF BULK AT MOST 1048576: true; the input reads as it did. -/
def enqueueExclusiveUptoRow : OpenClaim := { program := "ytojbddcbnnbklaadoor", sum := "686a3186bfd477cd2dad41bc7de4a07ad1a184017391ce5fc8639b5ecc9eaf04", func := "dasd/dasdlaw43.EnqueueExclusive", spec := "enqueueExclusive", inPlace := ["internal/bytealg.CountString", "internal/bytealg.IndexByteString", "internal/bytealg.IndexString"], unfollowed := true, recurses := true, named := ["unicode/utf8.first", "unicode/utf8.acceptRanges", "internal/bytealg.MaxLen"], apart := false, laid := [("unicode/utf8.acceptRanges", laid_unicode_utf8_acceptRanges), ("unicode/utf8.first", laid_unicode_utf8_first)], narrowed := true }
def EnqueueExclusiveUptoSaid : Prop := enqueueExclusiveUptoRow.holds Tryd.pinned (OpenSpec.upto enqueueExclusiveSpec)

/-- 'dasdlaw43.EnqueueOrder', WHERE WHAT IT READS IS OF BULK AT MOST 1048576: true; the input reads as it did. -/
def enqueueOrderUptoRow : OpenClaim := { program := "ytojbddcbnnbklaadoor", sum := "686a3186bfd477cd2dad41bc7de4a07ad1a184017391ce5fc8639b5ecc9eaf04", func := "dasd/dasdlaw43.EnqueueOrder", spec := "enqueueOrder", inPlace := ["internal/bytealg.CountString", "internal/bytealg.IndexByteString", "internal/bytealg.IndexString"], unfollowed := true, recurses := true, named := ["unicode/utf8.first", "unicode/utf8.acceptRanges", "internal/bytealg.MaxLen"], apart := false, laid := [("unicode/utf8.acceptRanges", laid_unicode_utf8_acceptRanges), ("unicode/utf8.first", laid_unicode_utf8_first)], narrowed := true }
def EnqueueOrderUptoSaid : Prop := enqueueOrderUptoRow.holds Tryd.pinned (OpenSpec.upto enqueueOrderSpec)

/-- 'dasdlaw43.EnqueueFair', WHERE WHAT IT READS IS OF BULK AT MOST 1048576: true; the input reads as it did. -/
def enqueueFairUptoRow : OpenClaim := { program := "ytojbddcbnnbklaadoor", sum := "686a3186bfd477cd2dad41bc7de4a07ad1a184017391ce5fc8639b5ecc9eaf04", func := "dasd/dasdlaw43.EnqueueFair", spec := "enqueueFair", inPlace := ["internal/bytealg.CountString", "internal/bytealg.IndexByteString", "internal/bytealg.IndexString"], unfollowed := true, recurses := true, named := ["unicode/utf8.first", "unicode/utf8.acceptRanges", "internal/bytealg.MaxLen"], apart := false, laid := [("unicode/utf8.acceptRanges", laid_unicode_utf8_acceptRanges), ("unicode/utf8.first", laid_unicode_utf8_first)], narrowed := true }
def EnqueueFairUptoSaid : Prop := enqueueFairUptoRow.holds Tryd.pinned (OpenSpec.upto enqueueFairSpec)

/-- 'dasdlaw43.EnqueueShares', WHERE WHAT IT READS IS OF BULK AT MOST 1048576: true; the input reads as it did. -/
def enqueueSharesUptoRow : OpenClaim := { program := "ytojbddcbnnbklaadoor", sum := "686a3186bfd477cd2dad41bc7de4a07ad1a184017391ce5fc8639b5ecc9eaf04", func := "dasd/dasdlaw43.EnqueueShares", spec := "enqueueShares", inPlace := ["internal/bytealg.CountString", "internal/bytealg.IndexByteString", "internal/bytealg.IndexString"], unfollowed := true, recurses := true, named := ["unicode/utf8.first", "unicode/utf8.acceptRanges", "internal/bytealg.MaxLen"], apart := false, laid := [("unicode/utf8.acceptRanges", laid_unicode_utf8_acceptRanges), ("unicode/utf8.first", laid_unicode_utf8_first)], narrowed := true }
def EnqueueSharesUptoSaid : Prop := enqueueSharesUptoRow.holds Tryd.pinned (OpenSpec.upto enqueueSharesSpec)

/-- 'dasdlaw43.EnqueueRefuses', WHERE WHAT IT READS IS OF BULK AT MOST 1048576: true; the input reads as it did. -/
def enqueueRefusesUptoRow : OpenClaim := { program := "ytojbddcbnnbklaadoor", sum := "686a3186bfd477cd2dad41bc7de4a07ad1a184017391ce5fc8639b5ecc9eaf04", func := "dasd/dasdlaw43.EnqueueRefuses", spec := "enqueueRefuses", inPlace := ["internal/bytealg.CountString", "internal/bytealg.IndexByteString", "internal/bytealg.IndexString", "maps.clone"], unfollowed := true, recurses := true, named := ["unicode/utf8.first", "unicode/utf8.acceptRanges", "internal/bytealg.MaxLen"], apart := false, laid := [("unicode/utf8.acceptRanges", laid_unicode_utf8_acceptRanges), ("unicode/utf8.first", laid_unicode_utf8_first)], narrowed := true }
def EnqueueRefusesUptoSaid : Prop := enqueueRefusesUptoRow.holds Tryd.pinned (OpenSpec.upto enqueueRefusesSpec)

end Rows
end Go.Proofs.YtojbddcbnnbklaaDoor
