/-
  No cell of these rows narrows 'for every input' (looked for: loops, veiled, ifaces, maps, wideKeys, modest, calm, conditions, laid).
  DERIVED. THE GIVEN ROWS OF THIS SEAT. 7 by the template 'for every input the law returns true; each argument reads behind the call as it read before'; 0 by the template 'total and deterministic' (their statements: YtekjghofkjlnaaaTotals.lean).
  GIVEN WITH THE SEED: the statements are not yours to turn. If you find one false, say at which input.
  Laid BY PROGRAM, IN A SANDBOX (cutbox-rows.mjs): the forced cells as the released guide's own fill.sh prints them over the translation 42997afcd835bf67… (all of the seat's roots in one cut). By AI agents, Wed Nov 11 2026. No macro, syntax, notation, axiom, sorry.
-/
import Derived.Test.YtekjghofkjlnaaaChecked
import GoSem.Claim
import GoSem.ClaimJoined
import GoSem.ClaimMapViews
import Derived.JoinedTies
import Derived.KernelRfl
namespace Go.Proofs.Ytekjghofkjlnaaa
/- THE CELL 'sum', in the pinned program and in every row, IS THE sha256 OF THE DUMP (.gsa) THAT YtekjghofkjlnaaaProg.lean LOADS. Nothing in Lean hashes anything: it is a label: what it is worth is what the hold of that sum in a sandbox is worth. -/
noncomputable def Try.pinned : Pinned := { name := "ytekjghofkjlnaaa", sum := "42997afcd835bf67bd96e9b38b71249c028c410a13d042cceca9c92b759da494", checked := Try.checked }
namespace Rows
def none {H : Type} : Left H := { results := [], args := [] }

/-- 'dasdlaw16.KeyNumbers': WHATEVER THE INPUT: true; the input reads as it did. -/
def keyNumbersSpec : ChangeSpec := { name := "keyNumbers", fn := fun _ => fun
  | [d1, d2, d3] => { results := [.lit (.bool true)], args := [d1, d2, d3] }
  | _ => none }
def keyNumbersRow : OpenClaim := { program := "ytekjghofkjlnaaa", sum := "42997afcd835bf67bd96e9b38b71249c028c410a13d042cceca9c92b759da494", func := "dasd/dasdlaw16.KeyNumbers", spec := "keyNumbers", unfollowed := true, recurses := true, apart := false }
def KeyNumbersSaid : Prop := keyNumbersRow.holds Try.pinned (OpenSpec.ofChange keyNumbersSpec)

/-- ITS FALSE NEIGHBOUR: 'it returns false'. Refute it at one input. -/
def keyNumbersWrong : ChangeSpec := { name := "keyNumbers", fn := fun _ => fun
  | [d1, d2, d3] => { results := [.lit (.bool false)], args := [d1, d2, d3] }
  | _ => none }
def KeyNumbersWrongFalsely : Prop := keyNumbersRow.holds Try.pinned (OpenSpec.ofChange keyNumbersWrong)

/-- 'dasdlaw16.KeySeparators': WHATEVER THE INPUT: true; the input reads as it did. -/
def keySeparatorsSpec : ChangeSpec := { name := "keySeparators", fn := fun _ => fun
  | [d1, d2] => { results := [.lit (.bool true)], args := [d1, d2] }
  | _ => none }
def keySeparatorsRow : OpenClaim := { program := "ytekjghofkjlnaaa", sum := "42997afcd835bf67bd96e9b38b71249c028c410a13d042cceca9c92b759da494", func := "dasd/dasdlaw16.KeySeparators", spec := "keySeparators", unfollowed := true, recurses := true, apart := false }
def KeySeparatorsSaid : Prop := keySeparatorsRow.holds Try.pinned (OpenSpec.ofChange keySeparatorsSpec)

/-- ITS FALSE NEIGHBOUR: 'it returns false'. Refute it at one input. -/
def keySeparatorsWrong : ChangeSpec := { name := "keySeparators", fn := fun _ => fun
  | [d1, d2] => { results := [.lit (.bool false)], args := [d1, d2] }
  | _ => none }
def KeySeparatorsWrongFalsely : Prop := keySeparatorsRow.holds Try.pinned (OpenSpec.ofChange keySeparatorsWrong)

/-- 'dasdlaw16.KeyHelly': WHATEVER THE INPUT: true; the input reads as it did. -/
def keyHellySpec : ChangeSpec := { name := "keyHelly", fn := fun _ => fun
  | [d1, d2, d3] => { results := [.lit (.bool true)], args := [d1, d2, d3] }
  | _ => none }
def keyHellyRow : OpenClaim := { program := "ytekjghofkjlnaaa", sum := "42997afcd835bf67bd96e9b38b71249c028c410a13d042cceca9c92b759da494", func := "dasd/dasdlaw16.KeyHelly", spec := "keyHelly", unfollowed := true, recurses := true, apart := false }
def KeyHellySaid : Prop := keyHellyRow.holds Try.pinned (OpenSpec.ofChange keyHellySpec)

/-- ITS FALSE NEIGHBOUR: 'it returns false'. Refute it at one input. -/
def keyHellyWrong : ChangeSpec := { name := "keyHelly", fn := fun _ => fun
  | [d1, d2, d3] => { results := [.lit (.bool false)], args := [d1, d2, d3] }
  | _ => none }
def KeyHellyWrongFalsely : Prop := keyHellyRow.holds Try.pinned (OpenSpec.ofChange keyHellyWrong)

/-- 'dasdlaw16.KeyDescriptions': WHATEVER THE INPUT: true; the input reads as it did. -/
def keyDescriptionsSpec : ChangeSpec := { name := "keyDescriptions", fn := fun _ => fun
  | [d1, d2] => { results := [.lit (.bool true)], args := [d1, d2] }
  | _ => none }
def keyDescriptionsRow : OpenClaim := { program := "ytekjghofkjlnaaa", sum := "42997afcd835bf67bd96e9b38b71249c028c410a13d042cceca9c92b759da494", func := "dasd/dasdlaw16.KeyDescriptions", spec := "keyDescriptions", unfollowed := true, recurses := true, apart := false }
def KeyDescriptionsSaid : Prop := keyDescriptionsRow.holds Try.pinned (OpenSpec.ofChange keyDescriptionsSpec)

/-- ITS FALSE NEIGHBOUR: 'it returns false'. Refute it at one input. -/
def keyDescriptionsWrong : ChangeSpec := { name := "keyDescriptions", fn := fun _ => fun
  | [d1, d2] => { results := [.lit (.bool false)], args := [d1, d2] }
  | _ => none }
def KeyDescriptionsWrongFalsely : Prop := keyDescriptionsRow.holds Try.pinned (OpenSpec.ofChange keyDescriptionsWrong)

/-- 'dasdlaw16.KeyAsks': WHATEVER THE INPUT: true; the input reads as it did. -/
def keyAsksSpec : ChangeSpec := { name := "keyAsks", fn := fun _ => fun
  | [d1, d2, d3] => { results := [.lit (.bool true)], args := [d1, d2, d3] }
  | _ => none }
def keyAsksRow : OpenClaim := { program := "ytekjghofkjlnaaa", sum := "42997afcd835bf67bd96e9b38b71249c028c410a13d042cceca9c92b759da494", func := "dasd/dasdlaw16.KeyAsks", spec := "keyAsks", unfollowed := true, recurses := true, apart := false }
def KeyAsksSaid : Prop := keyAsksRow.holds Try.pinned (OpenSpec.ofChange keyAsksSpec)

/-- ITS FALSE NEIGHBOUR: 'it returns false'. Refute it at one input. -/
def keyAsksWrong : ChangeSpec := { name := "keyAsks", fn := fun _ => fun
  | [d1, d2, d3] => { results := [.lit (.bool false)], args := [d1, d2, d3] }
  | _ => none }
def KeyAsksWrongFalsely : Prop := keyAsksRow.holds Try.pinned (OpenSpec.ofChange keyAsksWrong)

/-- 'dasdlaw16.KeyRanges': WHATEVER THE INPUT: true; the input reads as it did. -/
def keyRangesSpec : ChangeSpec := { name := "keyRanges", fn := fun _ => fun
  | [d1, d2, d3] => { results := [.lit (.bool true)], args := [d1, d2, d3] }
  | _ => none }
def keyRangesRow : OpenClaim := { program := "ytekjghofkjlnaaa", sum := "42997afcd835bf67bd96e9b38b71249c028c410a13d042cceca9c92b759da494", func := "dasd/dasdlaw16.KeyRanges", spec := "keyRanges", inPlace := ["internal/bytealg.abigen_runtime_cmpstring"], unfollowed := true, recurses := true, apart := false }
def KeyRangesSaid : Prop := keyRangesRow.holds Try.pinned (OpenSpec.ofChange keyRangesSpec)

/-- ITS FALSE NEIGHBOUR: 'it returns false'. Refute it at one input. -/
def keyRangesWrong : ChangeSpec := { name := "keyRanges", fn := fun _ => fun
  | [d1, d2, d3] => { results := [.lit (.bool false)], args := [d1, d2, d3] }
  | _ => none }
def KeyRangesWrongFalsely : Prop := keyRangesRow.holds Try.pinned (OpenSpec.ofChange keyRangesWrong)

/-- 'dasdlaw16.KeyMeets': WHATEVER THE INPUT: true; the input reads as it did. -/
def keyMeetsSpec : ChangeSpec := { name := "keyMeets", fn := fun _ => fun
  | [d1, d2, d3] => { results := [.lit (.bool true)], args := [d1, d2, d3] }
  | _ => none }
def keyMeetsRow : OpenClaim := { program := "ytekjghofkjlnaaa", sum := "42997afcd835bf67bd96e9b38b71249c028c410a13d042cceca9c92b759da494", func := "dasd/dasdlaw16.KeyMeets", spec := "keyMeets", inPlace := ["internal/bytealg.abigen_runtime_cmpstring"], unfollowed := true, recurses := true, apart := false }
def KeyMeetsSaid : Prop := keyMeetsRow.holds Try.pinned (OpenSpec.ofChange keyMeetsSpec)

/-- ITS FALSE NEIGHBOUR: 'it returns false'. Refute it at one input. -/
def keyMeetsWrong : ChangeSpec := { name := "keyMeets", fn := fun _ => fun
  | [d1, d2, d3] => { results := [.lit (.bool false)], args := [d1, d2, d3] }
  | _ => none }
def KeyMeetsWrongFalsely : Prop := keyMeetsRow.holds Try.pinned (OpenSpec.ofChange keyMeetsWrong)

/- THE SECOND FORM. 'bulk': how many values and letters a reading holds, each counted each time it is reached (what is shared counts as often as it is met; a slice's spare places count too). A statement '..UptoSaid' is the law's where the arguments, and the package variables that the reading takes, are together of bulk at most 1048576: NARROWER than '..Said'. Prove '..Said' where nothing that the law and all that it calls make is longer than what came in: it says more and counts as full. Else prove '..UptoSaid'. A law counts once. -/
mutual
def uptoBulk {H : Type} : DataW H → Nat
  | .lit (.string bytes) => bytes.length + 1
  | .lit _ => 1
  | .nil => 1
  | .ptr d => uptoBulk d + 1
  | .slice elems spare => uptoBulkAll elems + uptoBulkAll spare + 1
  | .agg parts => uptoBulkAll parts + 1
  | .iface _ d => uptoBulk d + 1
  | .map entries => uptoBulkEntries entries + 1
  | .held _ => 1
def uptoBulkAll {H : Type} : List (DataW H) → Nat
  | [] => 0
  | d :: r => uptoBulk d + uptoBulkAll r
def uptoBulkEntries {H : Type} : List (Lit × DataW H) → Nat
  | [] => 0
  | x :: r => uptoBulkEntry x + uptoBulkEntries r
def uptoBulkEntry {H : Type} : Lit × DataW H → Nat
  | (.string bytes, d) => bytes.length + uptoBulk d + 1
  | (_, d) => uptoBulk d + 1
 end
def uptoSmall : (H : Type) → List (DataW H) → Bool := fun _ ds => decide (uptoBulkAll ds ≤ 1048576)
def OpenSpec.upto (s : _root_.Go.ChangeSpec) : _root_.Go.OpenSpec := { _root_.Go.OpenSpec.ofChange s with cond := some uptoSmall }

/-- 'dasdlaw16.KeyNumbers', WHERE WHAT IT READS IS OF BULK AT MOST 1048576: true; the input reads as it did. -/
def keyNumbersUptoRow : OpenClaim := { program := "ytekjghofkjlnaaa", sum := "42997afcd835bf67bd96e9b38b71249c028c410a13d042cceca9c92b759da494", func := "dasd/dasdlaw16.KeyNumbers", spec := "keyNumbers", unfollowed := true, recurses := true, apart := false, narrowed := true }
def KeyNumbersUptoSaid : Prop := keyNumbersUptoRow.holds Try.pinned (OpenSpec.upto keyNumbersSpec)

/-- 'dasdlaw16.KeySeparators', WHERE WHAT IT READS IS OF BULK AT MOST 1048576: true; the input reads as it did. -/
def keySeparatorsUptoRow : OpenClaim := { program := "ytekjghofkjlnaaa", sum := "42997afcd835bf67bd96e9b38b71249c028c410a13d042cceca9c92b759da494", func := "dasd/dasdlaw16.KeySeparators", spec := "keySeparators", unfollowed := true, recurses := true, apart := false, narrowed := true }
def KeySeparatorsUptoSaid : Prop := keySeparatorsUptoRow.holds Try.pinned (OpenSpec.upto keySeparatorsSpec)

/-- 'dasdlaw16.KeyHelly', WHERE WHAT IT READS IS OF BULK AT MOST 1048576: true; the input reads as it did. -/
def keyHellyUptoRow : OpenClaim := { program := "ytekjghofkjlnaaa", sum := "42997afcd835bf67bd96e9b38b71249c028c410a13d042cceca9c92b759da494", func := "dasd/dasdlaw16.KeyHelly", spec := "keyHelly", unfollowed := true, recurses := true, apart := false, narrowed := true }
def KeyHellyUptoSaid : Prop := keyHellyUptoRow.holds Try.pinned (OpenSpec.upto keyHellySpec)

/-- 'dasdlaw16.KeyDescriptions', WHERE WHAT IT READS IS OF BULK AT MOST 1048576: true; the input reads as it did. -/
def keyDescriptionsUptoRow : OpenClaim := { program := "ytekjghofkjlnaaa", sum := "42997afcd835bf67bd96e9b38b71249c028c410a13d042cceca9c92b759da494", func := "dasd/dasdlaw16.KeyDescriptions", spec := "keyDescriptions", unfollowed := true, recurses := true, apart := false, narrowed := true }
def KeyDescriptionsUptoSaid : Prop := keyDescriptionsUptoRow.holds Try.pinned (OpenSpec.upto keyDescriptionsSpec)

/-- 'dasdlaw16.KeyAsks', WHERE WHAT IT READS IS OF BULK AT MOST 1048576: true; the input reads as it did. -/
def keyAsksUptoRow : OpenClaim := { program := "ytekjghofkjlnaaa", sum := "42997afcd835bf67bd96e9b38b71249c028c410a13d042cceca9c92b759da494", func := "dasd/dasdlaw16.KeyAsks", spec := "keyAsks", unfollowed := true, recurses := true, apart := false, narrowed := true }
def KeyAsksUptoSaid : Prop := keyAsksUptoRow.holds Try.pinned (OpenSpec.upto keyAsksSpec)

/-- 'dasdlaw16.KeyRanges', WHERE WHAT IT READS IS OF BULK AT MOST 1048576: true; the input reads as it did. -/
def keyRangesUptoRow : OpenClaim := { program := "ytekjghofkjlnaaa", sum := "42997afcd835bf67bd96e9b38b71249c028c410a13d042cceca9c92b759da494", func := "dasd/dasdlaw16.KeyRanges", spec := "keyRanges", inPlace := ["internal/bytealg.abigen_runtime_cmpstring"], unfollowed := true, recurses := true, apart := false, narrowed := true }
def KeyRangesUptoSaid : Prop := keyRangesUptoRow.holds Try.pinned (OpenSpec.upto keyRangesSpec)

/-- 'dasdlaw16.KeyMeets', WHERE WHAT IT READS IS OF BULK AT MOST 1048576: true; the input reads as it did. -/
def keyMeetsUptoRow : OpenClaim := { program := "ytekjghofkjlnaaa", sum := "42997afcd835bf67bd96e9b38b71249c028c410a13d042cceca9c92b759da494", func := "dasd/dasdlaw16.KeyMeets", spec := "keyMeets", inPlace := ["internal/bytealg.abigen_runtime_cmpstring"], unfollowed := true, recurses := true, apart := false, narrowed := true }
def KeyMeetsUptoSaid : Prop := keyMeetsUptoRow.holds Try.pinned (OpenSpec.upto keyMeetsSpec)

end Rows
end Go.Proofs.Ytekjghofkjlnaaa
