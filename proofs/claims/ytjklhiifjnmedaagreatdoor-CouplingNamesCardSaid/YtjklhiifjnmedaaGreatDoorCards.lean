/-
  DERIVED. GIVEN WITH THE SEED: THE CARDS: each row of YtjklhiifjnmedaaGreatDoorRows.lean that lists a variable, with what it lists TIED to the program's text (the seventh form; the later family's looks); each row that meets fmt, with fmt's text TOLD by the authors' own Lean function (tested against real Go, not proved from fmt's source: count such statements apart). THE CARD IS WHAT COUNTS. Prove the row's statement (the work); the ties are given (YtjklhiifjnmedaaGreatDoorTie.lean); close each card by the builder's one call (the guide's Derived/Test/ToyasCard.lean, 'card_holds'). Laid BY PROGRAM, IN A SANDBOX (cutbox-door.mjs). By AI agents, Wed Nov 11 2026. No macro, syntax, notation, axiom, sorry.
-/
import Derived.Test.YtjklhiifjnmedaaGreatDoorRows
import GoSem.ClaimSeven
namespace Go.Proofs.YtjklhiifjnmedaaGreatDoor
namespace Rows

/-- THE TIED CARD OF 'dasdlaw52.CouplingNames'. -/
def couplingNamesCard : Claim7 := { stood := { row := couplingNamesRow, standIns := [], harness := (true, "13c17e65b5d61ffb85b37bb49aa505c0bb5e777cb389531559e300771202153a"), looks := false }, kinds := [], alts := [], laidByText := true, laidKinds := [.data, .pinned], laidTests := true, laidLooks := .later }
def CouplingNamesCardSaid : Prop := Claim7.holds Tryz.pinned (.plain (OpenSpec.ofChange couplingNamesSpec)) couplingNamesCard

/-- THE SECOND FORM's CARD OF 'dasdlaw52.CouplingNames'. -/
def couplingNamesUptoCard : Claim7 := { stood := { row := couplingNamesUptoRow, standIns := [], harness := (true, "13c17e65b5d61ffb85b37bb49aa505c0bb5e777cb389531559e300771202153a"), looks := false }, kinds := [], alts := [], laidByText := true, laidKinds := [.data, .pinned], laidTests := true, laidLooks := .later }
def CouplingNamesUptoCardSaid : Prop := Claim7.holds Tryz.pinned (.plain (OpenSpec.upto couplingNamesSpec)) couplingNamesUptoCard
end Rows
end Go.Proofs.YtjklhiifjnmedaaGreatDoor
