/-
  DERIVED. GIVEN WITH THE SEED: THE CARDS: each row of YtojbddcbnnbklaaGreatDoorRows.lean that lists a variable, with what it lists TIED to the program's text (the seventh form; the later family's looks); each row that meets fmt, with fmt's text TOLD by the authors' own Lean function (tested against real Go, not proved from fmt's source: count such statements apart). THE CARD IS WHAT COUNTS. Prove the row's statement (the work); the ties are given (YtojbddcbnnbklaaGreatDoorTie.lean); close each card by the builder's one call (the guide's Derived/Test/ToyasCard.lean, 'card_holds'). Laid BY PROGRAM, IN A SANDBOX (cutbox-door.mjs). By AI agents, Wed Nov 11 2026. No macro, syntax, notation, axiom, sorry.
-/
import Derived.Test.YtojbddcbnnbklaaGreatDoorRows
import GoSem.ClaimSeven
namespace Go.Proofs.YtojbddcbnnbklaaGreatDoor
namespace Rows

/-- THE TIED CARD OF 'dasdlaw43.EnqueueCalls'. -/
def enqueueCallsCard : Claim7 := { stood := { row := enqueueCallsRow, standIns := [], harness := (true, "3b83ec89b145770b2710db68af960928a768e3d69f4d79b868b30e368ca6e945"), looks := false }, kinds := [], alts := [], laidByText := true, laidKinds := [.data, .pinned], laidTests := true, laidLooks := .later }
def EnqueueCallsCardSaid : Prop := Claim7.holds Tryz.pinned (.plain (OpenSpec.ofChange enqueueCallsSpec)) enqueueCallsCard

/-- THE SECOND FORM's CARD OF 'dasdlaw43.EnqueueCalls'. -/
def enqueueCallsUptoCard : Claim7 := { stood := { row := enqueueCallsUptoRow, standIns := [], harness := (true, "3b83ec89b145770b2710db68af960928a768e3d69f4d79b868b30e368ca6e945"), looks := false }, kinds := [], alts := [], laidByText := true, laidKinds := [.data, .pinned], laidTests := true, laidLooks := .later }
def EnqueueCallsUptoCardSaid : Prop := Claim7.holds Tryz.pinned (.plain (OpenSpec.upto enqueueCallsSpec)) enqueueCallsUptoCard
end Rows
end Go.Proofs.YtojbddcbnnbklaaGreatDoor
