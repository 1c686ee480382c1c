/-
  DERIVED. GIVEN WITH THE SEED: THE CARDS: each row of YtojbddcbnnbklaaDoorRows.lean that lists a variable, with what it lists TIED to the program's text (the seventh form; the later family's looks); each row that meets fmt, with fmt's text TOLD by the authors' own Lean function (tested against real Go, not proved from fmt's source: count such statements apart). THE CARD IS WHAT COUNTS. Prove the row's statement (the work); the ties are given (YtojbddcbnnbklaaDoorTie.lean); close each card by the builder's one call (the guide's Derived/Test/ToyasCard.lean, 'card_holds'). Laid BY PROGRAM, IN A SANDBOX (cutbox-door.mjs). By AI agents, Wed Nov 11 2026. No macro, syntax, notation, axiom, sorry.
-/
import Derived.Test.YtojbddcbnnbklaaDoorRows
import GoSem.ClaimSeven
namespace Go.Proofs.YtojbddcbnnbklaaDoor
namespace Rows

/-- THE TIED CARD OF 'dasdlaw43.EnqueueMoves'. -/
def enqueueMovesCard : Claim7 := { stood := { row := enqueueMovesRow, standIns := [], harness := (true, "bc8ba4216493deeada606be1db533dca2cf187e44e92365021f981b774fe84c8"), looks := true }, kinds := [], alts := [], laidByText := true, laidKinds := [.data, .pinned], laidTests := true, laidLooks := .later }
def EnqueueMovesCardSaid : Prop := Claim7.holds Tryd.pinned (.plain (OpenSpec.ofChange enqueueMovesSpec)) enqueueMovesCard

/-- THE TIED CARD OF 'dasdlaw43.EnqueueExclusive'. -/
def enqueueExclusiveCard : Claim7 := { stood := { row := enqueueExclusiveRow, standIns := [], harness := (true, "bc8ba4216493deeada606be1db533dca2cf187e44e92365021f981b774fe84c8"), looks := true }, kinds := [], alts := [], laidByText := true, laidKinds := [.data, .pinned], laidTests := true, laidLooks := .later }
def EnqueueExclusiveCardSaid : Prop := Claim7.holds Tryd.pinned (.plain (OpenSpec.ofChange enqueueExclusiveSpec)) enqueueExclusiveCard

/-- THE TIED CARD OF 'dasdlaw43.EnqueueOrder'. -/
def enqueueOrderCard : Claim7 := { stood := { row := enqueueOrderRow, standIns := [], harness := (true, "bc8ba4216493deeada606be1db533dca2cf187e44e92365021f981b774fe84c8"), looks := true }, kinds := [], alts := [], laidByText := true, laidKinds := [.data, .pinned], laidTests := true, laidLooks := .later }
def EnqueueOrderCardSaid : Prop := Claim7.holds Tryd.pinned (.plain (OpenSpec.ofChange enqueueOrderSpec)) enqueueOrderCard

/-- THE TIED CARD OF 'dasdlaw43.EnqueueFair'. -/
def enqueueFairCard : Claim7 := { stood := { row := enqueueFairRow, standIns := [], harness := (true, "bc8ba4216493deeada606be1db533dca2cf187e44e92365021f981b774fe84c8"), looks := true }, kinds := [], alts := [], laidByText := true, laidKinds := [.data, .pinned], laidTests := true, laidLooks := .later }
def EnqueueFairCardSaid : Prop := Claim7.holds Tryd.pinned (.plain (OpenSpec.ofChange enqueueFairSpec)) enqueueFairCard

/-- THE TIED CARD OF 'dasdlaw43.EnqueueShares'. -/
def enqueueSharesCard : Claim7 := { stood := { row := enqueueSharesRow, standIns := [], harness := (true, "bc8ba4216493deeada606be1db533dca2cf187e44e92365021f981b774fe84c8"), looks := true }, kinds := [], alts := [], laidByText := true, laidKinds := [.data, .pinned], laidTests := true, laidLooks := .later }
def EnqueueSharesCardSaid : Prop := Claim7.holds Tryd.pinned (.plain (OpenSpec.ofChange enqueueSharesSpec)) enqueueSharesCard

/-- THE TIED CARD OF 'dasdlaw43.EnqueueRefuses'. -/
def enqueueRefusesCard : Claim7 := { stood := { row := enqueueRefusesRow, standIns := [], harness := (true, "bc8ba4216493deeada606be1db533dca2cf187e44e92365021f981b774fe84c8"), looks := true }, kinds := [], alts := [], laidByText := true, laidKinds := [.data, .pinned], laidTests := true, laidLooks := .later }
def EnqueueRefusesCardSaid : Prop := Claim7.holds Tryd.pinned (.plain (OpenSpec.ofChange enqueueRefusesSpec)) enqueueRefusesCard

/-- THE SECOND FORM's CARD OF 'dasdlaw43.EnqueueMoves'. -/
def enqueueMovesUptoCard : Claim7 := { stood := { row := enqueueMovesUptoRow, standIns := [], harness := (true, "bc8ba4216493deeada606be1db533dca2cf187e44e92365021f981b774fe84c8"), looks := true }, kinds := [], alts := [], laidByText := true, laidKinds := [.data, .pinned], laidTests := true, laidLooks := .later }
def EnqueueMovesUptoCardSaid : Prop := Claim7.holds Tryd.pinned (.plain (OpenSpec.upto enqueueMovesSpec)) enqueueMovesUptoCard

/-- THE SECOND FORM's CARD OF 'dasdlaw43.EnqueueExclusive'. -/
def enqueueExclusiveUptoCard : Claim7 := { stood := { row := enqueueExclusiveUptoRow, standIns := [], harness := (true, "bc8ba4216493deeada606be1db533dca2cf187e44e92365021f981b774fe84c8"), looks := true }, kinds := [], alts := [], laidByText := true, laidKinds := [.data, .pinned], laidTests := true, laidLooks := .later }
def EnqueueExclusiveUptoCardSaid : Prop := Claim7.holds Tryd.pinned (.plain (OpenSpec.upto enqueueExclusiveSpec)) enqueueExclusiveUptoCard

/-- THE SECOND FORM's CARD OF 'dasdlaw43.EnqueueOrder'. -/
def enqueueOrderUptoCard : Claim7 := { stood := { row := enqueueOrderUptoRow, standIns := [], harness := (true, "bc8ba4216493deeada606be1db533dca2cf187e44e92365021f981b774fe84c8"), looks := true }, kinds := [], alts := [], laidByText := true, laidKinds := [.data, .pinned], laidTests := true, laidLooks := .later }
def EnqueueOrderUptoCardSaid : Prop := Claim7.holds Tryd.pinned (.plain (OpenSpec.upto enqueueOrderSpec)) enqueueOrderUptoCard

/-- THE SECOND FORM's CARD OF 'dasdlaw43.EnqueueFair'. -/
def enqueueFairUptoCard : Claim7 := { stood := { row := enqueueFairUptoRow, standIns := [], harness := (true, "bc8ba4216493deeada606be1db533dca2cf187e44e92365021f981b774fe84c8"), looks := true }, kinds := [], alts := [], laidByText := true, laidKinds := [.data, .pinned], laidTests := true, laidLooks := .later }
def EnqueueFairUptoCardSaid : Prop := Claim7.holds Tryd.pinned (.plain (OpenSpec.upto enqueueFairSpec)) enqueueFairUptoCard

/-- THE SECOND FORM's CARD OF 'dasdlaw43.EnqueueShares'. -/
def enqueueSharesUptoCard : Claim7 := { stood := { row := enqueueSharesUptoRow, standIns := [], harness := (true, "bc8ba4216493deeada606be1db533dca2cf187e44e92365021f981b774fe84c8"), looks := true }, kinds := [], alts := [], laidByText := true, laidKinds := [.data, .pinned], laidTests := true, laidLooks := .later }
def EnqueueSharesUptoCardSaid : Prop := Claim7.holds Tryd.pinned (.plain (OpenSpec.upto enqueueSharesSpec)) enqueueSharesUptoCard

/-- THE SECOND FORM's CARD OF 'dasdlaw43.EnqueueRefuses'. -/
def enqueueRefusesUptoCard : Claim7 := { stood := { row := enqueueRefusesUptoRow, standIns := [], harness := (true, "bc8ba4216493deeada606be1db533dca2cf187e44e92365021f981b774fe84c8"), looks := true }, kinds := [], alts := [], laidByText := true, laidKinds := [.data, .pinned], laidTests := true, laidLooks := .later }
def EnqueueRefusesUptoCardSaid : Prop := Claim7.holds Tryd.pinned (.plain (OpenSpec.upto enqueueRefusesSpec)) enqueueRefusesUptoCard
end Rows
end Go.Proofs.YtojbddcbnnbklaaDoor
