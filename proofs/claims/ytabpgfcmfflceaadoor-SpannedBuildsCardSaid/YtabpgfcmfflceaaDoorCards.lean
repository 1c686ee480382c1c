/-
  DERIVED. GIVEN WITH THE SEED: THE CARDS: each row of YtabpgfcmfflceaaDoorRows.lean that lists a variable, with what it lists TIED to the program's text (the seventh form; the later family's looks); each row that meets fmt, with fmt's text TOLD by the authors' own Lean function (tested against real Go, not proved from fmt's source: count such statements apart). THE CARD IS WHAT COUNTS. Prove the row's statement (the work); the ties are given (YtabpgfcmfflceaaDoorTie.lean); close each card by the builder's one call (the guide's Derived/Test/ToyasCard.lean, 'card_holds'). Laid BY PROGRAM, IN A SANDBOX (cutbox-door.mjs). By AI agents, Wed Nov 11 2026. No macro, syntax, notation, axiom, sorry.
-/
import Derived.Test.YtabpgfcmfflceaaDoorRows
import GoSem.ClaimSeven
namespace Go.Proofs.YtabpgfcmfflceaaDoor
namespace Rows

/-- THE TIED CARD OF 'dasdlaw12.SpannedPacks'. -/
def spannedPacksCard : Claim7 := { stood := { row := spannedPacksRow, standIns := [], harness := (true, "acdf2ee9770120e6b25ff819276cf3a888cacce53ae8cf08af7b8e743550017f"), looks := false }, kinds := [], alts := [], laidByText := true, laidKinds := [.widerDeep], laidTests := true, laidLooks := .later }
def SpannedPacksCardSaid : Prop := Claim7.holds Tryd.pinned (.plain (OpenSpec.ofChange spannedPacksSpec)) spannedPacksCard

/-- THE TIED CARD OF 'dasdlaw12.SpannedSegments'. -/
def spannedSegmentsCard : Claim7 := { stood := { row := spannedSegmentsRow, standIns := [], harness := (true, "acdf2ee9770120e6b25ff819276cf3a888cacce53ae8cf08af7b8e743550017f"), looks := false }, kinds := [], alts := [], laidByText := true, laidKinds := [.widerDeep], laidTests := true, laidLooks := .later }
def SpannedSegmentsCardSaid : Prop := Claim7.holds Tryd.pinned (.plain (OpenSpec.ofChange spannedSegmentsSpec)) spannedSegmentsCard

/-- THE TIED CARD OF 'dasdlaw12.SpannedFull'. -/
def spannedFullCard : Claim7 := { stood := { row := spannedFullRow, standIns := [], harness := (true, "acdf2ee9770120e6b25ff819276cf3a888cacce53ae8cf08af7b8e743550017f"), looks := false }, kinds := [], alts := [], laidByText := true, laidKinds := [.widerDeep], laidTests := true, laidLooks := .later }
def SpannedFullCardSaid : Prop := Claim7.holds Tryd.pinned (.plain (OpenSpec.ofChange spannedFullSpec)) spannedFullCard

/-- THE TIED CARD OF 'dasdlaw12.SpannedAppends'. -/
def spannedAppendsCard : Claim7 := { stood := { row := spannedAppendsRow, standIns := [], harness := (true, "acdf2ee9770120e6b25ff819276cf3a888cacce53ae8cf08af7b8e743550017f"), looks := false }, kinds := [], alts := [], laidByText := true, laidKinds := [.widerDeep], laidTests := true, laidLooks := .later }
def SpannedAppendsCardSaid : Prop := Claim7.holds Tryd.pinned (.plain (OpenSpec.ofChange spannedAppendsSpec)) spannedAppendsCard

/-- THE TIED CARD OF 'dasdlaw12.SpannedBuilds'. -/
def spannedBuildsCard : Claim7 := { stood := { row := spannedBuildsRow, standIns := [], harness := (true, "acdf2ee9770120e6b25ff819276cf3a888cacce53ae8cf08af7b8e743550017f"), looks := false }, kinds := [], alts := [], laidByText := true, laidKinds := [.widerDeep], laidTests := true, laidLooks := .later }
def SpannedBuildsCardSaid : Prop := Claim7.holds Tryd.pinned (.plain (OpenSpec.ofChange spannedBuildsSpec)) spannedBuildsCard

/-- THE TIED CARD OF 'dasdlaw12.SpannedJoins'. -/
def spannedJoinsCard : Claim7 := { stood := { row := spannedJoinsRow, standIns := [], harness := (true, "acdf2ee9770120e6b25ff819276cf3a888cacce53ae8cf08af7b8e743550017f"), looks := false }, kinds := [], alts := [], laidByText := true, laidKinds := [.widerDeep], laidTests := true, laidLooks := .later }
def SpannedJoinsCardSaid : Prop := Claim7.holds Tryd.pinned (.plain (OpenSpec.ofChange spannedJoinsSpec)) spannedJoinsCard

/-- THE TIED CARD OF 'dasdlaw12.SpannedReturns'. -/
def spannedReturnsCard : Claim7 := { stood := { row := spannedReturnsRow, standIns := [], harness := (true, "acdf2ee9770120e6b25ff819276cf3a888cacce53ae8cf08af7b8e743550017f"), looks := false }, kinds := [], alts := [], laidByText := true, laidKinds := [.widerDeep], laidTests := true, laidLooks := .later }
def SpannedReturnsCardSaid : Prop := Claim7.holds Tryd.pinned (.plain (OpenSpec.ofChange spannedReturnsSpec)) spannedReturnsCard

/-- THE TIED CARD OF 'dasdlaw12.SpannedStrict'. -/
def spannedStrictCard : Claim7 := { stood := { row := spannedStrictRow, standIns := [], harness := (true, "acdf2ee9770120e6b25ff819276cf3a888cacce53ae8cf08af7b8e743550017f"), looks := false }, kinds := [], alts := [], laidByText := true, laidKinds := [.widerDeep], laidTests := true, laidLooks := .later }
def SpannedStrictCardSaid : Prop := Claim7.holds Tryd.pinned (.plain (OpenSpec.ofChange spannedStrictSpec)) spannedStrictCard

/-- THE SECOND FORM's CARD OF 'dasdlaw12.SpannedPacks'. -/
def spannedPacksUptoCard : Claim7 := { stood := { row := spannedPacksUptoRow, standIns := [], harness := (true, "acdf2ee9770120e6b25ff819276cf3a888cacce53ae8cf08af7b8e743550017f"), looks := false }, kinds := [], alts := [], laidByText := true, laidKinds := [.widerDeep], laidTests := true, laidLooks := .later }
def SpannedPacksUptoCardSaid : Prop := Claim7.holds Tryd.pinned (.plain (OpenSpec.upto spannedPacksSpec)) spannedPacksUptoCard

/-- THE SECOND FORM's CARD OF 'dasdlaw12.SpannedSegments'. -/
def spannedSegmentsUptoCard : Claim7 := { stood := { row := spannedSegmentsUptoRow, standIns := [], harness := (true, "acdf2ee9770120e6b25ff819276cf3a888cacce53ae8cf08af7b8e743550017f"), looks := false }, kinds := [], alts := [], laidByText := true, laidKinds := [.widerDeep], laidTests := true, laidLooks := .later }
def SpannedSegmentsUptoCardSaid : Prop := Claim7.holds Tryd.pinned (.plain (OpenSpec.upto spannedSegmentsSpec)) spannedSegmentsUptoCard

/-- THE SECOND FORM's CARD OF 'dasdlaw12.SpannedFull'. -/
def spannedFullUptoCard : Claim7 := { stood := { row := spannedFullUptoRow, standIns := [], harness := (true, "acdf2ee9770120e6b25ff819276cf3a888cacce53ae8cf08af7b8e743550017f"), looks := false }, kinds := [], alts := [], laidByText := true, laidKinds := [.widerDeep], laidTests := true, laidLooks := .later }
def SpannedFullUptoCardSaid : Prop := Claim7.holds Tryd.pinned (.plain (OpenSpec.upto spannedFullSpec)) spannedFullUptoCard

/-- THE SECOND FORM's CARD OF 'dasdlaw12.SpannedAppends'. -/
def spannedAppendsUptoCard : Claim7 := { stood := { row := spannedAppendsUptoRow, standIns := [], harness := (true, "acdf2ee9770120e6b25ff819276cf3a888cacce53ae8cf08af7b8e743550017f"), looks := false }, kinds := [], alts := [], laidByText := true, laidKinds := [.widerDeep], laidTests := true, laidLooks := .later }
def SpannedAppendsUptoCardSaid : Prop := Claim7.holds Tryd.pinned (.plain (OpenSpec.upto spannedAppendsSpec)) spannedAppendsUptoCard

/-- THE SECOND FORM's CARD OF 'dasdlaw12.SpannedBuilds'. -/
def spannedBuildsUptoCard : Claim7 := { stood := { row := spannedBuildsUptoRow, standIns := [], harness := (true, "acdf2ee9770120e6b25ff819276cf3a888cacce53ae8cf08af7b8e743550017f"), looks := false }, kinds := [], alts := [], laidByText := true, laidKinds := [.widerDeep], laidTests := true, laidLooks := .later }
def SpannedBuildsUptoCardSaid : Prop := Claim7.holds Tryd.pinned (.plain (OpenSpec.upto spannedBuildsSpec)) spannedBuildsUptoCard

/-- THE SECOND FORM's CARD OF 'dasdlaw12.SpannedJoins'. -/
def spannedJoinsUptoCard : Claim7 := { stood := { row := spannedJoinsUptoRow, standIns := [], harness := (true, "acdf2ee9770120e6b25ff819276cf3a888cacce53ae8cf08af7b8e743550017f"), looks := false }, kinds := [], alts := [], laidByText := true, laidKinds := [.widerDeep], laidTests := true, laidLooks := .later }
def SpannedJoinsUptoCardSaid : Prop := Claim7.holds Tryd.pinned (.plain (OpenSpec.upto spannedJoinsSpec)) spannedJoinsUptoCard

/-- THE SECOND FORM's CARD OF 'dasdlaw12.SpannedReturns'. -/
def spannedReturnsUptoCard : Claim7 := { stood := { row := spannedReturnsUptoRow, standIns := [], harness := (true, "acdf2ee9770120e6b25ff819276cf3a888cacce53ae8cf08af7b8e743550017f"), looks := false }, kinds := [], alts := [], laidByText := true, laidKinds := [.widerDeep], laidTests := true, laidLooks := .later }
def SpannedReturnsUptoCardSaid : Prop := Claim7.holds Tryd.pinned (.plain (OpenSpec.upto spannedReturnsSpec)) spannedReturnsUptoCard

/-- THE SECOND FORM's CARD OF 'dasdlaw12.SpannedStrict'. -/
def spannedStrictUptoCard : Claim7 := { stood := { row := spannedStrictUptoRow, standIns := [], harness := (true, "acdf2ee9770120e6b25ff819276cf3a888cacce53ae8cf08af7b8e743550017f"), looks := false }, kinds := [], alts := [], laidByText := true, laidKinds := [.widerDeep], laidTests := true, laidLooks := .later }
def SpannedStrictUptoCardSaid : Prop := Claim7.holds Tryd.pinned (.plain (OpenSpec.upto spannedStrictSpec)) spannedStrictUptoCard
end Rows
end Go.Proofs.YtabpgfcmfflceaaDoor
