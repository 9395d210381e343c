/-
  DERIVED. GIVEN WITH THE SEED: THE CARDS: each row of YtfljcfdfgojdoaaGreatDoorRows.lean that lists a variable, with what it lists TIED to the program's text (the seventh form; the later family's looks); each row that meets fmt, with fmt's text TOLD by the authors' own Lean function (tested against real Go, not proved from fmt's source: count such statements apart). THE CARD IS WHAT COUNTS. Prove the row's statement (the work); the ties are given (YtfljcfdfgojdoaaGreatDoorTie.lean); close each card by the builder's one call (the guide's Derived/Test/ToyasCard.lean, 'card_holds'). Laid BY PROGRAM, IN A SANDBOX (cutbox-door.mjs). By AI agents, Wed Nov 11 2026. No macro, syntax, notation, axiom, sorry.
-/
import Derived.Test.YtfljcfdfgojdoaaGreatDoorRows
import GoSem.ClaimSeven
namespace Go.Proofs.YtfljcfdfgojdoaaGreatDoor
namespace Rows

/-- THE TIED CARD OF 'whittlelaw08.ShowFiles'. -/
def showFilesCard : Claim7 := { stood := { row := showFilesRow, standIns := [], harness := (true, "b75ef85a1626b712fb6133725d835d6d0cb723a6861cd2b9457e1118b06ccbd5"), looks := true }, kinds := [], alts := [], laidByText := true, laidKinds := [.data, .data, .data], laidTests := true, laidLooks := .later }
def ShowFilesCardSaid : Prop := Claim7.holds Tryz.pinned (.plain (OpenSpec.ofChange showFilesSpec)) showFilesCard

/-- THE TIED CARD OF 'whittlelaw08.ShowBack'. -/
def showBackCard : Claim7 := { stood := { row := showBackRow, standIns := [], harness := (true, "b75ef85a1626b712fb6133725d835d6d0cb723a6861cd2b9457e1118b06ccbd5"), looks := true }, kinds := [], alts := [], laidByText := true, laidKinds := [.data, .data, .data], laidTests := true, laidLooks := .later }
def ShowBackCardSaid : Prop := Claim7.holds Tryz.pinned (.plain (OpenSpec.ofChange showBackSpec)) showBackCard

/-- THE TIED CARD OF 'whittlelaw08.ShowAgain'. -/
def showAgainCard : Claim7 := { stood := { row := showAgainRow, standIns := [], harness := (true, "b75ef85a1626b712fb6133725d835d6d0cb723a6861cd2b9457e1118b06ccbd5"), looks := true }, kinds := [], alts := [], laidByText := true, laidKinds := [.data, .data, .data], laidTests := true, laidLooks := .later }
def ShowAgainCardSaid : Prop := Claim7.holds Tryz.pinned (.plain (OpenSpec.ofChange showAgainSpec)) showAgainCard

/-- THE TIED CARD OF 'whittlelaw09.CheckFinds'. -/
def checkFindsCard : Claim7 := { stood := { row := checkFindsRow, standIns := [], harness := (true, "b75ef85a1626b712fb6133725d835d6d0cb723a6861cd2b9457e1118b06ccbd5"), looks := true }, kinds := [], alts := [], laidByText := true, laidKinds := [.data, .data, .data], laidTests := true, laidLooks := .later }
def CheckFindsCardSaid : Prop := Claim7.holds Tryz.pinned (.plain (OpenSpec.ofChange checkFindsSpec)) checkFindsCard

/-- THE TIED CARD OF 'whittlelaw09.CheckOpens'. -/
def checkOpensCard : Claim7 := { stood := { row := checkOpensRow, standIns := [], harness := (true, "b75ef85a1626b712fb6133725d835d6d0cb723a6861cd2b9457e1118b06ccbd5"), looks := true }, kinds := [], alts := [], laidByText := true, laidKinds := [.data, .data, .data], laidTests := true, laidLooks := .later }
def CheckOpensCardSaid : Prop := Claim7.holds Tryz.pinned (.plain (OpenSpec.ofChange checkOpensSpec)) checkOpensCard

/-- THE TIED CARD OF 'whittlelaw09.CheckClosed'. -/
def checkClosedCard : Claim7 := { stood := { row := checkClosedRow, standIns := [], harness := (true, "b75ef85a1626b712fb6133725d835d6d0cb723a6861cd2b9457e1118b06ccbd5"), looks := true }, kinds := [], alts := [], laidByText := true, laidKinds := [.data, .data, .data], laidTests := true, laidLooks := .later }
def CheckClosedCardSaid : Prop := Claim7.holds Tryz.pinned (.plain (OpenSpec.ofChange checkClosedSpec)) checkClosedCard

/-- THE TIED CARD OF 'whittlelaw09.CheckOrder'. -/
def checkOrderCard : Claim7 := { stood := { row := checkOrderRow, standIns := [], harness := (true, "b75ef85a1626b712fb6133725d835d6d0cb723a6861cd2b9457e1118b06ccbd5"), looks := true }, kinds := [], alts := [], laidByText := true, laidKinds := [.data, .data, .data], laidTests := true, laidLooks := .later }
def CheckOrderCardSaid : Prop := Claim7.holds Tryz.pinned (.plain (OpenSpec.ofChange checkOrderSpec)) checkOrderCard

/-- THE TIED CARD OF 'whittlelaw09.CheckUses'. -/
def checkUsesCard : Claim7 := { stood := { row := checkUsesRow, standIns := [], harness := (true, "b75ef85a1626b712fb6133725d835d6d0cb723a6861cd2b9457e1118b06ccbd5"), looks := true }, kinds := [], alts := [], laidByText := true, laidKinds := [.data, .data, .data], laidTests := true, laidLooks := .later }
def CheckUsesCardSaid : Prop := Claim7.holds Tryz.pinned (.plain (OpenSpec.ofChange checkUsesSpec)) checkUsesCard

/-- THE SECOND FORM's CARD OF 'whittlelaw08.ShowFiles'. -/
def showFilesUptoCard : Claim7 := { stood := { row := showFilesUptoRow, standIns := [], harness := (true, "b75ef85a1626b712fb6133725d835d6d0cb723a6861cd2b9457e1118b06ccbd5"), looks := true }, kinds := [], alts := [], laidByText := true, laidKinds := [.data, .data, .data], laidTests := true, laidLooks := .later }
def ShowFilesUptoCardSaid : Prop := Claim7.holds Tryz.pinned (.plain (OpenSpec.upto showFilesSpec)) showFilesUptoCard

/-- THE SECOND FORM's CARD OF 'whittlelaw08.ShowBack'. -/
def showBackUptoCard : Claim7 := { stood := { row := showBackUptoRow, standIns := [], harness := (true, "b75ef85a1626b712fb6133725d835d6d0cb723a6861cd2b9457e1118b06ccbd5"), looks := true }, kinds := [], alts := [], laidByText := true, laidKinds := [.data, .data, .data], laidTests := true, laidLooks := .later }
def ShowBackUptoCardSaid : Prop := Claim7.holds Tryz.pinned (.plain (OpenSpec.upto showBackSpec)) showBackUptoCard

/-- THE SECOND FORM's CARD OF 'whittlelaw08.ShowAgain'. -/
def showAgainUptoCard : Claim7 := { stood := { row := showAgainUptoRow, standIns := [], harness := (true, "b75ef85a1626b712fb6133725d835d6d0cb723a6861cd2b9457e1118b06ccbd5"), looks := true }, kinds := [], alts := [], laidByText := true, laidKinds := [.data, .data, .data], laidTests := true, laidLooks := .later }
def ShowAgainUptoCardSaid : Prop := Claim7.holds Tryz.pinned (.plain (OpenSpec.upto showAgainSpec)) showAgainUptoCard

/-- THE SECOND FORM's CARD OF 'whittlelaw09.CheckFinds'. -/
def checkFindsUptoCard : Claim7 := { stood := { row := checkFindsUptoRow, standIns := [], harness := (true, "b75ef85a1626b712fb6133725d835d6d0cb723a6861cd2b9457e1118b06ccbd5"), looks := true }, kinds := [], alts := [], laidByText := true, laidKinds := [.data, .data, .data], laidTests := true, laidLooks := .later }
def CheckFindsUptoCardSaid : Prop := Claim7.holds Tryz.pinned (.plain (OpenSpec.upto checkFindsSpec)) checkFindsUptoCard

/-- THE SECOND FORM's CARD OF 'whittlelaw09.CheckOpens'. -/
def checkOpensUptoCard : Claim7 := { stood := { row := checkOpensUptoRow, standIns := [], harness := (true, "b75ef85a1626b712fb6133725d835d6d0cb723a6861cd2b9457e1118b06ccbd5"), looks := true }, kinds := [], alts := [], laidByText := true, laidKinds := [.data, .data, .data], laidTests := true, laidLooks := .later }
def CheckOpensUptoCardSaid : Prop := Claim7.holds Tryz.pinned (.plain (OpenSpec.upto checkOpensSpec)) checkOpensUptoCard

/-- THE SECOND FORM's CARD OF 'whittlelaw09.CheckClosed'. -/
def checkClosedUptoCard : Claim7 := { stood := { row := checkClosedUptoRow, standIns := [], harness := (true, "b75ef85a1626b712fb6133725d835d6d0cb723a6861cd2b9457e1118b06ccbd5"), looks := true }, kinds := [], alts := [], laidByText := true, laidKinds := [.data, .data, .data], laidTests := true, laidLooks := .later }
def CheckClosedUptoCardSaid : Prop := Claim7.holds Tryz.pinned (.plain (OpenSpec.upto checkClosedSpec)) checkClosedUptoCard

/-- THE SECOND FORM's CARD OF 'whittlelaw09.CheckOrder'. -/
def checkOrderUptoCard : Claim7 := { stood := { row := checkOrderUptoRow, standIns := [], harness := (true, "b75ef85a1626b712fb6133725d835d6d0cb723a6861cd2b9457e1118b06ccbd5"), looks := true }, kinds := [], alts := [], laidByText := true, laidKinds := [.data, .data, .data], laidTests := true, laidLooks := .later }
def CheckOrderUptoCardSaid : Prop := Claim7.holds Tryz.pinned (.plain (OpenSpec.upto checkOrderSpec)) checkOrderUptoCard

/-- THE SECOND FORM's CARD OF 'whittlelaw09.CheckUses'. -/
def checkUsesUptoCard : Claim7 := { stood := { row := checkUsesUptoRow, standIns := [], harness := (true, "b75ef85a1626b712fb6133725d835d6d0cb723a6861cd2b9457e1118b06ccbd5"), looks := true }, kinds := [], alts := [], laidByText := true, laidKinds := [.data, .data, .data], laidTests := true, laidLooks := .later }
def CheckUsesUptoCardSaid : Prop := Claim7.holds Tryz.pinned (.plain (OpenSpec.upto checkUsesSpec)) checkUsesUptoCard
end Rows
end Go.Proofs.YtfljcfdfgojdoaaGreatDoor
