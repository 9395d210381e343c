/-
  DERIVED. GIVEN WITH THE SEED: THE CARDS: each row of YtfjomnhdmkbkiaaDoorRows.lean that lists a variable, with what it lists TIED to the program's text (the seventh form; the later family's looks); each row that meets fmt, with fmt's text TOLD by the authors' own Lean function (tested against real Go, not proved from fmt's source: count such statements apart). THE CARD IS WHAT COUNTS. Prove the row's statement (the work); the ties are given (YtfjomnhdmkbkiaaDoorTie.lean); close each card by the builder's one call (the guide's Derived/Test/ToyasCard.lean, 'card_holds'). Laid BY PROGRAM, IN A SANDBOX (cutbox-door.mjs). By AI agents, Wed Nov 11 2026. No macro, syntax, notation, axiom, sorry.
-/
import Derived.Test.YtfjomnhdmkbkiaaDoorRows
import GoSem.ClaimSeven
namespace Go.Proofs.YtfjomnhdmkbkiaaDoor
namespace Rows

/-- THE TIED CARD OF 'whittlelaw11.DfaMakes'. -/
def dfaMakesCard : Claim7 := { stood := { row := dfaMakesRow, standIns := [], harness := (true, "bebd34fff2cdb4131678c287608754fa6ba24aaff49123d5cc995fba7367eb22"), looks := false }, kinds := [], alts := [], laidByText := true, laidKinds := [.data], laidTests := true, laidLooks := .later }
def DfaMakesCardSaid : Prop := Claim7.holds Tryd.pinned (.plain (OpenSpec.ofChange dfaMakesSpec)) dfaMakesCard

/-- THE TIED CARD OF 'whittlelaw11.DfaParts'. -/
def dfaPartsCard : Claim7 := { stood := { row := dfaPartsRow, standIns := [], harness := (true, "bebd34fff2cdb4131678c287608754fa6ba24aaff49123d5cc995fba7367eb22"), looks := false }, kinds := [], alts := [], laidByText := true, laidKinds := [.data], laidTests := true, laidLooks := .later }
def DfaPartsCardSaid : Prop := Claim7.holds Tryd.pinned (.plain (OpenSpec.ofChange dfaPartsSpec)) dfaPartsCard

/-- THE TIED CARD OF 'whittlelaw11.DfaRuns'. -/
def dfaRunsCard : Claim7 := { stood := { row := dfaRunsRow, standIns := [], harness := (true, "bebd34fff2cdb4131678c287608754fa6ba24aaff49123d5cc995fba7367eb22"), looks := false }, kinds := [], alts := [], laidByText := true, laidKinds := [.data], laidTests := true, laidLooks := .later }
def DfaRunsCardSaid : Prop := Claim7.holds Tryd.pinned (.plain (OpenSpec.ofChange dfaRunsSpec)) dfaRunsCard

/-- THE TIED CARD OF 'whittlelaw11.DfaTakes'. -/
def dfaTakesCard : Claim7 := { stood := { row := dfaTakesRow, standIns := [], harness := (true, "bebd34fff2cdb4131678c287608754fa6ba24aaff49123d5cc995fba7367eb22"), looks := false }, kinds := [], alts := [], laidByText := true, laidKinds := [.data], laidTests := true, laidLooks := .later }
def DfaTakesCardSaid : Prop := Claim7.holds Tryd.pinned (.plain (OpenSpec.ofChange dfaTakesSpec)) dfaTakesCard

/-- THE TIED CARD OF 'whittlelaw11.DfaBack'. -/
def dfaBackCard : Claim7 := { stood := { row := dfaBackRow, standIns := [], harness := (true, "bebd34fff2cdb4131678c287608754fa6ba24aaff49123d5cc995fba7367eb22"), looks := false }, kinds := [], alts := [], laidByText := true, laidKinds := [.data], laidTests := true, laidLooks := .later }
def DfaBackCardSaid : Prop := Claim7.holds Tryd.pinned (.plain (OpenSpec.ofChange dfaBackSpec)) dfaBackCard

/-- THE TIED CARD OF 'whittlelaw12.BoolsJoin'. -/
def boolsJoinCard : Claim7 := { stood := { row := boolsJoinRow, standIns := [], harness := (true, "bebd34fff2cdb4131678c287608754fa6ba24aaff49123d5cc995fba7367eb22"), looks := false }, kinds := [], alts := [], laidByText := true, laidKinds := [.data], laidTests := true, laidLooks := .later }
def BoolsJoinCardSaid : Prop := Claim7.holds Tryd.pinned (.plain (OpenSpec.ofChange boolsJoinSpec)) boolsJoinCard

/-- THE TIED CARD OF 'whittlelaw12.BoolsTake'. -/
def boolsTakeCard : Claim7 := { stood := { row := boolsTakeRow, standIns := [], harness := (true, "bebd34fff2cdb4131678c287608754fa6ba24aaff49123d5cc995fba7367eb22"), looks := false }, kinds := [], alts := [], laidByText := true, laidKinds := [.data], laidTests := true, laidLooks := .later }
def BoolsTakeCardSaid : Prop := Claim7.holds Tryd.pinned (.plain (OpenSpec.ofChange boolsTakeSpec)) boolsTakeCard

/-- THE TIED CARD OF 'whittlelaw12.BoolsSelf'. -/
def boolsSelfCard : Claim7 := { stood := { row := boolsSelfRow, standIns := [], harness := (true, "bebd34fff2cdb4131678c287608754fa6ba24aaff49123d5cc995fba7367eb22"), looks := false }, kinds := [], alts := [], laidByText := true, laidKinds := [.data], laidTests := true, laidLooks := .later }
def BoolsSelfCardSaid : Prop := Claim7.holds Tryd.pinned (.plain (OpenSpec.ofChange boolsSelfSpec)) boolsSelfCard

/-- THE TIED CARD OF 'whittlelaw12.BoolsMorgan'. -/
def boolsMorganCard : Claim7 := { stood := { row := boolsMorganRow, standIns := [], harness := (true, "bebd34fff2cdb4131678c287608754fa6ba24aaff49123d5cc995fba7367eb22"), looks := false }, kinds := [], alts := [], laidByText := true, laidKinds := [.data], laidTests := true, laidLooks := .later }
def BoolsMorganCardSaid : Prop := Claim7.holds Tryd.pinned (.plain (OpenSpec.ofChange boolsMorganSpec)) boolsMorganCard

/-- THE SECOND FORM's CARD OF 'whittlelaw11.DfaMakes'. -/
def dfaMakesUptoCard : Claim7 := { stood := { row := dfaMakesUptoRow, standIns := [], harness := (true, "bebd34fff2cdb4131678c287608754fa6ba24aaff49123d5cc995fba7367eb22"), looks := false }, kinds := [], alts := [], laidByText := true, laidKinds := [.data], laidTests := true, laidLooks := .later }
def DfaMakesUptoCardSaid : Prop := Claim7.holds Tryd.pinned (.plain (OpenSpec.upto dfaMakesSpec)) dfaMakesUptoCard

/-- THE SECOND FORM's CARD OF 'whittlelaw11.DfaParts'. -/
def dfaPartsUptoCard : Claim7 := { stood := { row := dfaPartsUptoRow, standIns := [], harness := (true, "bebd34fff2cdb4131678c287608754fa6ba24aaff49123d5cc995fba7367eb22"), looks := false }, kinds := [], alts := [], laidByText := true, laidKinds := [.data], laidTests := true, laidLooks := .later }
def DfaPartsUptoCardSaid : Prop := Claim7.holds Tryd.pinned (.plain (OpenSpec.upto dfaPartsSpec)) dfaPartsUptoCard

/-- THE SECOND FORM's CARD OF 'whittlelaw11.DfaRuns'. -/
def dfaRunsUptoCard : Claim7 := { stood := { row := dfaRunsUptoRow, standIns := [], harness := (true, "bebd34fff2cdb4131678c287608754fa6ba24aaff49123d5cc995fba7367eb22"), looks := false }, kinds := [], alts := [], laidByText := true, laidKinds := [.data], laidTests := true, laidLooks := .later }
def DfaRunsUptoCardSaid : Prop := Claim7.holds Tryd.pinned (.plain (OpenSpec.upto dfaRunsSpec)) dfaRunsUptoCard

/-- THE SECOND FORM's CARD OF 'whittlelaw11.DfaTakes'. -/
def dfaTakesUptoCard : Claim7 := { stood := { row := dfaTakesUptoRow, standIns := [], harness := (true, "bebd34fff2cdb4131678c287608754fa6ba24aaff49123d5cc995fba7367eb22"), looks := false }, kinds := [], alts := [], laidByText := true, laidKinds := [.data], laidTests := true, laidLooks := .later }
def DfaTakesUptoCardSaid : Prop := Claim7.holds Tryd.pinned (.plain (OpenSpec.upto dfaTakesSpec)) dfaTakesUptoCard

/-- THE SECOND FORM's CARD OF 'whittlelaw11.DfaBack'. -/
def dfaBackUptoCard : Claim7 := { stood := { row := dfaBackUptoRow, standIns := [], harness := (true, "bebd34fff2cdb4131678c287608754fa6ba24aaff49123d5cc995fba7367eb22"), looks := false }, kinds := [], alts := [], laidByText := true, laidKinds := [.data], laidTests := true, laidLooks := .later }
def DfaBackUptoCardSaid : Prop := Claim7.holds Tryd.pinned (.plain (OpenSpec.upto dfaBackSpec)) dfaBackUptoCard

/-- THE SECOND FORM's CARD OF 'whittlelaw12.BoolsJoin'. -/
def boolsJoinUptoCard : Claim7 := { stood := { row := boolsJoinUptoRow, standIns := [], harness := (true, "bebd34fff2cdb4131678c287608754fa6ba24aaff49123d5cc995fba7367eb22"), looks := false }, kinds := [], alts := [], laidByText := true, laidKinds := [.data], laidTests := true, laidLooks := .later }
def BoolsJoinUptoCardSaid : Prop := Claim7.holds Tryd.pinned (.plain (OpenSpec.upto boolsJoinSpec)) boolsJoinUptoCard

/-- THE SECOND FORM's CARD OF 'whittlelaw12.BoolsTake'. -/
def boolsTakeUptoCard : Claim7 := { stood := { row := boolsTakeUptoRow, standIns := [], harness := (true, "bebd34fff2cdb4131678c287608754fa6ba24aaff49123d5cc995fba7367eb22"), looks := false }, kinds := [], alts := [], laidByText := true, laidKinds := [.data], laidTests := true, laidLooks := .later }
def BoolsTakeUptoCardSaid : Prop := Claim7.holds Tryd.pinned (.plain (OpenSpec.upto boolsTakeSpec)) boolsTakeUptoCard

/-- THE SECOND FORM's CARD OF 'whittlelaw12.BoolsSelf'. -/
def boolsSelfUptoCard : Claim7 := { stood := { row := boolsSelfUptoRow, standIns := [], harness := (true, "bebd34fff2cdb4131678c287608754fa6ba24aaff49123d5cc995fba7367eb22"), looks := false }, kinds := [], alts := [], laidByText := true, laidKinds := [.data], laidTests := true, laidLooks := .later }
def BoolsSelfUptoCardSaid : Prop := Claim7.holds Tryd.pinned (.plain (OpenSpec.upto boolsSelfSpec)) boolsSelfUptoCard

/-- THE SECOND FORM's CARD OF 'whittlelaw12.BoolsMorgan'. -/
def boolsMorganUptoCard : Claim7 := { stood := { row := boolsMorganUptoRow, standIns := [], harness := (true, "bebd34fff2cdb4131678c287608754fa6ba24aaff49123d5cc995fba7367eb22"), looks := false }, kinds := [], alts := [], laidByText := true, laidKinds := [.data], laidTests := true, laidLooks := .later }
def BoolsMorganUptoCardSaid : Prop := Claim7.holds Tryd.pinned (.plain (OpenSpec.upto boolsMorganSpec)) boolsMorganUptoCard
end Rows
end Go.Proofs.YtfjomnhdmkbkiaaDoor
