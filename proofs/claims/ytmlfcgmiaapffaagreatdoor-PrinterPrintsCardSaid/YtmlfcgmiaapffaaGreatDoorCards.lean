/-
  DERIVED. GIVEN WITH THE SEED: THE CARDS: each row of YtmlfcgmiaapffaaGreatDoorRows.lean that lists a variable, with what it lists TIED to the program's text (the seventh form; the later family's looks); each row that meets fmt, with fmt's text TOLD by the authors' own Lean function (tested against real Go, not proved from fmt's source: count such statements apart). THE CARD IS WHAT COUNTS. Prove the row's statement (the work); the ties are given (YtmlfcgmiaapffaaGreatDoorTie.lean); close each card by the builder's one call (the guide's Derived/Test/ToyasCard.lean, 'card_holds'). Laid BY PROGRAM, IN A SANDBOX (cutbox-door.mjs). By AI agents, Wed Nov 11 2026. No macro, syntax, notation, axiom, sorry.
-/
import Derived.Test.YtmlfcgmiaapffaaGreatDoorRows
import GoSem.ClaimSeven
namespace Go.Proofs.YtmlfcgmiaapffaaGreatDoor
namespace Rows

/-- THE TIED CARD OF 'gangsawlaw11.PrinterPrints'. -/
def printerPrintsCard : Claim7 := { stood := { row := printerPrintsRow, standIns := [], harness := (true, "95d35f92f5539e0eb3c6b875047a0d635a066e931ad3a39b6cb66ce3eccfbf82"), looks := true }, kinds := [], alts := [], laidByText := true, laidKinds := [.data, .data, .data, .data, .sentinel, .sentinel, .pinned], laidTests := true, laidLooks := .later }
def PrinterPrintsCardSaid : Prop := Claim7.holds Tryz.pinned (.plain (OpenSpec.ofChange printerPrintsSpec)) printerPrintsCard

/-- THE TIED CARD OF 'gangsawlaw11.PrinterTokens'. -/
def printerTokensCard : Claim7 := { stood := { row := printerTokensRow, standIns := [], harness := (true, "95d35f92f5539e0eb3c6b875047a0d635a066e931ad3a39b6cb66ce3eccfbf82"), looks := true }, kinds := [], alts := [], laidByText := true, laidKinds := [.data, .data, .data, .data, .sentinel, .sentinel, .pinned], laidTests := true, laidLooks := .later }
def PrinterTokensCardSaid : Prop := Claim7.holds Tryz.pinned (.plain (OpenSpec.ofChange printerTokensSpec)) printerTokensCard

/-- THE TIED CARD OF 'gangsawlaw11.PrinterDiffs'. -/
def printerDiffsCard : Claim7 := { stood := { row := printerDiffsRow, standIns := [], harness := (true, "95d35f92f5539e0eb3c6b875047a0d635a066e931ad3a39b6cb66ce3eccfbf82"), looks := true }, kinds := [], alts := [], laidByText := true, laidKinds := [.data, .data, .data, .data, .sentinel, .sentinel, .pinned], laidTests := true, laidLooks := .later }
def PrinterDiffsCardSaid : Prop := Claim7.holds Tryz.pinned (.plain (OpenSpec.ofChange printerDiffsSpec)) printerDiffsCard

/-- THE TIED CARD OF 'gangsawlaw11.PrinterApplies'. -/
def printerAppliesCard : Claim7 := { stood := { row := printerAppliesRow, standIns := [], harness := (true, "95d35f92f5539e0eb3c6b875047a0d635a066e931ad3a39b6cb66ce3eccfbf82"), looks := true }, kinds := [], alts := [], laidByText := true, laidKinds := [.data, .data, .data, .data, .sentinel, .sentinel, .pinned], laidTests := true, laidLooks := .later }
def PrinterAppliesCardSaid : Prop := Claim7.holds Tryz.pinned (.plain (OpenSpec.ofChange printerAppliesSpec)) printerAppliesCard

/-- THE TIED CARD OF 'gangsawlaw11.PrinterBack'. -/
def printerBackCard : Claim7 := { stood := { row := printerBackRow, standIns := [], harness := (true, "95d35f92f5539e0eb3c6b875047a0d635a066e931ad3a39b6cb66ce3eccfbf82"), looks := true }, kinds := [], alts := [], laidByText := true, laidKinds := [.data, .data, .data, .data, .sentinel, .sentinel, .pinned], laidTests := true, laidLooks := .later }
def PrinterBackCardSaid : Prop := Claim7.holds Tryz.pinned (.plain (OpenSpec.ofChange printerBackSpec)) printerBackCard

/-- THE TIED CARD OF 'gangsawlaw11.PrinterRows'. -/
def printerRowsCard : Claim7 := { stood := { row := printerRowsRow, standIns := [], harness := (true, "95d35f92f5539e0eb3c6b875047a0d635a066e931ad3a39b6cb66ce3eccfbf82"), looks := true }, kinds := [], alts := [], laidByText := true, laidKinds := [.data, .data, .data, .data, .sentinel, .sentinel, .pinned], laidTests := true, laidLooks := .later }
def PrinterRowsCardSaid : Prop := Claim7.holds Tryz.pinned (.plain (OpenSpec.ofChange printerRowsSpec)) printerRowsCard

/-- THE TIED CARD OF 'gangsawlaw11.PrinterTurns'. -/
def printerTurnsCard : Claim7 := { stood := { row := printerTurnsRow, standIns := [], harness := (true, "95d35f92f5539e0eb3c6b875047a0d635a066e931ad3a39b6cb66ce3eccfbf82"), looks := true }, kinds := [], alts := [], laidByText := true, laidKinds := [.data, .data, .data, .data, .sentinel, .sentinel, .pinned], laidTests := true, laidLooks := .later }
def PrinterTurnsCardSaid : Prop := Claim7.holds Tryz.pinned (.plain (OpenSpec.ofChange printerTurnsSpec)) printerTurnsCard

/-- THE TIED CARD OF 'gangsawlaw11.PrinterLeast'. -/
def printerLeastCard : Claim7 := { stood := { row := printerLeastRow, standIns := [], harness := (true, "95d35f92f5539e0eb3c6b875047a0d635a066e931ad3a39b6cb66ce3eccfbf82"), looks := true }, kinds := [], alts := [], laidByText := true, laidKinds := [.data, .data, .data, .data, .sentinel, .sentinel, .pinned], laidTests := true, laidLooks := .later }
def PrinterLeastCardSaid : Prop := Claim7.holds Tryz.pinned (.plain (OpenSpec.ofChange printerLeastSpec)) printerLeastCard

/-- THE SECOND FORM's CARD OF 'gangsawlaw11.PrinterPrints'. -/
def printerPrintsUptoCard : Claim7 := { stood := { row := printerPrintsUptoRow, standIns := [], harness := (true, "95d35f92f5539e0eb3c6b875047a0d635a066e931ad3a39b6cb66ce3eccfbf82"), looks := true }, kinds := [], alts := [], laidByText := true, laidKinds := [.data, .data, .data, .data, .sentinel, .sentinel, .pinned], laidTests := true, laidLooks := .later }
def PrinterPrintsUptoCardSaid : Prop := Claim7.holds Tryz.pinned (.plain (OpenSpec.upto printerPrintsSpec)) printerPrintsUptoCard

/-- THE SECOND FORM's CARD OF 'gangsawlaw11.PrinterTokens'. -/
def printerTokensUptoCard : Claim7 := { stood := { row := printerTokensUptoRow, standIns := [], harness := (true, "95d35f92f5539e0eb3c6b875047a0d635a066e931ad3a39b6cb66ce3eccfbf82"), looks := true }, kinds := [], alts := [], laidByText := true, laidKinds := [.data, .data, .data, .data, .sentinel, .sentinel, .pinned], laidTests := true, laidLooks := .later }
def PrinterTokensUptoCardSaid : Prop := Claim7.holds Tryz.pinned (.plain (OpenSpec.upto printerTokensSpec)) printerTokensUptoCard

/-- THE SECOND FORM's CARD OF 'gangsawlaw11.PrinterDiffs'. -/
def printerDiffsUptoCard : Claim7 := { stood := { row := printerDiffsUptoRow, standIns := [], harness := (true, "95d35f92f5539e0eb3c6b875047a0d635a066e931ad3a39b6cb66ce3eccfbf82"), looks := true }, kinds := [], alts := [], laidByText := true, laidKinds := [.data, .data, .data, .data, .sentinel, .sentinel, .pinned], laidTests := true, laidLooks := .later }
def PrinterDiffsUptoCardSaid : Prop := Claim7.holds Tryz.pinned (.plain (OpenSpec.upto printerDiffsSpec)) printerDiffsUptoCard

/-- THE SECOND FORM's CARD OF 'gangsawlaw11.PrinterApplies'. -/
def printerAppliesUptoCard : Claim7 := { stood := { row := printerAppliesUptoRow, standIns := [], harness := (true, "95d35f92f5539e0eb3c6b875047a0d635a066e931ad3a39b6cb66ce3eccfbf82"), looks := true }, kinds := [], alts := [], laidByText := true, laidKinds := [.data, .data, .data, .data, .sentinel, .sentinel, .pinned], laidTests := true, laidLooks := .later }
def PrinterAppliesUptoCardSaid : Prop := Claim7.holds Tryz.pinned (.plain (OpenSpec.upto printerAppliesSpec)) printerAppliesUptoCard

/-- THE SECOND FORM's CARD OF 'gangsawlaw11.PrinterBack'. -/
def printerBackUptoCard : Claim7 := { stood := { row := printerBackUptoRow, standIns := [], harness := (true, "95d35f92f5539e0eb3c6b875047a0d635a066e931ad3a39b6cb66ce3eccfbf82"), looks := true }, kinds := [], alts := [], laidByText := true, laidKinds := [.data, .data, .data, .data, .sentinel, .sentinel, .pinned], laidTests := true, laidLooks := .later }
def PrinterBackUptoCardSaid : Prop := Claim7.holds Tryz.pinned (.plain (OpenSpec.upto printerBackSpec)) printerBackUptoCard

/-- THE SECOND FORM's CARD OF 'gangsawlaw11.PrinterRows'. -/
def printerRowsUptoCard : Claim7 := { stood := { row := printerRowsUptoRow, standIns := [], harness := (true, "95d35f92f5539e0eb3c6b875047a0d635a066e931ad3a39b6cb66ce3eccfbf82"), looks := true }, kinds := [], alts := [], laidByText := true, laidKinds := [.data, .data, .data, .data, .sentinel, .sentinel, .pinned], laidTests := true, laidLooks := .later }
def PrinterRowsUptoCardSaid : Prop := Claim7.holds Tryz.pinned (.plain (OpenSpec.upto printerRowsSpec)) printerRowsUptoCard

/-- THE SECOND FORM's CARD OF 'gangsawlaw11.PrinterTurns'. -/
def printerTurnsUptoCard : Claim7 := { stood := { row := printerTurnsUptoRow, standIns := [], harness := (true, "95d35f92f5539e0eb3c6b875047a0d635a066e931ad3a39b6cb66ce3eccfbf82"), looks := true }, kinds := [], alts := [], laidByText := true, laidKinds := [.data, .data, .data, .data, .sentinel, .sentinel, .pinned], laidTests := true, laidLooks := .later }
def PrinterTurnsUptoCardSaid : Prop := Claim7.holds Tryz.pinned (.plain (OpenSpec.upto printerTurnsSpec)) printerTurnsUptoCard

/-- THE SECOND FORM's CARD OF 'gangsawlaw11.PrinterLeast'. -/
def printerLeastUptoCard : Claim7 := { stood := { row := printerLeastUptoRow, standIns := [], harness := (true, "95d35f92f5539e0eb3c6b875047a0d635a066e931ad3a39b6cb66ce3eccfbf82"), looks := true }, kinds := [], alts := [], laidByText := true, laidKinds := [.data, .data, .data, .data, .sentinel, .sentinel, .pinned], laidTests := true, laidLooks := .later }
def PrinterLeastUptoCardSaid : Prop := Claim7.holds Tryz.pinned (.plain (OpenSpec.upto printerLeastSpec)) printerLeastUptoCard
end Rows
end Go.Proofs.YtmlfcgmiaapffaaGreatDoor
