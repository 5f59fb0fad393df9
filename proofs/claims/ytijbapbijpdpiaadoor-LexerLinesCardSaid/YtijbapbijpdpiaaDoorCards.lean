/-
  DERIVED. GIVEN WITH THE SEED: THE CARDS: each row of YtijbapbijpdpiaaDoorRows.lean that lists a variable, with what it lists TIED to the program's text (the seventh form; the later family's looks); each row that meets fmt, with fmt's text TOLD by the authors' own Lean function (tested against real Go, not proved from fmt's source: count such statements apart). THE CARD IS WHAT COUNTS. Prove the row's statement (the work); the ties are given (YtijbapbijpdpiaaDoorTie.lean); close each card by the builder's one call (the guide's Derived/Test/ToyasCard.lean, 'card_holds'). Laid BY PROGRAM, IN A SANDBOX (cutbox-door.mjs). By AI agents, Wed Nov 11 2026. No macro, syntax, notation, axiom, sorry.
-/
import Derived.Test.YtijbapbijpdpiaaDoorRows
import GoSem.ClaimSeven
namespace Go.Proofs.YtijbapbijpdpiaaDoor
namespace Rows

/-- THE TIED CARD OF 'gangsawlaw09.LexerScans'. -/
def lexerScansCard : Claim7 := { stood := { row := lexerScansRow, standIns := [], harness := (true, "4348c213f5f6d5af40527727ab982a8046cf4e2f90eba70a573f6ba4af99fab9"), looks := true }, kinds := [], alts := [], laidByText := true, laidKinds := [.data, .data, .data, .sentinel, .sentinel], laidTests := true, laidLooks := .later }
def LexerScansCardSaid : Prop := Claim7.holds Tryd.pinned (.plain (OpenSpec.ofChange lexerScansSpec)) lexerScansCard

/-- THE TIED CARD OF 'gangsawlaw09.LexerNames'. -/
def lexerNamesCard : Claim7 := { stood := { row := lexerNamesRow, standIns := [], harness := (true, "4348c213f5f6d5af40527727ab982a8046cf4e2f90eba70a573f6ba4af99fab9"), looks := true }, kinds := [], alts := [], laidByText := true, laidKinds := [.data, .data, .data, .sentinel, .sentinel], laidTests := true, laidLooks := .later }
def LexerNamesCardSaid : Prop := Claim7.holds Tryd.pinned (.plain (OpenSpec.ofChange lexerNamesSpec)) lexerNamesCard

/-- THE TIED CARD OF 'gangsawlaw09.LexerSpells'. -/
def lexerSpellsCard : Claim7 := { stood := { row := lexerSpellsRow, standIns := [], harness := (true, "4348c213f5f6d5af40527727ab982a8046cf4e2f90eba70a573f6ba4af99fab9"), looks := true }, kinds := [], alts := [], laidByText := true, laidKinds := [.data, .data, .data, .sentinel, .sentinel], laidTests := true, laidLooks := .later }
def LexerSpellsCardSaid : Prop := Claim7.holds Tryd.pinned (.plain (OpenSpec.ofChange lexerSpellsSpec)) lexerSpellsCard

/-- THE TIED CARD OF 'gangsawlaw09.LexerBack'. -/
def lexerBackCard : Claim7 := { stood := { row := lexerBackRow, standIns := [], harness := (true, "4348c213f5f6d5af40527727ab982a8046cf4e2f90eba70a573f6ba4af99fab9"), looks := true }, kinds := [], alts := [], laidByText := true, laidKinds := [.data, .data, .data, .sentinel, .sentinel], laidTests := true, laidLooks := .later }
def LexerBackCardSaid : Prop := Claim7.holds Tryd.pinned (.plain (OpenSpec.ofChange lexerBackSpec)) lexerBackCard

/-- THE TIED CARD OF 'gangsawlaw09.LexerColumns'. -/
def lexerColumnsCard : Claim7 := { stood := { row := lexerColumnsRow, standIns := [], harness := (true, "4348c213f5f6d5af40527727ab982a8046cf4e2f90eba70a573f6ba4af99fab9"), looks := true }, kinds := [], alts := [], laidByText := true, laidKinds := [.data, .data, .data, .sentinel, .sentinel], laidTests := true, laidLooks := .later }
def LexerColumnsCardSaid : Prop := Claim7.holds Tryd.pinned (.plain (OpenSpec.ofChange lexerColumnsSpec)) lexerColumnsCard

/-- THE TIED CARD OF 'gangsawlaw09.LexerLines'. -/
def lexerLinesCard : Claim7 := { stood := { row := lexerLinesRow, standIns := [], harness := (true, "4348c213f5f6d5af40527727ab982a8046cf4e2f90eba70a573f6ba4af99fab9"), looks := true }, kinds := [], alts := [], laidByText := true, laidKinds := [.data, .data, .data, .data, .sentinel, .sentinel, .pinned], laidTests := true, laidLooks := .later }
def LexerLinesCardSaid : Prop := Claim7.holds Tryd.pinned (.plain (OpenSpec.ofChange lexerLinesSpec)) lexerLinesCard

/-- THE SECOND FORM's CARD OF 'gangsawlaw09.LexerScans'. -/
def lexerScansUptoCard : Claim7 := { stood := { row := lexerScansUptoRow, standIns := [], harness := (true, "4348c213f5f6d5af40527727ab982a8046cf4e2f90eba70a573f6ba4af99fab9"), looks := true }, kinds := [], alts := [], laidByText := true, laidKinds := [.data, .data, .data, .sentinel, .sentinel], laidTests := true, laidLooks := .later }
def LexerScansUptoCardSaid : Prop := Claim7.holds Tryd.pinned (.plain (OpenSpec.upto lexerScansSpec)) lexerScansUptoCard

/-- THE SECOND FORM's CARD OF 'gangsawlaw09.LexerNames'. -/
def lexerNamesUptoCard : Claim7 := { stood := { row := lexerNamesUptoRow, standIns := [], harness := (true, "4348c213f5f6d5af40527727ab982a8046cf4e2f90eba70a573f6ba4af99fab9"), looks := true }, kinds := [], alts := [], laidByText := true, laidKinds := [.data, .data, .data, .sentinel, .sentinel], laidTests := true, laidLooks := .later }
def LexerNamesUptoCardSaid : Prop := Claim7.holds Tryd.pinned (.plain (OpenSpec.upto lexerNamesSpec)) lexerNamesUptoCard

/-- THE SECOND FORM's CARD OF 'gangsawlaw09.LexerSpells'. -/
def lexerSpellsUptoCard : Claim7 := { stood := { row := lexerSpellsUptoRow, standIns := [], harness := (true, "4348c213f5f6d5af40527727ab982a8046cf4e2f90eba70a573f6ba4af99fab9"), looks := true }, kinds := [], alts := [], laidByText := true, laidKinds := [.data, .data, .data, .sentinel, .sentinel], laidTests := true, laidLooks := .later }
def LexerSpellsUptoCardSaid : Prop := Claim7.holds Tryd.pinned (.plain (OpenSpec.upto lexerSpellsSpec)) lexerSpellsUptoCard

/-- THE SECOND FORM's CARD OF 'gangsawlaw09.LexerBack'. -/
def lexerBackUptoCard : Claim7 := { stood := { row := lexerBackUptoRow, standIns := [], harness := (true, "4348c213f5f6d5af40527727ab982a8046cf4e2f90eba70a573f6ba4af99fab9"), looks := true }, kinds := [], alts := [], laidByText := true, laidKinds := [.data, .data, .data, .sentinel, .sentinel], laidTests := true, laidLooks := .later }
def LexerBackUptoCardSaid : Prop := Claim7.holds Tryd.pinned (.plain (OpenSpec.upto lexerBackSpec)) lexerBackUptoCard

/-- THE SECOND FORM's CARD OF 'gangsawlaw09.LexerColumns'. -/
def lexerColumnsUptoCard : Claim7 := { stood := { row := lexerColumnsUptoRow, standIns := [], harness := (true, "4348c213f5f6d5af40527727ab982a8046cf4e2f90eba70a573f6ba4af99fab9"), looks := true }, kinds := [], alts := [], laidByText := true, laidKinds := [.data, .data, .data, .sentinel, .sentinel], laidTests := true, laidLooks := .later }
def LexerColumnsUptoCardSaid : Prop := Claim7.holds Tryd.pinned (.plain (OpenSpec.upto lexerColumnsSpec)) lexerColumnsUptoCard

/-- THE SECOND FORM's CARD OF 'gangsawlaw09.LexerLines'. -/
def lexerLinesUptoCard : Claim7 := { stood := { row := lexerLinesUptoRow, standIns := [], harness := (true, "4348c213f5f6d5af40527727ab982a8046cf4e2f90eba70a573f6ba4af99fab9"), looks := true }, kinds := [], alts := [], laidByText := true, laidKinds := [.data, .data, .data, .data, .sentinel, .sentinel, .pinned], laidTests := true, laidLooks := .later }
def LexerLinesUptoCardSaid : Prop := Claim7.holds Tryd.pinned (.plain (OpenSpec.upto lexerLinesSpec)) lexerLinesUptoCard
end Rows
end Go.Proofs.YtijbapbijpdpiaaDoor
