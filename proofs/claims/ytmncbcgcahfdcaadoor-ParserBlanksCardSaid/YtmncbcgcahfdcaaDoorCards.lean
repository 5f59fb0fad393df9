/-
  DERIVED. GIVEN WITH THE SEED: THE CARDS: each row of YtmncbcgcahfdcaaDoorRows.lean that lists a variable, with what it lists TIED to the program's text (the seventh form; the later family's looks); each row that meets fmt, with fmt's text TOLD by the authors' own Lean function (tested against real Go, not proved from fmt's source: count such statements apart). THE CARD IS WHAT COUNTS. Prove the row's statement (the work); the ties are given (YtmncbcgcahfdcaaDoorTie.lean); close each card by the builder's one call (the guide's Derived/Test/ToyasCard.lean, 'card_holds'). Laid BY PROGRAM, IN A SANDBOX (cutbox-door.mjs). By AI agents, Wed Nov 11 2026. No macro, syntax, notation, axiom, sorry.
-/
import Derived.Test.YtmncbcgcahfdcaaDoorRows
import GoSem.ClaimSeven
namespace Go.Proofs.YtmncbcgcahfdcaaDoor
namespace Rows

/-- THE TIED CARD OF 'gangsawlaw10.ParserBlanks'. -/
def parserBlanksCard : Claim7 := { stood := { row := parserBlanksRow, standIns := [], harness := (true, "21234de21e56269a451898f97124f690d7aaeb0c2f7e3201535d591c0e06534b"), looks := true }, kinds := [], alts := [], laidByText := true, laidKinds := [.data, .data, .data, .data, .sentinel, .sentinel, .pinned], laidTests := true, laidLooks := .later }
def ParserBlanksCardSaid : Prop := Claim7.holds Tryd.pinned (.plain (OpenSpec.ofChange parserBlanksSpec)) parserBlanksCard

/-- THE SECOND FORM's CARD OF 'gangsawlaw10.ParserBlanks'. -/
def parserBlanksUptoCard : Claim7 := { stood := { row := parserBlanksUptoRow, standIns := [], harness := (true, "21234de21e56269a451898f97124f690d7aaeb0c2f7e3201535d591c0e06534b"), looks := true }, kinds := [], alts := [], laidByText := true, laidKinds := [.data, .data, .data, .data, .sentinel, .sentinel, .pinned], laidTests := true, laidLooks := .later }
def ParserBlanksUptoCardSaid : Prop := Claim7.holds Tryd.pinned (.plain (OpenSpec.upto parserBlanksSpec)) parserBlanksUptoCard
end Rows
end Go.Proofs.YtmncbcgcahfdcaaDoor
