/-
  DERIVED. GIVEN WITH THE SEED: THE CARDS: each row of YtmncbcgcahfdcaaGreatDoorRows.lean that lists a variable, with what it lists TIED to the program's text (the seventh form; the later family's looks); each row that meets fmt, with fmt's text TOLD by the authors' own Lean function (tested against real Go, not proved from fmt's source: count such statements apart). THE CARD IS WHAT COUNTS. Prove the row's statement (the work); the ties are given (YtmncbcgcahfdcaaGreatDoorTie.lean); close each card by the builder's one call (the guide's Derived/Test/ToyasCard.lean, 'card_holds'). Laid BY PROGRAM, IN A SANDBOX (cutbox-door.mjs). By AI agents, Wed Nov 11 2026. No macro, syntax, notation, axiom, sorry.
-/
import Derived.Test.YtmncbcgcahfdcaaGreatDoorRows
import GoSem.ClaimSeven
namespace Go.Proofs.YtmncbcgcahfdcaaGreatDoor
namespace Rows

/-- THE TIED CARD OF 'gangsawlaw10.ParserParses'. -/
def parserParsesCard : Claim7 := { stood := { row := parserParsesRow, standIns := [], harness := (true, "b696f982a35b46a3e2af65e84384244ab4fda4bcfd7619372976b05a7d0990f3"), looks := true }, kinds := [], alts := [], laidByText := true, laidKinds := [.data, .data, .data, .data, .sentinel, .sentinel, .pinned], laidTests := true, laidLooks := .later }
def ParserParsesCardSaid : Prop := Claim7.holds Tryz.pinned (.plain (OpenSpec.ofChange parserParsesSpec)) parserParsesCard

/-- THE TIED CARD OF 'gangsawlaw10.ParserPicks'. -/
def parserPicksCard : Claim7 := { stood := { row := parserPicksRow, standIns := [], harness := (true, "b696f982a35b46a3e2af65e84384244ab4fda4bcfd7619372976b05a7d0990f3"), looks := true }, kinds := [], alts := [], laidByText := true, laidKinds := [.data, .data, .data, .data, .sentinel, .sentinel, .pinned], laidTests := true, laidLooks := .later }
def ParserPicksCardSaid : Prop := Claim7.holds Tryz.pinned (.plain (OpenSpec.ofChange parserPicksSpec)) parserPicksCard

/-- THE TIED CARD OF 'gangsawlaw10.ParserLines'. -/
def parserLinesCard : Claim7 := { stood := { row := parserLinesRow, standIns := [], harness := (true, "b696f982a35b46a3e2af65e84384244ab4fda4bcfd7619372976b05a7d0990f3"), looks := true }, kinds := [], alts := [], laidByText := true, laidKinds := [.data, .data, .data, .data, .sentinel, .sentinel, .pinned], laidTests := true, laidLooks := .later }
def ParserLinesCardSaid : Prop := Claim7.holds Tryz.pinned (.plain (OpenSpec.ofChange parserLinesSpec)) parserLinesCard

/-- THE TIED CARD OF 'gangsawlaw10.ParserBegins'. -/
def parserBeginsCard : Claim7 := { stood := { row := parserBeginsRow, standIns := [], harness := (true, "b696f982a35b46a3e2af65e84384244ab4fda4bcfd7619372976b05a7d0990f3"), looks := true }, kinds := [], alts := [], laidByText := true, laidKinds := [.data, .data, .data, .data, .sentinel, .sentinel, .pinned], laidTests := true, laidLooks := .later }
def ParserBeginsCardSaid : Prop := Claim7.holds Tryz.pinned (.plain (OpenSpec.ofChange parserBeginsSpec)) parserBeginsCard

/-- THE TIED CARD OF 'gangsawlaw10.ParserFinds'. -/
def parserFindsCard : Claim7 := { stood := { row := parserFindsRow, standIns := [], harness := (true, "b696f982a35b46a3e2af65e84384244ab4fda4bcfd7619372976b05a7d0990f3"), looks := true }, kinds := [], alts := [], laidByText := true, laidKinds := [.data, .data, .data, .data, .sentinel, .sentinel, .pinned], laidTests := true, laidLooks := .later }
def ParserFindsCardSaid : Prop := Claim7.holds Tryz.pinned (.plain (OpenSpec.ofChange parserFindsSpec)) parserFindsCard

/-- THE TIED CARD OF 'gangsawlaw10.ParserTrees'. -/
def parserTreesCard : Claim7 := { stood := { row := parserTreesRow, standIns := [], harness := (true, "b696f982a35b46a3e2af65e84384244ab4fda4bcfd7619372976b05a7d0990f3"), looks := true }, kinds := [], alts := [], laidByText := true, laidKinds := [.data, .data, .data, .data, .sentinel, .sentinel, .pinned], laidTests := true, laidLooks := .later }
def ParserTreesCardSaid : Prop := Claim7.holds Tryz.pinned (.plain (OpenSpec.ofChange parserTreesSpec)) parserTreesCard

/-- THE SECOND FORM's CARD OF 'gangsawlaw10.ParserParses'. -/
def parserParsesUptoCard : Claim7 := { stood := { row := parserParsesUptoRow, standIns := [], harness := (true, "b696f982a35b46a3e2af65e84384244ab4fda4bcfd7619372976b05a7d0990f3"), looks := true }, kinds := [], alts := [], laidByText := true, laidKinds := [.data, .data, .data, .data, .sentinel, .sentinel, .pinned], laidTests := true, laidLooks := .later }
def ParserParsesUptoCardSaid : Prop := Claim7.holds Tryz.pinned (.plain (OpenSpec.upto parserParsesSpec)) parserParsesUptoCard

/-- THE SECOND FORM's CARD OF 'gangsawlaw10.ParserPicks'. -/
def parserPicksUptoCard : Claim7 := { stood := { row := parserPicksUptoRow, standIns := [], harness := (true, "b696f982a35b46a3e2af65e84384244ab4fda4bcfd7619372976b05a7d0990f3"), looks := true }, kinds := [], alts := [], laidByText := true, laidKinds := [.data, .data, .data, .data, .sentinel, .sentinel, .pinned], laidTests := true, laidLooks := .later }
def ParserPicksUptoCardSaid : Prop := Claim7.holds Tryz.pinned (.plain (OpenSpec.upto parserPicksSpec)) parserPicksUptoCard

/-- THE SECOND FORM's CARD OF 'gangsawlaw10.ParserLines'. -/
def parserLinesUptoCard : Claim7 := { stood := { row := parserLinesUptoRow, standIns := [], harness := (true, "b696f982a35b46a3e2af65e84384244ab4fda4bcfd7619372976b05a7d0990f3"), looks := true }, kinds := [], alts := [], laidByText := true, laidKinds := [.data, .data, .data, .data, .sentinel, .sentinel, .pinned], laidTests := true, laidLooks := .later }
def ParserLinesUptoCardSaid : Prop := Claim7.holds Tryz.pinned (.plain (OpenSpec.upto parserLinesSpec)) parserLinesUptoCard

/-- THE SECOND FORM's CARD OF 'gangsawlaw10.ParserBegins'. -/
def parserBeginsUptoCard : Claim7 := { stood := { row := parserBeginsUptoRow, standIns := [], harness := (true, "b696f982a35b46a3e2af65e84384244ab4fda4bcfd7619372976b05a7d0990f3"), looks := true }, kinds := [], alts := [], laidByText := true, laidKinds := [.data, .data, .data, .data, .sentinel, .sentinel, .pinned], laidTests := true, laidLooks := .later }
def ParserBeginsUptoCardSaid : Prop := Claim7.holds Tryz.pinned (.plain (OpenSpec.upto parserBeginsSpec)) parserBeginsUptoCard

/-- THE SECOND FORM's CARD OF 'gangsawlaw10.ParserFinds'. -/
def parserFindsUptoCard : Claim7 := { stood := { row := parserFindsUptoRow, standIns := [], harness := (true, "b696f982a35b46a3e2af65e84384244ab4fda4bcfd7619372976b05a7d0990f3"), looks := true }, kinds := [], alts := [], laidByText := true, laidKinds := [.data, .data, .data, .data, .sentinel, .sentinel, .pinned], laidTests := true, laidLooks := .later }
def ParserFindsUptoCardSaid : Prop := Claim7.holds Tryz.pinned (.plain (OpenSpec.upto parserFindsSpec)) parserFindsUptoCard

/-- THE SECOND FORM's CARD OF 'gangsawlaw10.ParserTrees'. -/
def parserTreesUptoCard : Claim7 := { stood := { row := parserTreesUptoRow, standIns := [], harness := (true, "b696f982a35b46a3e2af65e84384244ab4fda4bcfd7619372976b05a7d0990f3"), looks := true }, kinds := [], alts := [], laidByText := true, laidKinds := [.data, .data, .data, .data, .sentinel, .sentinel, .pinned], laidTests := true, laidLooks := .later }
def ParserTreesUptoCardSaid : Prop := Claim7.holds Tryz.pinned (.plain (OpenSpec.upto parserTreesSpec)) parserTreesUptoCard
end Rows
end Go.Proofs.YtmncbcgcahfdcaaGreatDoor
