/-
  DERIVED. GIVEN WITH THE SEED: THE CARDS: each row of YtgmhcmmdfejcmaaDoorRows.lean that lists a variable, with what it lists TIED to the program's text (the seventh form; the later family's looks); each row that meets fmt, with fmt's text TOLD by the authors' own Lean function (tested against real Go, not proved from fmt's source: count such statements apart). THE CARD IS WHAT COUNTS. Prove the row's statement (the work); the ties are given (YtgmhcmmdfejcmaaDoorTie.lean); close each card by the builder's one call (the guide's Derived/Test/ToyasCard.lean, 'card_holds'). Laid BY PROGRAM, IN A SANDBOX (cutbox-door.mjs). By AI agents, Wed Nov 11 2026. No macro, syntax, notation, axiom, sorry.
-/
import Derived.Test.YtgmhcmmdfejcmaaDoorRows
import GoSem.ClaimSeven
namespace Go.Proofs.YtgmhcmmdfejcmaaDoor
namespace Rows

/-- THE TIED CARD OF 'gangsawlaw55.JournalFiles'. -/
def journalFilesCard : Claim7 := { stood := { row := journalFilesRow, standIns := [], harness := (true, "809a525089f94134f46fe2da150a43d8ccab83f61835b0148eeda4e2cf7d4ead"), looks := false }, kinds := [], alts := [], laidByText := true, laidKinds := [.data, .data, .data], laidTests := true, laidLooks := .later }
def JournalFilesCardSaid : Prop := Claim7.holds Tryd.pinned (.plain (OpenSpec.ofChange journalFilesSpec)) journalFilesCard

/-- THE TIED CARD OF 'gangsawlaw55.JournalFrames'. -/
def journalFramesCard : Claim7 := { stood := { row := journalFramesRow, standIns := [], harness := (true, "809a525089f94134f46fe2da150a43d8ccab83f61835b0148eeda4e2cf7d4ead"), looks := false }, kinds := [], alts := [], laidByText := true, laidKinds := [.data, .data, .data], laidTests := true, laidLooks := .later }
def JournalFramesCardSaid : Prop := Claim7.holds Tryd.pinned (.plain (OpenSpec.ofChange journalFramesSpec)) journalFramesCard

/-- THE TIED CARD OF 'gangsawlaw55.JournalPlays'. -/
def journalPlaysCard : Claim7 := { stood := { row := journalPlaysRow, standIns := [], harness := (true, "809a525089f94134f46fe2da150a43d8ccab83f61835b0148eeda4e2cf7d4ead"), looks := false }, kinds := [], alts := [], laidByText := true, laidKinds := [.data, .data, .data], laidTests := true, laidLooks := .later }
def JournalPlaysCardSaid : Prop := Claim7.holds Tryd.pinned (.plain (OpenSpec.ofChange journalPlaysSpec)) journalPlaysCard

/-- THE TIED CARD OF 'gangsawlaw55.JournalSafe'. -/
def journalSafeCard : Claim7 := { stood := { row := journalSafeRow, standIns := [], harness := (true, "809a525089f94134f46fe2da150a43d8ccab83f61835b0148eeda4e2cf7d4ead"), looks := false }, kinds := [], alts := [], laidByText := true, laidKinds := [.data, .data, .data], laidTests := true, laidLooks := .later }
def JournalSafeCardSaid : Prop := Claim7.holds Tryd.pinned (.plain (OpenSpec.ofChange journalSafeSpec)) journalSafeCard

/-- THE TIED CARD OF 'gangsawlaw55.JournalChains'. -/
def journalChainsCard : Claim7 := { stood := { row := journalChainsRow, standIns := [], harness := (true, "809a525089f94134f46fe2da150a43d8ccab83f61835b0148eeda4e2cf7d4ead"), looks := false }, kinds := [], alts := [], laidByText := true, laidKinds := [.data, .data, .data], laidTests := true, laidLooks := .later }
def JournalChainsCardSaid : Prop := Claim7.holds Tryd.pinned (.plain (OpenSpec.ofChange journalChainsSpec)) journalChainsCard

/-- THE TIED CARD OF 'gangsawlaw55.JournalUses'. -/
def journalUsesCard : Claim7 := { stood := { row := journalUsesRow, standIns := [], harness := (true, "809a525089f94134f46fe2da150a43d8ccab83f61835b0148eeda4e2cf7d4ead"), looks := false }, kinds := [], alts := [], laidByText := true, laidKinds := [.data, .data, .data], laidTests := true, laidLooks := .later }
def JournalUsesCardSaid : Prop := Claim7.holds Tryd.pinned (.plain (OpenSpec.ofChange journalUsesSpec)) journalUsesCard

/-- THE TIED CARD OF 'gangsawlaw55.JournalAgain'. -/
def journalAgainCard : Claim7 := { stood := { row := journalAgainRow, standIns := [], harness := (true, "809a525089f94134f46fe2da150a43d8ccab83f61835b0148eeda4e2cf7d4ead"), looks := false }, kinds := [], alts := [], laidByText := true, laidKinds := [.data, .data, .data], laidTests := true, laidLooks := .later }
def JournalAgainCardSaid : Prop := Claim7.holds Tryd.pinned (.plain (OpenSpec.ofChange journalAgainSpec)) journalAgainCard

/-- THE SECOND FORM's CARD OF 'gangsawlaw55.JournalFiles'. -/
def journalFilesUptoCard : Claim7 := { stood := { row := journalFilesUptoRow, standIns := [], harness := (true, "809a525089f94134f46fe2da150a43d8ccab83f61835b0148eeda4e2cf7d4ead"), looks := false }, kinds := [], alts := [], laidByText := true, laidKinds := [.data, .data, .data], laidTests := true, laidLooks := .later }
def JournalFilesUptoCardSaid : Prop := Claim7.holds Tryd.pinned (.plain (OpenSpec.upto journalFilesSpec)) journalFilesUptoCard

/-- THE SECOND FORM's CARD OF 'gangsawlaw55.JournalFrames'. -/
def journalFramesUptoCard : Claim7 := { stood := { row := journalFramesUptoRow, standIns := [], harness := (true, "809a525089f94134f46fe2da150a43d8ccab83f61835b0148eeda4e2cf7d4ead"), looks := false }, kinds := [], alts := [], laidByText := true, laidKinds := [.data, .data, .data], laidTests := true, laidLooks := .later }
def JournalFramesUptoCardSaid : Prop := Claim7.holds Tryd.pinned (.plain (OpenSpec.upto journalFramesSpec)) journalFramesUptoCard

/-- THE SECOND FORM's CARD OF 'gangsawlaw55.JournalPlays'. -/
def journalPlaysUptoCard : Claim7 := { stood := { row := journalPlaysUptoRow, standIns := [], harness := (true, "809a525089f94134f46fe2da150a43d8ccab83f61835b0148eeda4e2cf7d4ead"), looks := false }, kinds := [], alts := [], laidByText := true, laidKinds := [.data, .data, .data], laidTests := true, laidLooks := .later }
def JournalPlaysUptoCardSaid : Prop := Claim7.holds Tryd.pinned (.plain (OpenSpec.upto journalPlaysSpec)) journalPlaysUptoCard

/-- THE SECOND FORM's CARD OF 'gangsawlaw55.JournalSafe'. -/
def journalSafeUptoCard : Claim7 := { stood := { row := journalSafeUptoRow, standIns := [], harness := (true, "809a525089f94134f46fe2da150a43d8ccab83f61835b0148eeda4e2cf7d4ead"), looks := false }, kinds := [], alts := [], laidByText := true, laidKinds := [.data, .data, .data], laidTests := true, laidLooks := .later }
def JournalSafeUptoCardSaid : Prop := Claim7.holds Tryd.pinned (.plain (OpenSpec.upto journalSafeSpec)) journalSafeUptoCard

/-- THE SECOND FORM's CARD OF 'gangsawlaw55.JournalChains'. -/
def journalChainsUptoCard : Claim7 := { stood := { row := journalChainsUptoRow, standIns := [], harness := (true, "809a525089f94134f46fe2da150a43d8ccab83f61835b0148eeda4e2cf7d4ead"), looks := false }, kinds := [], alts := [], laidByText := true, laidKinds := [.data, .data, .data], laidTests := true, laidLooks := .later }
def JournalChainsUptoCardSaid : Prop := Claim7.holds Tryd.pinned (.plain (OpenSpec.upto journalChainsSpec)) journalChainsUptoCard

/-- THE SECOND FORM's CARD OF 'gangsawlaw55.JournalUses'. -/
def journalUsesUptoCard : Claim7 := { stood := { row := journalUsesUptoRow, standIns := [], harness := (true, "809a525089f94134f46fe2da150a43d8ccab83f61835b0148eeda4e2cf7d4ead"), looks := false }, kinds := [], alts := [], laidByText := true, laidKinds := [.data, .data, .data], laidTests := true, laidLooks := .later }
def JournalUsesUptoCardSaid : Prop := Claim7.holds Tryd.pinned (.plain (OpenSpec.upto journalUsesSpec)) journalUsesUptoCard

/-- THE SECOND FORM's CARD OF 'gangsawlaw55.JournalAgain'. -/
def journalAgainUptoCard : Claim7 := { stood := { row := journalAgainUptoRow, standIns := [], harness := (true, "809a525089f94134f46fe2da150a43d8ccab83f61835b0148eeda4e2cf7d4ead"), looks := false }, kinds := [], alts := [], laidByText := true, laidKinds := [.data, .data, .data], laidTests := true, laidLooks := .later }
def JournalAgainUptoCardSaid : Prop := Claim7.holds Tryd.pinned (.plain (OpenSpec.upto journalAgainSpec)) journalAgainUptoCard
end Rows
end Go.Proofs.YtgmhcmmdfejcmaaDoor
