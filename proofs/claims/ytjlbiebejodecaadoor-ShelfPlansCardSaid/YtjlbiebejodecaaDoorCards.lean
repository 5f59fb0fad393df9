/-
  DERIVED. GIVEN WITH THE SEED: THE CARDS: each row of YtjlbiebejodecaaDoorRows.lean that lists a variable, with what it lists TIED to the program's text (the seventh form; the later family's looks); each row that meets fmt, with fmt's text TOLD by the authors' own Lean function (tested against real Go, not proved from fmt's source: count such statements apart). THE CARD IS WHAT COUNTS. Prove the row's statement (the work); the ties are given (YtjlbiebejodecaaDoorTie.lean); close each card by the builder's one call (the guide's Derived/Test/ToyasCard.lean, 'card_holds'). Laid BY PROGRAM, IN A SANDBOX (cutbox-door.mjs). By AI agents, Wed Nov 11 2026. No macro, syntax, notation, axiom, sorry.
-/
import Derived.Test.YtjlbiebejodecaaDoorRows
import GoSem.ClaimSeven
namespace Go.Proofs.YtjlbiebejodecaaDoor
namespace Rows

/-- THE TIED CARD OF 'gangsawlaw27.ShelfOrders'. -/
def shelfOrdersCard : Claim7 := { stood := { row := shelfOrdersRow, standIns := [], harness := (true, "7fa1a7cb772148955ccfbf1e4caa937c6974330e13b6db7b5ecda8eb1ac844d0"), looks := false }, kinds := [], alts := [], laidByText := true, laidKinds := [.data, .data, .data], laidTests := true, laidLooks := .later }
def ShelfOrdersCardSaid : Prop := Claim7.holds Tryd.pinned (.plain (OpenSpec.ofChange shelfOrdersSpec)) shelfOrdersCard

/-- THE TIED CARD OF 'gangsawlaw27.ShelfPacks'. -/
def shelfPacksCard : Claim7 := { stood := { row := shelfPacksRow, standIns := [], harness := (true, "7fa1a7cb772148955ccfbf1e4caa937c6974330e13b6db7b5ecda8eb1ac844d0"), looks := false }, kinds := [], alts := [], laidByText := true, laidKinds := [.data, .data, .data], laidTests := true, laidLooks := .later }
def ShelfPacksCardSaid : Prop := Claim7.holds Tryd.pinned (.plain (OpenSpec.ofChange shelfPacksSpec)) shelfPacksCard

/-- THE TIED CARD OF 'gangsawlaw27.ShelfValid'. -/
def shelfValidCard : Claim7 := { stood := { row := shelfValidRow, standIns := [], harness := (true, "7fa1a7cb772148955ccfbf1e4caa937c6974330e13b6db7b5ecda8eb1ac844d0"), looks := false }, kinds := [], alts := [], laidByText := true, laidKinds := [.data, .data, .data], laidTests := true, laidLooks := .later }
def ShelfValidCardSaid : Prop := Claim7.holds Tryd.pinned (.plain (OpenSpec.ofChange shelfValidSpec)) shelfValidCard

/-- THE TIED CARD OF 'gangsawlaw27.ShelfHeights'. -/
def shelfHeightsCard : Claim7 := { stood := { row := shelfHeightsRow, standIns := [], harness := (true, "7fa1a7cb772148955ccfbf1e4caa937c6974330e13b6db7b5ecda8eb1ac844d0"), looks := false }, kinds := [], alts := [], laidByText := true, laidKinds := [.data, .data, .data], laidTests := true, laidLooks := .later }
def ShelfHeightsCardSaid : Prop := Claim7.holds Tryd.pinned (.plain (OpenSpec.ofChange shelfHeightsSpec)) shelfHeightsCard

/-- THE TIED CARD OF 'gangsawlaw27.ShelfPlans'. -/
def shelfPlansCard : Claim7 := { stood := { row := shelfPlansRow, standIns := [], harness := (true, "7fa1a7cb772148955ccfbf1e4caa937c6974330e13b6db7b5ecda8eb1ac844d0"), looks := false }, kinds := [], alts := [], laidByText := true, laidKinds := [.data, .data, .data], laidTests := true, laidLooks := .later }
def ShelfPlansCardSaid : Prop := Claim7.holds Tryd.pinned (.plain (OpenSpec.ofChange shelfPlansSpec)) shelfPlansCard

/-- THE TIED CARD OF 'gangsawlaw27.ShelfSheets'. -/
def shelfSheetsCard : Claim7 := { stood := { row := shelfSheetsRow, standIns := [], harness := (true, "7fa1a7cb772148955ccfbf1e4caa937c6974330e13b6db7b5ecda8eb1ac844d0"), looks := false }, kinds := [], alts := [], laidByText := true, laidKinds := [.data, .data, .data], laidTests := true, laidLooks := .later }
def ShelfSheetsCardSaid : Prop := Claim7.holds Tryd.pinned (.plain (OpenSpec.ofChange shelfSheetsSpec)) shelfSheetsCard

/-- THE TIED CARD OF 'gangsawlaw27.ShelfApart'. -/
def shelfApartCard : Claim7 := { stood := { row := shelfApartRow, standIns := [], harness := (true, "7fa1a7cb772148955ccfbf1e4caa937c6974330e13b6db7b5ecda8eb1ac844d0"), looks := false }, kinds := [], alts := [], laidByText := true, laidKinds := [.data, .data, .data], laidTests := true, laidLooks := .later }
def ShelfApartCardSaid : Prop := Claim7.holds Tryd.pinned (.plain (OpenSpec.ofChange shelfApartSpec)) shelfApartCard

/-- THE TIED CARD OF 'gangsawlaw27.ShelfBound'. -/
def shelfBoundCard : Claim7 := { stood := { row := shelfBoundRow, standIns := [], harness := (true, "7fa1a7cb772148955ccfbf1e4caa937c6974330e13b6db7b5ecda8eb1ac844d0"), looks := false }, kinds := [], alts := [], laidByText := true, laidKinds := [.data, .data, .data], laidTests := true, laidLooks := .later }
def ShelfBoundCardSaid : Prop := Claim7.holds Tryd.pinned (.plain (OpenSpec.ofChange shelfBoundSpec)) shelfBoundCard

/-- THE TIED CARD OF 'gangsawlaw27.ShelfEach'. -/
def shelfEachCard : Claim7 := { stood := { row := shelfEachRow, standIns := [], harness := (true, "7fa1a7cb772148955ccfbf1e4caa937c6974330e13b6db7b5ecda8eb1ac844d0"), looks := false }, kinds := [], alts := [], laidByText := true, laidKinds := [.data, .data, .data], laidTests := true, laidLooks := .later }
def ShelfEachCardSaid : Prop := Claim7.holds Tryd.pinned (.plain (OpenSpec.ofChange shelfEachSpec)) shelfEachCard

/-- THE SECOND FORM's CARD OF 'gangsawlaw27.ShelfOrders'. -/
def shelfOrdersUptoCard : Claim7 := { stood := { row := shelfOrdersUptoRow, standIns := [], harness := (true, "7fa1a7cb772148955ccfbf1e4caa937c6974330e13b6db7b5ecda8eb1ac844d0"), looks := false }, kinds := [], alts := [], laidByText := true, laidKinds := [.data, .data, .data], laidTests := true, laidLooks := .later }
def ShelfOrdersUptoCardSaid : Prop := Claim7.holds Tryd.pinned (.plain (OpenSpec.upto shelfOrdersSpec)) shelfOrdersUptoCard

/-- THE SECOND FORM's CARD OF 'gangsawlaw27.ShelfPacks'. -/
def shelfPacksUptoCard : Claim7 := { stood := { row := shelfPacksUptoRow, standIns := [], harness := (true, "7fa1a7cb772148955ccfbf1e4caa937c6974330e13b6db7b5ecda8eb1ac844d0"), looks := false }, kinds := [], alts := [], laidByText := true, laidKinds := [.data, .data, .data], laidTests := true, laidLooks := .later }
def ShelfPacksUptoCardSaid : Prop := Claim7.holds Tryd.pinned (.plain (OpenSpec.upto shelfPacksSpec)) shelfPacksUptoCard

/-- THE SECOND FORM's CARD OF 'gangsawlaw27.ShelfValid'. -/
def shelfValidUptoCard : Claim7 := { stood := { row := shelfValidUptoRow, standIns := [], harness := (true, "7fa1a7cb772148955ccfbf1e4caa937c6974330e13b6db7b5ecda8eb1ac844d0"), looks := false }, kinds := [], alts := [], laidByText := true, laidKinds := [.data, .data, .data], laidTests := true, laidLooks := .later }
def ShelfValidUptoCardSaid : Prop := Claim7.holds Tryd.pinned (.plain (OpenSpec.upto shelfValidSpec)) shelfValidUptoCard

/-- THE SECOND FORM's CARD OF 'gangsawlaw27.ShelfHeights'. -/
def shelfHeightsUptoCard : Claim7 := { stood := { row := shelfHeightsUptoRow, standIns := [], harness := (true, "7fa1a7cb772148955ccfbf1e4caa937c6974330e13b6db7b5ecda8eb1ac844d0"), looks := false }, kinds := [], alts := [], laidByText := true, laidKinds := [.data, .data, .data], laidTests := true, laidLooks := .later }
def ShelfHeightsUptoCardSaid : Prop := Claim7.holds Tryd.pinned (.plain (OpenSpec.upto shelfHeightsSpec)) shelfHeightsUptoCard

/-- THE SECOND FORM's CARD OF 'gangsawlaw27.ShelfPlans'. -/
def shelfPlansUptoCard : Claim7 := { stood := { row := shelfPlansUptoRow, standIns := [], harness := (true, "7fa1a7cb772148955ccfbf1e4caa937c6974330e13b6db7b5ecda8eb1ac844d0"), looks := false }, kinds := [], alts := [], laidByText := true, laidKinds := [.data, .data, .data], laidTests := true, laidLooks := .later }
def ShelfPlansUptoCardSaid : Prop := Claim7.holds Tryd.pinned (.plain (OpenSpec.upto shelfPlansSpec)) shelfPlansUptoCard

/-- THE SECOND FORM's CARD OF 'gangsawlaw27.ShelfSheets'. -/
def shelfSheetsUptoCard : Claim7 := { stood := { row := shelfSheetsUptoRow, standIns := [], harness := (true, "7fa1a7cb772148955ccfbf1e4caa937c6974330e13b6db7b5ecda8eb1ac844d0"), looks := false }, kinds := [], alts := [], laidByText := true, laidKinds := [.data, .data, .data], laidTests := true, laidLooks := .later }
def ShelfSheetsUptoCardSaid : Prop := Claim7.holds Tryd.pinned (.plain (OpenSpec.upto shelfSheetsSpec)) shelfSheetsUptoCard

/-- THE SECOND FORM's CARD OF 'gangsawlaw27.ShelfApart'. -/
def shelfApartUptoCard : Claim7 := { stood := { row := shelfApartUptoRow, standIns := [], harness := (true, "7fa1a7cb772148955ccfbf1e4caa937c6974330e13b6db7b5ecda8eb1ac844d0"), looks := false }, kinds := [], alts := [], laidByText := true, laidKinds := [.data, .data, .data], laidTests := true, laidLooks := .later }
def ShelfApartUptoCardSaid : Prop := Claim7.holds Tryd.pinned (.plain (OpenSpec.upto shelfApartSpec)) shelfApartUptoCard

/-- THE SECOND FORM's CARD OF 'gangsawlaw27.ShelfBound'. -/
def shelfBoundUptoCard : Claim7 := { stood := { row := shelfBoundUptoRow, standIns := [], harness := (true, "7fa1a7cb772148955ccfbf1e4caa937c6974330e13b6db7b5ecda8eb1ac844d0"), looks := false }, kinds := [], alts := [], laidByText := true, laidKinds := [.data, .data, .data], laidTests := true, laidLooks := .later }
def ShelfBoundUptoCardSaid : Prop := Claim7.holds Tryd.pinned (.plain (OpenSpec.upto shelfBoundSpec)) shelfBoundUptoCard

/-- THE SECOND FORM's CARD OF 'gangsawlaw27.ShelfEach'. -/
def shelfEachUptoCard : Claim7 := { stood := { row := shelfEachUptoRow, standIns := [], harness := (true, "7fa1a7cb772148955ccfbf1e4caa937c6974330e13b6db7b5ecda8eb1ac844d0"), looks := false }, kinds := [], alts := [], laidByText := true, laidKinds := [.data, .data, .data], laidTests := true, laidLooks := .later }
def ShelfEachUptoCardSaid : Prop := Claim7.holds Tryd.pinned (.plain (OpenSpec.upto shelfEachSpec)) shelfEachUptoCard
end Rows
end Go.Proofs.YtjlbiebejodecaaDoor
