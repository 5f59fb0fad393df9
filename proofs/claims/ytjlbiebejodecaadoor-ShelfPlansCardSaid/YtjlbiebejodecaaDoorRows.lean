/-
  NARROWER THAN 'FOR EVERY INPUT', by the rows' own cells (each row's printed sentence says how): ShelfOrders: laid · ShelfPacks: laid · ShelfValid: laid · ShelfHeights: laid · ShelfPlans: laid · ShelfSheets: laid · ShelfApart: laid · ShelfBound: laid · ShelfEach: laid.
  DERIVED. THE GIVEN ROWS OF THIS SEAT. 9 by the template 'for every input the law returns true; each argument reads behind the call as it read before'; 0 by the template 'total and deterministic' (their statements: YtjlbiebejodecaaDoorTotals.lean).
  GIVEN WITH THE SEED: the statements are not yours to turn. If you find one false, say at which input.
  Laid BY PROGRAM, IN A SANDBOX (cutbox-rows.mjs): the forced cells as the released guide's own fill.sh prints them over the translation e14a5ae6a755979d… (all of the seat's roots in one cut). By AI agents, Wed Nov 11 2026. No macro, syntax, notation, axiom, sorry.
-/
import Derived.Test.YtjlbiebejodecaaDoorChecked
import GoSem.Claim
import GoSem.ClaimJoined
import GoSem.ClaimMapViews
import Derived.JoinedTies
import Derived.KernelRfl
namespace Go.Proofs.YtjlbiebejodecaaDoor
/- THE CELL 'sum', in the pinned program and in every row, IS THE sha256 OF THE DUMP (.gsa) THAT YtjlbiebejodecaaDoorProg.lean LOADS. Nothing in Lean hashes anything: it is a label: what it is worth is what the hold of that sum in a sandbox is worth. -/
noncomputable def Tryd.pinned : Pinned := { name := "ytjlbiebejodecaadoor", sum := "e14a5ae6a755979dbb20dd0e230b0cf076549cb40a77d1a1bf9b53078202a853", checked := Tryd.checked }
namespace Rows
def none {H : Type} : Left H := { results := [], args := [] }

/- WHAT THE LISTED PACKAGE-LEVEL VARIABLES READ AS WHEN THE CALL BEGINS. Each datum BY PROGRAM (the guide's laid-datum.mjs) off the statement by which the dump's own 'gosem.cut.vars' lays the variable. In a bare row this is a premise. The card (YtjlbiebejodecaaDoorCards.lean) ties it to the program's text. -/
def laid_math_bits_deBruijn32tab {H : Type} : DataW H := .agg [.lit (.int .u8 0), .lit (.int .u8 1), .lit (.int .u8 28), .lit (.int .u8 2), .lit (.int .u8 29), .lit (.int .u8 14), .lit (.int .u8 24), .lit (.int .u8 3), .lit (.int .u8 30), .lit (.int .u8 22), .lit (.int .u8 20), .lit (.int .u8 15), .lit (.int .u8 25), .lit (.int .u8 17), .lit (.int .u8 4), .lit (.int .u8 8), .lit (.int .u8 31), .lit (.int .u8 27), .lit (.int .u8 13), .lit (.int .u8 23), .lit (.int .u8 21), .lit (.int .u8 19), .lit (.int .u8 16), .lit (.int .u8 7), .lit (.int .u8 26), .lit (.int .u8 12), .lit (.int .u8 18), .lit (.int .u8 6), .lit (.int .u8 11), .lit (.int .u8 5), .lit (.int .u8 10), .lit (.int .u8 9)]
def laid_math_bits_deBruijn64tab {H : Type} : DataW H := .agg [.lit (.int .u8 0), .lit (.int .u8 1), .lit (.int .u8 56), .lit (.int .u8 2), .lit (.int .u8 57), .lit (.int .u8 49), .lit (.int .u8 28), .lit (.int .u8 3), .lit (.int .u8 61), .lit (.int .u8 58), .lit (.int .u8 42), .lit (.int .u8 50), .lit (.int .u8 38), .lit (.int .u8 29), .lit (.int .u8 17), .lit (.int .u8 4), .lit (.int .u8 62), .lit (.int .u8 47), .lit (.int .u8 59), .lit (.int .u8 36), .lit (.int .u8 45), .lit (.int .u8 43), .lit (.int .u8 51), .lit (.int .u8 22), .lit (.int .u8 53), .lit (.int .u8 39), .lit (.int .u8 33), .lit (.int .u8 30), .lit (.int .u8 24), .lit (.int .u8 18), .lit (.int .u8 12), .lit (.int .u8 5), .lit (.int .u8 63), .lit (.int .u8 55), .lit (.int .u8 48), .lit (.int .u8 27), .lit (.int .u8 60), .lit (.int .u8 41), .lit (.int .u8 37), .lit (.int .u8 16), .lit (.int .u8 46), .lit (.int .u8 35), .lit (.int .u8 44), .lit (.int .u8 21), .lit (.int .u8 52), .lit (.int .u8 32), .lit (.int .u8 23), .lit (.int .u8 11), .lit (.int .u8 54), .lit (.int .u8 26), .lit (.int .u8 40), .lit (.int .u8 15), .lit (.int .u8 34), .lit (.int .u8 20), .lit (.int .u8 31), .lit (.int .u8 10), .lit (.int .u8 25), .lit (.int .u8 14), .lit (.int .u8 19), .lit (.int .u8 9), .lit (.int .u8 13), .lit (.int .u8 8), .lit (.int .u8 7), .lit (.int .u8 6)]
def laid_internal_strconv_uint64pow10 {H : Type} : DataW H := .agg [.lit (.int .u64 1), .lit (.int .u64 10), .lit (.int .u64 100), .lit (.int .u64 1000), .lit (.int .u64 10000), .lit (.int .u64 100000), .lit (.int .u64 1000000), .lit (.int .u64 10000000), .lit (.int .u64 100000000), .lit (.int .u64 1000000000), .lit (.int .u64 10000000000), .lit (.int .u64 100000000000), .lit (.int .u64 1000000000000), .lit (.int .u64 10000000000000), .lit (.int .u64 100000000000000), .lit (.int .u64 1000000000000000), .lit (.int .u64 10000000000000000), .lit (.int .u64 100000000000000000), .lit (.int .u64 1000000000000000000), .lit (.int .u64 10000000000000000000)]

/-- 'gangsawlaw27.ShelfOrders': WHATEVER THE INPUT: true; the input reads as it did. -/
def shelfOrdersSpec : ChangeSpec := { name := "shelfOrders", fn := fun _ => fun
  | [d1, d2, d3, d4] => { results := [.lit (.bool true)], args := [d1, d2, d3, d4] }
  | _ => none }
def shelfOrdersRow : OpenClaim := { program := "ytjlbiebejodecaadoor", sum := "e14a5ae6a755979dbb20dd0e230b0cf076549cb40a77d1a1bf9b53078202a853", func := "gangsaw/gangsawlaw27.ShelfOrders", spec := "shelfOrders", unfollowed := true, recurses := true, named := ["internal/strconv.uint64pow10", "math/bits.deBruijn32tab", "math/bits.deBruijn64tab"], apart := false, laid := [("math/bits.deBruijn32tab", laid_math_bits_deBruijn32tab), ("math/bits.deBruijn64tab", laid_math_bits_deBruijn64tab), ("internal/strconv.uint64pow10", laid_internal_strconv_uint64pow10)] }
def ShelfOrdersSaid : Prop := shelfOrdersRow.holds Tryd.pinned (OpenSpec.ofChange shelfOrdersSpec)

/-- ITS FALSE NEIGHBOUR: 'it returns false'. Refute it at one input. -/
def shelfOrdersWrong : ChangeSpec := { name := "shelfOrders", fn := fun _ => fun
  | [d1, d2, d3, d4] => { results := [.lit (.bool false)], args := [d1, d2, d3, d4] }
  | _ => none }
def ShelfOrdersWrongFalsely : Prop := shelfOrdersRow.holds Tryd.pinned (OpenSpec.ofChange shelfOrdersWrong)

/-- 'gangsawlaw27.ShelfPacks': WHATEVER THE INPUT: true; the input reads as it did. -/
def shelfPacksSpec : ChangeSpec := { name := "shelfPacks", fn := fun _ => fun
  | [d1, d2, d3, d4] => { results := [.lit (.bool true)], args := [d1, d2, d3, d4] }
  | _ => none }
def shelfPacksRow : OpenClaim := { program := "ytjlbiebejodecaadoor", sum := "e14a5ae6a755979dbb20dd0e230b0cf076549cb40a77d1a1bf9b53078202a853", func := "gangsaw/gangsawlaw27.ShelfPacks", spec := "shelfPacks", unfollowed := true, recurses := true, named := ["internal/strconv.uint64pow10", "math/bits.deBruijn32tab", "math/bits.deBruijn64tab"], apart := false, laid := [("math/bits.deBruijn32tab", laid_math_bits_deBruijn32tab), ("math/bits.deBruijn64tab", laid_math_bits_deBruijn64tab), ("internal/strconv.uint64pow10", laid_internal_strconv_uint64pow10)] }
def ShelfPacksSaid : Prop := shelfPacksRow.holds Tryd.pinned (OpenSpec.ofChange shelfPacksSpec)

/-- ITS FALSE NEIGHBOUR: 'it returns false'. Refute it at one input. -/
def shelfPacksWrong : ChangeSpec := { name := "shelfPacks", fn := fun _ => fun
  | [d1, d2, d3, d4] => { results := [.lit (.bool false)], args := [d1, d2, d3, d4] }
  | _ => none }
def ShelfPacksWrongFalsely : Prop := shelfPacksRow.holds Tryd.pinned (OpenSpec.ofChange shelfPacksWrong)

/-- 'gangsawlaw27.ShelfValid': WHATEVER THE INPUT: true; the input reads as it did. -/
def shelfValidSpec : ChangeSpec := { name := "shelfValid", fn := fun _ => fun
  | [d1, d2, d3, d4, d5] => { results := [.lit (.bool true)], args := [d1, d2, d3, d4, d5] }
  | _ => none }
def shelfValidRow : OpenClaim := { program := "ytjlbiebejodecaadoor", sum := "e14a5ae6a755979dbb20dd0e230b0cf076549cb40a77d1a1bf9b53078202a853", func := "gangsaw/gangsawlaw27.ShelfValid", spec := "shelfValid", unfollowed := true, recurses := true, named := ["internal/strconv.uint64pow10", "math/bits.deBruijn32tab", "math/bits.deBruijn64tab"], apart := false, laid := [("math/bits.deBruijn32tab", laid_math_bits_deBruijn32tab), ("math/bits.deBruijn64tab", laid_math_bits_deBruijn64tab), ("internal/strconv.uint64pow10", laid_internal_strconv_uint64pow10)] }
def ShelfValidSaid : Prop := shelfValidRow.holds Tryd.pinned (OpenSpec.ofChange shelfValidSpec)

/-- ITS FALSE NEIGHBOUR: 'it returns false'. Refute it at one input. -/
def shelfValidWrong : ChangeSpec := { name := "shelfValid", fn := fun _ => fun
  | [d1, d2, d3, d4, d5] => { results := [.lit (.bool false)], args := [d1, d2, d3, d4, d5] }
  | _ => none }
def ShelfValidWrongFalsely : Prop := shelfValidRow.holds Tryd.pinned (OpenSpec.ofChange shelfValidWrong)

/-- 'gangsawlaw27.ShelfHeights': WHATEVER THE INPUT: true; the input reads as it did. -/
def shelfHeightsSpec : ChangeSpec := { name := "shelfHeights", fn := fun _ => fun
  | [d1, d2, d3] => { results := [.lit (.bool true)], args := [d1, d2, d3] }
  | _ => none }
def shelfHeightsRow : OpenClaim := { program := "ytjlbiebejodecaadoor", sum := "e14a5ae6a755979dbb20dd0e230b0cf076549cb40a77d1a1bf9b53078202a853", func := "gangsaw/gangsawlaw27.ShelfHeights", spec := "shelfHeights", unfollowed := true, recurses := true, named := ["internal/strconv.uint64pow10", "math/bits.deBruijn32tab", "math/bits.deBruijn64tab"], apart := false, laid := [("math/bits.deBruijn32tab", laid_math_bits_deBruijn32tab), ("math/bits.deBruijn64tab", laid_math_bits_deBruijn64tab), ("internal/strconv.uint64pow10", laid_internal_strconv_uint64pow10)] }
def ShelfHeightsSaid : Prop := shelfHeightsRow.holds Tryd.pinned (OpenSpec.ofChange shelfHeightsSpec)

/-- ITS FALSE NEIGHBOUR: 'it returns false'. Refute it at one input. -/
def shelfHeightsWrong : ChangeSpec := { name := "shelfHeights", fn := fun _ => fun
  | [d1, d2, d3] => { results := [.lit (.bool false)], args := [d1, d2, d3] }
  | _ => none }
def ShelfHeightsWrongFalsely : Prop := shelfHeightsRow.holds Tryd.pinned (OpenSpec.ofChange shelfHeightsWrong)

/-- 'gangsawlaw27.ShelfPlans': WHATEVER THE INPUT: true; the input reads as it did. -/
def shelfPlansSpec : ChangeSpec := { name := "shelfPlans", fn := fun _ => fun
  | [d1, d2, d3, d4, d5] => { results := [.lit (.bool true)], args := [d1, d2, d3, d4, d5] }
  | _ => none }
def shelfPlansRow : OpenClaim := { program := "ytjlbiebejodecaadoor", sum := "e14a5ae6a755979dbb20dd0e230b0cf076549cb40a77d1a1bf9b53078202a853", func := "gangsaw/gangsawlaw27.ShelfPlans", spec := "shelfPlans", unfollowed := true, recurses := true, named := ["internal/strconv.uint64pow10", "math/bits.deBruijn32tab", "math/bits.deBruijn64tab"], apart := false, laid := [("math/bits.deBruijn32tab", laid_math_bits_deBruijn32tab), ("math/bits.deBruijn64tab", laid_math_bits_deBruijn64tab), ("internal/strconv.uint64pow10", laid_internal_strconv_uint64pow10)] }
def ShelfPlansSaid : Prop := shelfPlansRow.holds Tryd.pinned (OpenSpec.ofChange shelfPlansSpec)

/-- ITS FALSE NEIGHBOUR: 'it returns false'. Refute it at one input. -/
def shelfPlansWrong : ChangeSpec := { name := "shelfPlans", fn := fun _ => fun
  | [d1, d2, d3, d4, d5] => { results := [.lit (.bool false)], args := [d1, d2, d3, d4, d5] }
  | _ => none }
def ShelfPlansWrongFalsely : Prop := shelfPlansRow.holds Tryd.pinned (OpenSpec.ofChange shelfPlansWrong)

/-- 'gangsawlaw27.ShelfSheets': WHATEVER THE INPUT: true; the input reads as it did. -/
def shelfSheetsSpec : ChangeSpec := { name := "shelfSheets", fn := fun _ => fun
  | [d1, d2, d3, d4] => { results := [.lit (.bool true)], args := [d1, d2, d3, d4] }
  | _ => none }
def shelfSheetsRow : OpenClaim := { program := "ytjlbiebejodecaadoor", sum := "e14a5ae6a755979dbb20dd0e230b0cf076549cb40a77d1a1bf9b53078202a853", func := "gangsaw/gangsawlaw27.ShelfSheets", spec := "shelfSheets", unfollowed := true, recurses := true, named := ["internal/strconv.uint64pow10", "math/bits.deBruijn32tab", "math/bits.deBruijn64tab"], apart := false, laid := [("math/bits.deBruijn32tab", laid_math_bits_deBruijn32tab), ("math/bits.deBruijn64tab", laid_math_bits_deBruijn64tab), ("internal/strconv.uint64pow10", laid_internal_strconv_uint64pow10)] }
def ShelfSheetsSaid : Prop := shelfSheetsRow.holds Tryd.pinned (OpenSpec.ofChange shelfSheetsSpec)

/-- ITS FALSE NEIGHBOUR: 'it returns false'. Refute it at one input. -/
def shelfSheetsWrong : ChangeSpec := { name := "shelfSheets", fn := fun _ => fun
  | [d1, d2, d3, d4] => { results := [.lit (.bool false)], args := [d1, d2, d3, d4] }
  | _ => none }
def ShelfSheetsWrongFalsely : Prop := shelfSheetsRow.holds Tryd.pinned (OpenSpec.ofChange shelfSheetsWrong)

/-- 'gangsawlaw27.ShelfApart': WHATEVER THE INPUT: true; the input reads as it did. -/
def shelfApartSpec : ChangeSpec := { name := "shelfApart", fn := fun _ => fun
  | [d1, d2, d3, d4] => { results := [.lit (.bool true)], args := [d1, d2, d3, d4] }
  | _ => none }
def shelfApartRow : OpenClaim := { program := "ytjlbiebejodecaadoor", sum := "e14a5ae6a755979dbb20dd0e230b0cf076549cb40a77d1a1bf9b53078202a853", func := "gangsaw/gangsawlaw27.ShelfApart", spec := "shelfApart", unfollowed := true, recurses := true, named := ["internal/strconv.uint64pow10", "math/bits.deBruijn32tab", "math/bits.deBruijn64tab"], apart := false, laid := [("math/bits.deBruijn32tab", laid_math_bits_deBruijn32tab), ("math/bits.deBruijn64tab", laid_math_bits_deBruijn64tab), ("internal/strconv.uint64pow10", laid_internal_strconv_uint64pow10)] }
def ShelfApartSaid : Prop := shelfApartRow.holds Tryd.pinned (OpenSpec.ofChange shelfApartSpec)

/-- ITS FALSE NEIGHBOUR: 'it returns false'. Refute it at one input. -/
def shelfApartWrong : ChangeSpec := { name := "shelfApart", fn := fun _ => fun
  | [d1, d2, d3, d4] => { results := [.lit (.bool false)], args := [d1, d2, d3, d4] }
  | _ => none }
def ShelfApartWrongFalsely : Prop := shelfApartRow.holds Tryd.pinned (OpenSpec.ofChange shelfApartWrong)

/-- 'gangsawlaw27.ShelfBound': WHATEVER THE INPUT: true; the input reads as it did. -/
def shelfBoundSpec : ChangeSpec := { name := "shelfBound", fn := fun _ => fun
  | [d1, d2, d3] => { results := [.lit (.bool true)], args := [d1, d2, d3] }
  | _ => none }
def shelfBoundRow : OpenClaim := { program := "ytjlbiebejodecaadoor", sum := "e14a5ae6a755979dbb20dd0e230b0cf076549cb40a77d1a1bf9b53078202a853", func := "gangsaw/gangsawlaw27.ShelfBound", spec := "shelfBound", unfollowed := true, recurses := true, named := ["internal/strconv.uint64pow10", "math/bits.deBruijn32tab", "math/bits.deBruijn64tab"], apart := false, laid := [("math/bits.deBruijn32tab", laid_math_bits_deBruijn32tab), ("math/bits.deBruijn64tab", laid_math_bits_deBruijn64tab), ("internal/strconv.uint64pow10", laid_internal_strconv_uint64pow10)] }
def ShelfBoundSaid : Prop := shelfBoundRow.holds Tryd.pinned (OpenSpec.ofChange shelfBoundSpec)

/-- ITS FALSE NEIGHBOUR: 'it returns false'. Refute it at one input. -/
def shelfBoundWrong : ChangeSpec := { name := "shelfBound", fn := fun _ => fun
  | [d1, d2, d3] => { results := [.lit (.bool false)], args := [d1, d2, d3] }
  | _ => none }
def ShelfBoundWrongFalsely : Prop := shelfBoundRow.holds Tryd.pinned (OpenSpec.ofChange shelfBoundWrong)

/-- 'gangsawlaw27.ShelfEach': WHATEVER THE INPUT: true; the input reads as it did. -/
def shelfEachSpec : ChangeSpec := { name := "shelfEach", fn := fun _ => fun
  | [d1, d2, d3, d4] => { results := [.lit (.bool true)], args := [d1, d2, d3, d4] }
  | _ => none }
def shelfEachRow : OpenClaim := { program := "ytjlbiebejodecaadoor", sum := "e14a5ae6a755979dbb20dd0e230b0cf076549cb40a77d1a1bf9b53078202a853", func := "gangsaw/gangsawlaw27.ShelfEach", spec := "shelfEach", unfollowed := true, recurses := true, named := ["internal/strconv.uint64pow10", "math/bits.deBruijn32tab", "math/bits.deBruijn64tab"], apart := false, laid := [("math/bits.deBruijn32tab", laid_math_bits_deBruijn32tab), ("math/bits.deBruijn64tab", laid_math_bits_deBruijn64tab), ("internal/strconv.uint64pow10", laid_internal_strconv_uint64pow10)] }
def ShelfEachSaid : Prop := shelfEachRow.holds Tryd.pinned (OpenSpec.ofChange shelfEachSpec)

/-- ITS FALSE NEIGHBOUR: 'it returns false'. Refute it at one input. -/
def shelfEachWrong : ChangeSpec := { name := "shelfEach", fn := fun _ => fun
  | [d1, d2, d3, d4] => { results := [.lit (.bool false)], args := [d1, d2, d3, d4] }
  | _ => none }
def ShelfEachWrongFalsely : Prop := shelfEachRow.holds Tryd.pinned (OpenSpec.ofChange shelfEachWrong)

/- THE SECOND FORM. 'bulk': how many values and letters a reading holds, each counted each time it is reached (what is shared counts as often as it is met; a slice's spare places count too). A statement '..UptoSaid' is the law's where the arguments, and the package variables that the reading takes, are together of bulk at most 1048576: NARROWER than '..Said'. Prove '..Said' where nothing that the law and all that it calls make is longer than what came in: it says more and counts as full. Else prove '..UptoSaid'. A law counts once. -/
mutual
def uptoBulk {H : Type} : DataW H → Nat
  | .lit (.string bytes) => bytes.length + 1
  | .lit _ => 1
  | .nil => 1
  | .ptr d => uptoBulk d + 1
  | .slice elems spare => uptoBulkAll elems + uptoBulkAll spare + 1
  | .agg parts => uptoBulkAll parts + 1
  | .iface _ d => uptoBulk d + 1
  | .map entries => uptoBulkEntries entries + 1
  | .held _ => 1
def uptoBulkAll {H : Type} : List (DataW H) → Nat
  | [] => 0
  | d :: r => uptoBulk d + uptoBulkAll r
def uptoBulkEntries {H : Type} : List (Lit × DataW H) → Nat
  | [] => 0
  | x :: r => uptoBulkEntry x + uptoBulkEntries r
def uptoBulkEntry {H : Type} : Lit × DataW H → Nat
  | (.string bytes, d) => bytes.length + uptoBulk d + 1
  | (_, d) => uptoBulk d + 1
 end
def uptoSmall : (H : Type) → List (DataW H) → Bool := fun _ ds => decide (uptoBulkAll ds ≤ 1048576)
def OpenSpec.upto (s : _root_.Go.ChangeSpec) : _root_.Go.OpenSpec := { _root_.Go.OpenSpec.ofChange s with cond := some uptoSmall }

/-- 'gangsawlaw27.ShelfOrders', WHERE WHAT IT READS IS OF BULK AT MOST 1048576: true; the input reads as it did. -/
def shelfOrdersUptoRow : OpenClaim := { program := "ytjlbiebejodecaadoor", sum := "e14a5ae6a755979dbb20dd0e230b0cf076549cb40a77d1a1bf9b53078202a853", func := "gangsaw/gangsawlaw27.ShelfOrders", spec := "shelfOrders", unfollowed := true, recurses := true, named := ["internal/strconv.uint64pow10", "math/bits.deBruijn32tab", "math/bits.deBruijn64tab"], apart := false, laid := [("math/bits.deBruijn32tab", laid_math_bits_deBruijn32tab), ("math/bits.deBruijn64tab", laid_math_bits_deBruijn64tab), ("internal/strconv.uint64pow10", laid_internal_strconv_uint64pow10)], narrowed := true }
def ShelfOrdersUptoSaid : Prop := shelfOrdersUptoRow.holds Tryd.pinned (OpenSpec.upto shelfOrdersSpec)

/-- 'gangsawlaw27.ShelfPacks', WHERE WHAT IT READS IS OF BULK AT MOST 1048576: true; the input reads as it did. -/
def shelfPacksUptoRow : OpenClaim := { program := "ytjlbiebejodecaadoor", sum := "e14a5ae6a755979dbb20dd0e230b0cf076549cb40a77d1a1bf9b53078202a853", func := "gangsaw/gangsawlaw27.ShelfPacks", spec := "shelfPacks", unfollowed := true, recurses := true, named := ["internal/strconv.uint64pow10", "math/bits.deBruijn32tab", "math/bits.deBruijn64tab"], apart := false, laid := [("math/bits.deBruijn32tab", laid_math_bits_deBruijn32tab), ("math/bits.deBruijn64tab", laid_math_bits_deBruijn64tab), ("internal/strconv.uint64pow10", laid_internal_strconv_uint64pow10)], narrowed := true }
def ShelfPacksUptoSaid : Prop := shelfPacksUptoRow.holds Tryd.pinned (OpenSpec.upto shelfPacksSpec)

/-- 'gangsawlaw27.ShelfValid', WHERE WHAT IT READS IS OF BULK AT MOST 1048576: true; the input reads as it did. -/
def shelfValidUptoRow : OpenClaim := { program := "ytjlbiebejodecaadoor", sum := "e14a5ae6a755979dbb20dd0e230b0cf076549cb40a77d1a1bf9b53078202a853", func := "gangsaw/gangsawlaw27.ShelfValid", spec := "shelfValid", unfollowed := true, recurses := true, named := ["internal/strconv.uint64pow10", "math/bits.deBruijn32tab", "math/bits.deBruijn64tab"], apart := false, laid := [("math/bits.deBruijn32tab", laid_math_bits_deBruijn32tab), ("math/bits.deBruijn64tab", laid_math_bits_deBruijn64tab), ("internal/strconv.uint64pow10", laid_internal_strconv_uint64pow10)], narrowed := true }
def ShelfValidUptoSaid : Prop := shelfValidUptoRow.holds Tryd.pinned (OpenSpec.upto shelfValidSpec)

/-- 'gangsawlaw27.ShelfHeights', WHERE WHAT IT READS IS OF BULK AT MOST 1048576: true; the input reads as it did. -/
def shelfHeightsUptoRow : OpenClaim := { program := "ytjlbiebejodecaadoor", sum := "e14a5ae6a755979dbb20dd0e230b0cf076549cb40a77d1a1bf9b53078202a853", func := "gangsaw/gangsawlaw27.ShelfHeights", spec := "shelfHeights", unfollowed := true, recurses := true, named := ["internal/strconv.uint64pow10", "math/bits.deBruijn32tab", "math/bits.deBruijn64tab"], apart := false, laid := [("math/bits.deBruijn32tab", laid_math_bits_deBruijn32tab), ("math/bits.deBruijn64tab", laid_math_bits_deBruijn64tab), ("internal/strconv.uint64pow10", laid_internal_strconv_uint64pow10)], narrowed := true }
def ShelfHeightsUptoSaid : Prop := shelfHeightsUptoRow.holds Tryd.pinned (OpenSpec.upto shelfHeightsSpec)

/-- 'gangsawlaw27.ShelfPlans', WHERE WHAT IT READS IS OF BULK AT MOST 1048576: true; the input reads as it did. -/
def shelfPlansUptoRow : OpenClaim := { program := "ytjlbiebejodecaadoor", sum := "e14a5ae6a755979dbb20dd0e230b0cf076549cb40a77d1a1bf9b53078202a853", func := "gangsaw/gangsawlaw27.ShelfPlans", spec := "shelfPlans", unfollowed := true, recurses := true, named := ["internal/strconv.uint64pow10", "math/bits.deBruijn32tab", "math/bits.deBruijn64tab"], apart := false, laid := [("math/bits.deBruijn32tab", laid_math_bits_deBruijn32tab), ("math/bits.deBruijn64tab", laid_math_bits_deBruijn64tab), ("internal/strconv.uint64pow10", laid_internal_strconv_uint64pow10)], narrowed := true }
def ShelfPlansUptoSaid : Prop := shelfPlansUptoRow.holds Tryd.pinned (OpenSpec.upto shelfPlansSpec)

/-- 'gangsawlaw27.ShelfSheets', WHERE WHAT IT READS IS OF BULK AT MOST 1048576: true; the input reads as it did. -/
def shelfSheetsUptoRow : OpenClaim := { program := "ytjlbiebejodecaadoor", sum := "e14a5ae6a755979dbb20dd0e230b0cf076549cb40a77d1a1bf9b53078202a853", func := "gangsaw/gangsawlaw27.ShelfSheets", spec := "shelfSheets", unfollowed := true, recurses := true, named := ["internal/strconv.uint64pow10", "math/bits.deBruijn32tab", "math/bits.deBruijn64tab"], apart := false, laid := [("math/bits.deBruijn32tab", laid_math_bits_deBruijn32tab), ("math/bits.deBruijn64tab", laid_math_bits_deBruijn64tab), ("internal/strconv.uint64pow10", laid_internal_strconv_uint64pow10)], narrowed := true }
def ShelfSheetsUptoSaid : Prop := shelfSheetsUptoRow.holds Tryd.pinned (OpenSpec.upto shelfSheetsSpec)

/-- 'gangsawlaw27.ShelfApart', WHERE WHAT IT READS IS OF BULK AT MOST 1048576: true; the input reads as it did. -/
def shelfApartUptoRow : OpenClaim := { program := "ytjlbiebejodecaadoor", sum := "e14a5ae6a755979dbb20dd0e230b0cf076549cb40a77d1a1bf9b53078202a853", func := "gangsaw/gangsawlaw27.ShelfApart", spec := "shelfApart", unfollowed := true, recurses := true, named := ["internal/strconv.uint64pow10", "math/bits.deBruijn32tab", "math/bits.deBruijn64tab"], apart := false, laid := [("math/bits.deBruijn32tab", laid_math_bits_deBruijn32tab), ("math/bits.deBruijn64tab", laid_math_bits_deBruijn64tab), ("internal/strconv.uint64pow10", laid_internal_strconv_uint64pow10)], narrowed := true }
def ShelfApartUptoSaid : Prop := shelfApartUptoRow.holds Tryd.pinned (OpenSpec.upto shelfApartSpec)

/-- 'gangsawlaw27.ShelfBound', WHERE WHAT IT READS IS OF BULK AT MOST 1048576: true; the input reads as it did. -/
def shelfBoundUptoRow : OpenClaim := { program := "ytjlbiebejodecaadoor", sum := "e14a5ae6a755979dbb20dd0e230b0cf076549cb40a77d1a1bf9b53078202a853", func := "gangsaw/gangsawlaw27.ShelfBound", spec := "shelfBound", unfollowed := true, recurses := true, named := ["internal/strconv.uint64pow10", "math/bits.deBruijn32tab", "math/bits.deBruijn64tab"], apart := false, laid := [("math/bits.deBruijn32tab", laid_math_bits_deBruijn32tab), ("math/bits.deBruijn64tab", laid_math_bits_deBruijn64tab), ("internal/strconv.uint64pow10", laid_internal_strconv_uint64pow10)], narrowed := true }
def ShelfBoundUptoSaid : Prop := shelfBoundUptoRow.holds Tryd.pinned (OpenSpec.upto shelfBoundSpec)

/-- 'gangsawlaw27.ShelfEach', WHERE WHAT IT READS IS OF BULK AT MOST 1048576: true; the input reads as it did. -/
def shelfEachUptoRow : OpenClaim := { program := "ytjlbiebejodecaadoor", sum := "e14a5ae6a755979dbb20dd0e230b0cf076549cb40a77d1a1bf9b53078202a853", func := "gangsaw/gangsawlaw27.ShelfEach", spec := "shelfEach", unfollowed := true, recurses := true, named := ["internal/strconv.uint64pow10", "math/bits.deBruijn32tab", "math/bits.deBruijn64tab"], apart := false, laid := [("math/bits.deBruijn32tab", laid_math_bits_deBruijn32tab), ("math/bits.deBruijn64tab", laid_math_bits_deBruijn64tab), ("internal/strconv.uint64pow10", laid_internal_strconv_uint64pow10)], narrowed := true }
def ShelfEachUptoSaid : Prop := shelfEachUptoRow.holds Tryd.pinned (OpenSpec.upto shelfEachSpec)

end Rows
end Go.Proofs.YtjlbiebejodecaaDoor
