/-
  NARROWER THAN 'FOR EVERY INPUT', by the rows' own cells (each row's printed sentence says how): JournalFiles: laid · JournalFrames: laid · JournalPlays: laid · JournalSafe: laid · JournalChains: laid · JournalUses: laid · JournalAgain: laid.
  DERIVED. THE GIVEN ROWS OF THIS SEAT. 7 by the template 'for every input the law returns true; each argument reads behind the call as it read before'; 0 by the template 'total and deterministic' (their statements: YtgmhcmmdfejcmaaDoorTotals.lean).
  GIVEN WITH THE SEED: the statements are not yours to turn. If you find one false, say at which input.
  Laid BY PROGRAM, IN A SANDBOX (cutbox-rows.mjs): the forced cells as the released guide's own fill.sh prints them over the translation 58bf3686bb01f4a1… (all of the seat's roots in one cut). By AI agents, Wed Nov 11 2026. No macro, syntax, notation, axiom, sorry.
-/
import Derived.Test.YtgmhcmmdfejcmaaDoorChecked
import GoSem.Claim
import GoSem.ClaimJoined
import GoSem.ClaimMapViews
import Derived.JoinedTies
import Derived.KernelRfl
namespace Go.Proofs.YtgmhcmmdfejcmaaDoor
/- THE CELL 'sum', in the pinned program and in every row, IS THE sha256 OF THE DUMP (.gsa) THAT YtgmhcmmdfejcmaaDoorProg.lean LOADS. Nothing in Lean hashes anything: it is a label: what it is worth is what the hold of that sum in a sandbox is worth. -/
noncomputable def Tryd.pinned : Pinned := { name := "ytgmhcmmdfejcmaadoor", sum := "58bf3686bb01f4a1ee48385be1a094f98b4b8b34a79cc7f4cf710e11fc031737", checked := Tryd.checked }
namespace Rows
def none {H : Type} : Left H := { results := [], args := [] }

/- WHAT THE LISTED PACKAGE-LEVEL VARIABLES READ AS WHEN THE CALL BEGINS. Each datum BY PROGRAM (the guide's laid-datum.mjs) off the statement by which the dump's own 'gosem.cut.vars' lays the variable. In a bare row this is a premise. The card (YtgmhcmmdfejcmaaDoorCards.lean) ties it to the program's text. -/
def laid_math_bits_deBruijn32tab {H : Type} : DataW H := .agg [.lit (.int .u8 0), .lit (.int .u8 1), .lit (.int .u8 28), .lit (.int .u8 2), .lit (.int .u8 29), .lit (.int .u8 14), .lit (.int .u8 24), .lit (.int .u8 3), .lit (.int .u8 30), .lit (.int .u8 22), .lit (.int .u8 20), .lit (.int .u8 15), .lit (.int .u8 25), .lit (.int .u8 17), .lit (.int .u8 4), .lit (.int .u8 8), .lit (.int .u8 31), .lit (.int .u8 27), .lit (.int .u8 13), .lit (.int .u8 23), .lit (.int .u8 21), .lit (.int .u8 19), .lit (.int .u8 16), .lit (.int .u8 7), .lit (.int .u8 26), .lit (.int .u8 12), .lit (.int .u8 18), .lit (.int .u8 6), .lit (.int .u8 11), .lit (.int .u8 5), .lit (.int .u8 10), .lit (.int .u8 9)]
def laid_math_bits_deBruijn64tab {H : Type} : DataW H := .agg [.lit (.int .u8 0), .lit (.int .u8 1), .lit (.int .u8 56), .lit (.int .u8 2), .lit (.int .u8 57), .lit (.int .u8 49), .lit (.int .u8 28), .lit (.int .u8 3), .lit (.int .u8 61), .lit (.int .u8 58), .lit (.int .u8 42), .lit (.int .u8 50), .lit (.int .u8 38), .lit (.int .u8 29), .lit (.int .u8 17), .lit (.int .u8 4), .lit (.int .u8 62), .lit (.int .u8 47), .lit (.int .u8 59), .lit (.int .u8 36), .lit (.int .u8 45), .lit (.int .u8 43), .lit (.int .u8 51), .lit (.int .u8 22), .lit (.int .u8 53), .lit (.int .u8 39), .lit (.int .u8 33), .lit (.int .u8 30), .lit (.int .u8 24), .lit (.int .u8 18), .lit (.int .u8 12), .lit (.int .u8 5), .lit (.int .u8 63), .lit (.int .u8 55), .lit (.int .u8 48), .lit (.int .u8 27), .lit (.int .u8 60), .lit (.int .u8 41), .lit (.int .u8 37), .lit (.int .u8 16), .lit (.int .u8 46), .lit (.int .u8 35), .lit (.int .u8 44), .lit (.int .u8 21), .lit (.int .u8 52), .lit (.int .u8 32), .lit (.int .u8 23), .lit (.int .u8 11), .lit (.int .u8 54), .lit (.int .u8 26), .lit (.int .u8 40), .lit (.int .u8 15), .lit (.int .u8 34), .lit (.int .u8 20), .lit (.int .u8 31), .lit (.int .u8 10), .lit (.int .u8 25), .lit (.int .u8 14), .lit (.int .u8 19), .lit (.int .u8 9), .lit (.int .u8 13), .lit (.int .u8 8), .lit (.int .u8 7), .lit (.int .u8 6)]
def laid_internal_strconv_uint64pow10 {H : Type} : DataW H := .agg [.lit (.int .u64 1), .lit (.int .u64 10), .lit (.int .u64 100), .lit (.int .u64 1000), .lit (.int .u64 10000), .lit (.int .u64 100000), .lit (.int .u64 1000000), .lit (.int .u64 10000000), .lit (.int .u64 100000000), .lit (.int .u64 1000000000), .lit (.int .u64 10000000000), .lit (.int .u64 100000000000), .lit (.int .u64 1000000000000), .lit (.int .u64 10000000000000), .lit (.int .u64 100000000000000), .lit (.int .u64 1000000000000000), .lit (.int .u64 10000000000000000), .lit (.int .u64 100000000000000000), .lit (.int .u64 1000000000000000000), .lit (.int .u64 10000000000000000000)]

/-- 'gangsawlaw55.JournalFiles': WHATEVER THE INPUT: true; the input reads as it did. -/
def journalFilesSpec : ChangeSpec := { name := "journalFiles", fn := fun _ => fun
  | [d] => { results := [.lit (.bool true)], args := [d] }
  | _ => none }
def journalFilesRow : OpenClaim := { program := "ytgmhcmmdfejcmaadoor", sum := "58bf3686bb01f4a1ee48385be1a094f98b4b8b34a79cc7f4cf710e11fc031737", func := "gangsaw/gangsawlaw55.JournalFiles", spec := "journalFiles", inPlace := ["internal/abi.NoEscape", "internal/bytealg.MakeNoZero"], unfollowed := true, recurses := true, named := ["internal/strconv.uint64pow10", "math/bits.deBruijn32tab", "math/bits.deBruijn64tab"], apart := false, laid := [("math/bits.deBruijn32tab", laid_math_bits_deBruijn32tab), ("math/bits.deBruijn64tab", laid_math_bits_deBruijn64tab), ("internal/strconv.uint64pow10", laid_internal_strconv_uint64pow10)] }
def JournalFilesSaid : Prop := journalFilesRow.holds Tryd.pinned (OpenSpec.ofChange journalFilesSpec)

/-- ITS FALSE NEIGHBOUR: 'it returns false'. Refute it at one input. -/
def journalFilesWrong : ChangeSpec := { name := "journalFiles", fn := fun _ => fun
  | [d] => { results := [.lit (.bool false)], args := [d] }
  | _ => none }
def JournalFilesWrongFalsely : Prop := journalFilesRow.holds Tryd.pinned (OpenSpec.ofChange journalFilesWrong)

/-- 'gangsawlaw55.JournalFrames': WHATEVER THE INPUT: true; the input reads as it did. -/
def journalFramesSpec : ChangeSpec := { name := "journalFrames", fn := fun _ => fun
  | [d1, d2, d3, d4] => { results := [.lit (.bool true)], args := [d1, d2, d3, d4] }
  | _ => none }
def journalFramesRow : OpenClaim := { program := "ytgmhcmmdfejcmaadoor", sum := "58bf3686bb01f4a1ee48385be1a094f98b4b8b34a79cc7f4cf710e11fc031737", func := "gangsaw/gangsawlaw55.JournalFrames", spec := "journalFrames", inPlace := ["internal/abi.NoEscape", "internal/bytealg.MakeNoZero"], unfollowed := true, recurses := true, named := ["internal/strconv.uint64pow10", "math/bits.deBruijn32tab", "math/bits.deBruijn64tab"], apart := false, laid := [("math/bits.deBruijn32tab", laid_math_bits_deBruijn32tab), ("math/bits.deBruijn64tab", laid_math_bits_deBruijn64tab), ("internal/strconv.uint64pow10", laid_internal_strconv_uint64pow10)] }
def JournalFramesSaid : Prop := journalFramesRow.holds Tryd.pinned (OpenSpec.ofChange journalFramesSpec)

/-- ITS FALSE NEIGHBOUR: 'it returns false'. Refute it at one input. -/
def journalFramesWrong : ChangeSpec := { name := "journalFrames", fn := fun _ => fun
  | [d1, d2, d3, d4] => { results := [.lit (.bool false)], args := [d1, d2, d3, d4] }
  | _ => none }
def JournalFramesWrongFalsely : Prop := journalFramesRow.holds Tryd.pinned (OpenSpec.ofChange journalFramesWrong)

/-- 'gangsawlaw55.JournalPlays': WHATEVER THE INPUT: true; the input reads as it did. -/
def journalPlaysSpec : ChangeSpec := { name := "journalPlays", fn := fun _ => fun
  | [d] => { results := [.lit (.bool true)], args := [d] }
  | _ => none }
def journalPlaysRow : OpenClaim := { program := "ytgmhcmmdfejcmaadoor", sum := "58bf3686bb01f4a1ee48385be1a094f98b4b8b34a79cc7f4cf710e11fc031737", func := "gangsaw/gangsawlaw55.JournalPlays", spec := "journalPlays", inPlace := ["internal/abi.NoEscape", "internal/bytealg.MakeNoZero"], unfollowed := true, recurses := true, named := ["internal/strconv.uint64pow10", "math/bits.deBruijn32tab", "math/bits.deBruijn64tab"], apart := false, laid := [("math/bits.deBruijn32tab", laid_math_bits_deBruijn32tab), ("math/bits.deBruijn64tab", laid_math_bits_deBruijn64tab), ("internal/strconv.uint64pow10", laid_internal_strconv_uint64pow10)] }
def JournalPlaysSaid : Prop := journalPlaysRow.holds Tryd.pinned (OpenSpec.ofChange journalPlaysSpec)

/-- ITS FALSE NEIGHBOUR: 'it returns false'. Refute it at one input. -/
def journalPlaysWrong : ChangeSpec := { name := "journalPlays", fn := fun _ => fun
  | [d] => { results := [.lit (.bool false)], args := [d] }
  | _ => none }
def JournalPlaysWrongFalsely : Prop := journalPlaysRow.holds Tryd.pinned (OpenSpec.ofChange journalPlaysWrong)

/-- 'gangsawlaw55.JournalSafe': WHATEVER THE INPUT: true; the input reads as it did. -/
def journalSafeSpec : ChangeSpec := { name := "journalSafe", fn := fun _ => fun
  | [d] => { results := [.lit (.bool true)], args := [d] }
  | _ => none }
def journalSafeRow : OpenClaim := { program := "ytgmhcmmdfejcmaadoor", sum := "58bf3686bb01f4a1ee48385be1a094f98b4b8b34a79cc7f4cf710e11fc031737", func := "gangsaw/gangsawlaw55.JournalSafe", spec := "journalSafe", inPlace := ["internal/abi.NoEscape", "internal/bytealg.MakeNoZero"], unfollowed := true, recurses := true, named := ["internal/strconv.uint64pow10", "math/bits.deBruijn32tab", "math/bits.deBruijn64tab"], apart := false, laid := [("math/bits.deBruijn32tab", laid_math_bits_deBruijn32tab), ("math/bits.deBruijn64tab", laid_math_bits_deBruijn64tab), ("internal/strconv.uint64pow10", laid_internal_strconv_uint64pow10)] }
def JournalSafeSaid : Prop := journalSafeRow.holds Tryd.pinned (OpenSpec.ofChange journalSafeSpec)

/-- ITS FALSE NEIGHBOUR: 'it returns false'. Refute it at one input. -/
def journalSafeWrong : ChangeSpec := { name := "journalSafe", fn := fun _ => fun
  | [d] => { results := [.lit (.bool false)], args := [d] }
  | _ => none }
def JournalSafeWrongFalsely : Prop := journalSafeRow.holds Tryd.pinned (OpenSpec.ofChange journalSafeWrong)

/-- 'gangsawlaw55.JournalChains': WHATEVER THE INPUT: true; the input reads as it did. -/
def journalChainsSpec : ChangeSpec := { name := "journalChains", fn := fun _ => fun
  | [d1, d2] => { results := [.lit (.bool true)], args := [d1, d2] }
  | _ => none }
def journalChainsRow : OpenClaim := { program := "ytgmhcmmdfejcmaadoor", sum := "58bf3686bb01f4a1ee48385be1a094f98b4b8b34a79cc7f4cf710e11fc031737", func := "gangsaw/gangsawlaw55.JournalChains", spec := "journalChains", inPlace := ["internal/abi.NoEscape", "internal/bytealg.MakeNoZero"], unfollowed := true, recurses := true, named := ["internal/strconv.uint64pow10", "math/bits.deBruijn32tab", "math/bits.deBruijn64tab"], apart := false, laid := [("math/bits.deBruijn32tab", laid_math_bits_deBruijn32tab), ("math/bits.deBruijn64tab", laid_math_bits_deBruijn64tab), ("internal/strconv.uint64pow10", laid_internal_strconv_uint64pow10)] }
def JournalChainsSaid : Prop := journalChainsRow.holds Tryd.pinned (OpenSpec.ofChange journalChainsSpec)

/-- ITS FALSE NEIGHBOUR: 'it returns false'. Refute it at one input. -/
def journalChainsWrong : ChangeSpec := { name := "journalChains", fn := fun _ => fun
  | [d1, d2] => { results := [.lit (.bool false)], args := [d1, d2] }
  | _ => none }
def JournalChainsWrongFalsely : Prop := journalChainsRow.holds Tryd.pinned (OpenSpec.ofChange journalChainsWrong)

/-- 'gangsawlaw55.JournalUses': WHATEVER THE INPUT: true; the input reads as it did. -/
def journalUsesSpec : ChangeSpec := { name := "journalUses", fn := fun _ => fun
  | [d] => { results := [.lit (.bool true)], args := [d] }
  | _ => none }
def journalUsesRow : OpenClaim := { program := "ytgmhcmmdfejcmaadoor", sum := "58bf3686bb01f4a1ee48385be1a094f98b4b8b34a79cc7f4cf710e11fc031737", func := "gangsaw/gangsawlaw55.JournalUses", spec := "journalUses", inPlace := ["internal/abi.NoEscape", "internal/bytealg.MakeNoZero"], unfollowed := true, recurses := true, named := ["internal/strconv.uint64pow10", "math/bits.deBruijn32tab", "math/bits.deBruijn64tab"], apart := false, laid := [("math/bits.deBruijn32tab", laid_math_bits_deBruijn32tab), ("math/bits.deBruijn64tab", laid_math_bits_deBruijn64tab), ("internal/strconv.uint64pow10", laid_internal_strconv_uint64pow10)] }
def JournalUsesSaid : Prop := journalUsesRow.holds Tryd.pinned (OpenSpec.ofChange journalUsesSpec)

/-- ITS FALSE NEIGHBOUR: 'it returns false'. Refute it at one input. -/
def journalUsesWrong : ChangeSpec := { name := "journalUses", fn := fun _ => fun
  | [d] => { results := [.lit (.bool false)], args := [d] }
  | _ => none }
def JournalUsesWrongFalsely : Prop := journalUsesRow.holds Tryd.pinned (OpenSpec.ofChange journalUsesWrong)

/-- 'gangsawlaw55.JournalAgain': WHATEVER THE INPUT: true; the input reads as it did. -/
def journalAgainSpec : ChangeSpec := { name := "journalAgain", fn := fun _ => fun
  | [d] => { results := [.lit (.bool true)], args := [d] }
  | _ => none }
def journalAgainRow : OpenClaim := { program := "ytgmhcmmdfejcmaadoor", sum := "58bf3686bb01f4a1ee48385be1a094f98b4b8b34a79cc7f4cf710e11fc031737", func := "gangsaw/gangsawlaw55.JournalAgain", spec := "journalAgain", inPlace := ["internal/abi.NoEscape", "internal/bytealg.MakeNoZero"], unfollowed := true, recurses := true, named := ["internal/strconv.uint64pow10", "math/bits.deBruijn32tab", "math/bits.deBruijn64tab"], apart := false, laid := [("math/bits.deBruijn32tab", laid_math_bits_deBruijn32tab), ("math/bits.deBruijn64tab", laid_math_bits_deBruijn64tab), ("internal/strconv.uint64pow10", laid_internal_strconv_uint64pow10)] }
def JournalAgainSaid : Prop := journalAgainRow.holds Tryd.pinned (OpenSpec.ofChange journalAgainSpec)

/-- ITS FALSE NEIGHBOUR: 'it returns false'. Refute it at one input. -/
def journalAgainWrong : ChangeSpec := { name := "journalAgain", fn := fun _ => fun
  | [d] => { results := [.lit (.bool false)], args := [d] }
  | _ => none }
def JournalAgainWrongFalsely : Prop := journalAgainRow.holds Tryd.pinned (OpenSpec.ofChange journalAgainWrong)

/- THE SECOND FORM. 'bulk': how many values and letters a reading holds, each counted each time it is reached (what is shared counts as often as it is met; a slice's spare places count too). A statement '..UptoSaid' is the law's where the arguments, and the package variables that the reading takes, are together of bulk at most 1048576: NARROWER than '..Said'. Prove '..Said' where nothing that the law and all that it calls make is longer than what came in: it says more and counts as full. Else prove '..UptoSaid'. A law counts once. -/
mutual
def uptoBulk {H : Type} : DataW H → Nat
  | .lit (.string bytes) => bytes.length + 1
  | .lit _ => 1
  | .nil => 1
  | .ptr d => uptoBulk d + 1
  | .slice elems spare => uptoBulkAll elems + uptoBulkAll spare + 1
  | .agg parts => uptoBulkAll parts + 1
  | .iface _ d => uptoBulk d + 1
  | .map entries => uptoBulkEntries entries + 1
  | .held _ => 1
def uptoBulkAll {H : Type} : List (DataW H) → Nat
  | [] => 0
  | d :: r => uptoBulk d + uptoBulkAll r
def uptoBulkEntries {H : Type} : List (Lit × DataW H) → Nat
  | [] => 0
  | x :: r => uptoBulkEntry x + uptoBulkEntries r
def uptoBulkEntry {H : Type} : Lit × DataW H → Nat
  | (.string bytes, d) => bytes.length + uptoBulk d + 1
  | (_, d) => uptoBulk d + 1
 end
def uptoSmall : (H : Type) → List (DataW H) → Bool := fun _ ds => decide (uptoBulkAll ds ≤ 1048576)
def OpenSpec.upto (s : _root_.Go.ChangeSpec) : _root_.Go.OpenSpec := { _root_.Go.OpenSpec.ofChange s with cond := some uptoSmall }

/-- 'gangsawlaw55.JournalFiles', WHERE WHAT IT READS IS OF BULK AT MOST 1048576: true; the input reads as it did. -/
def journalFilesUptoRow : OpenClaim := { program := "ytgmhcmmdfejcmaadoor", sum := "58bf3686bb01f4a1ee48385be1a094f98b4b8b34a79cc7f4cf710e11fc031737", func := "gangsaw/gangsawlaw55.JournalFiles", spec := "journalFiles", inPlace := ["internal/abi.NoEscape", "internal/bytealg.MakeNoZero"], unfollowed := true, recurses := true, named := ["internal/strconv.uint64pow10", "math/bits.deBruijn32tab", "math/bits.deBruijn64tab"], apart := false, laid := [("math/bits.deBruijn32tab", laid_math_bits_deBruijn32tab), ("math/bits.deBruijn64tab", laid_math_bits_deBruijn64tab), ("internal/strconv.uint64pow10", laid_internal_strconv_uint64pow10)], narrowed := true }
def JournalFilesUptoSaid : Prop := journalFilesUptoRow.holds Tryd.pinned (OpenSpec.upto journalFilesSpec)

/-- 'gangsawlaw55.JournalFrames', WHERE WHAT IT READS IS OF BULK AT MOST 1048576: true; the input reads as it did. -/
def journalFramesUptoRow : OpenClaim := { program := "ytgmhcmmdfejcmaadoor", sum := "58bf3686bb01f4a1ee48385be1a094f98b4b8b34a79cc7f4cf710e11fc031737", func := "gangsaw/gangsawlaw55.JournalFrames", spec := "journalFrames", inPlace := ["internal/abi.NoEscape", "internal/bytealg.MakeNoZero"], unfollowed := true, recurses := true, named := ["internal/strconv.uint64pow10", "math/bits.deBruijn32tab", "math/bits.deBruijn64tab"], apart := false, laid := [("math/bits.deBruijn32tab", laid_math_bits_deBruijn32tab), ("math/bits.deBruijn64tab", laid_math_bits_deBruijn64tab), ("internal/strconv.uint64pow10", laid_internal_strconv_uint64pow10)], narrowed := true }
def JournalFramesUptoSaid : Prop := journalFramesUptoRow.holds Tryd.pinned (OpenSpec.upto journalFramesSpec)

/-- 'gangsawlaw55.JournalPlays', WHERE WHAT IT READS IS OF BULK AT MOST 1048576: true; the input reads as it did. -/
def journalPlaysUptoRow : OpenClaim := { program := "ytgmhcmmdfejcmaadoor", sum := "58bf3686bb01f4a1ee48385be1a094f98b4b8b34a79cc7f4cf710e11fc031737", func := "gangsaw/gangsawlaw55.JournalPlays", spec := "journalPlays", inPlace := ["internal/abi.NoEscape", "internal/bytealg.MakeNoZero"], unfollowed := true, recurses := true, named := ["internal/strconv.uint64pow10", "math/bits.deBruijn32tab", "math/bits.deBruijn64tab"], apart := false, laid := [("math/bits.deBruijn32tab", laid_math_bits_deBruijn32tab), ("math/bits.deBruijn64tab", laid_math_bits_deBruijn64tab), ("internal/strconv.uint64pow10", laid_internal_strconv_uint64pow10)], narrowed := true }
def JournalPlaysUptoSaid : Prop := journalPlaysUptoRow.holds Tryd.pinned (OpenSpec.upto journalPlaysSpec)

/-- 'gangsawlaw55.JournalSafe', WHERE WHAT IT READS IS OF BULK AT MOST 1048576: true; the input reads as it did. -/
def journalSafeUptoRow : OpenClaim := { program := "ytgmhcmmdfejcmaadoor", sum := "58bf3686bb01f4a1ee48385be1a094f98b4b8b34a79cc7f4cf710e11fc031737", func := "gangsaw/gangsawlaw55.JournalSafe", spec := "journalSafe", inPlace := ["internal/abi.NoEscape", "internal/bytealg.MakeNoZero"], unfollowed := true, recurses := true, named := ["internal/strconv.uint64pow10", "math/bits.deBruijn32tab", "math/bits.deBruijn64tab"], apart := false, laid := [("math/bits.deBruijn32tab", laid_math_bits_deBruijn32tab), ("math/bits.deBruijn64tab", laid_math_bits_deBruijn64tab), ("internal/strconv.uint64pow10", laid_internal_strconv_uint64pow10)], narrowed := true }
def JournalSafeUptoSaid : Prop := journalSafeUptoRow.holds Tryd.pinned (OpenSpec.upto journalSafeSpec)

/-- 'gangsawlaw55.JournalChains', WHERE WHAT IT READS IS OF BULK AT MOST 1048576: true; the input reads as it did. -/
def journalChainsUptoRow : OpenClaim := { program := "ytgmhcmmdfejcmaadoor", sum := "58bf3686bb01f4a1ee48385be1a094f98b4b8b34a79cc7f4cf710e11fc031737", func := "gangsaw/gangsawlaw55.JournalChains", spec := "journalChains", inPlace := ["internal/abi.NoEscape", "internal/bytealg.MakeNoZero"], unfollowed := true, recurses := true, named := ["internal/strconv.uint64pow10", "math/bits.deBruijn32tab", "math/bits.deBruijn64tab"], apart := false, laid := [("math/bits.deBruijn32tab", laid_math_bits_deBruijn32tab), ("math/bits.deBruijn64tab", laid_math_bits_deBruijn64tab), ("internal/strconv.uint64pow10", laid_internal_strconv_uint64pow10)], narrowed := true }
def JournalChainsUptoSaid : Prop := journalChainsUptoRow.holds Tryd.pinned (OpenSpec.upto journalChainsSpec)

/-- 'gangsawlaw55.JournalUses', WHERE WHAT IT READS IS OF BULK AT MOST 1048576: true; the input reads as it did. -/
def journalUsesUptoRow : OpenClaim := { program := "ytgmhcmmdfejcmaadoor", sum := "58bf3686bb01f4a1ee48385be1a094f98b4b8b34a79cc7f4cf710e11fc031737", func := "gangsaw/gangsawlaw55.JournalUses", spec := "journalUses", inPlace := ["internal/abi.NoEscape", "internal/bytealg.MakeNoZero"], unfollowed := true, recurses := true, named := ["internal/strconv.uint64pow10", "math/bits.deBruijn32tab", "math/bits.deBruijn64tab"], apart := false, laid := [("math/bits.deBruijn32tab", laid_math_bits_deBruijn32tab), ("math/bits.deBruijn64tab", laid_math_bits_deBruijn64tab), ("internal/strconv.uint64pow10", laid_internal_strconv_uint64pow10)], narrowed := true }
def JournalUsesUptoSaid : Prop := journalUsesUptoRow.holds Tryd.pinned (OpenSpec.upto journalUsesSpec)

/-- 'gangsawlaw55.JournalAgain', WHERE WHAT IT READS IS OF BULK AT MOST 1048576: true; the input reads as it did. -/
def journalAgainUptoRow : OpenClaim := { program := "ytgmhcmmdfejcmaadoor", sum := "58bf3686bb01f4a1ee48385be1a094f98b4b8b34a79cc7f4cf710e11fc031737", func := "gangsaw/gangsawlaw55.JournalAgain", spec := "journalAgain", inPlace := ["internal/abi.NoEscape", "internal/bytealg.MakeNoZero"], unfollowed := true, recurses := true, named := ["internal/strconv.uint64pow10", "math/bits.deBruijn32tab", "math/bits.deBruijn64tab"], apart := false, laid := [("math/bits.deBruijn32tab", laid_math_bits_deBruijn32tab), ("math/bits.deBruijn64tab", laid_math_bits_deBruijn64tab), ("internal/strconv.uint64pow10", laid_internal_strconv_uint64pow10)], narrowed := true }
def JournalAgainUptoSaid : Prop := journalAgainUptoRow.holds Tryd.pinned (OpenSpec.upto journalAgainSpec)

end Rows
end Go.Proofs.YtgmhcmmdfejcmaaDoor
