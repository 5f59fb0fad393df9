/-
  No cell of these rows narrows 'for every input' (looked for: loops, veiled, ifaces, maps, wideKeys, modest, calm, conditions, laid).
  DERIVED. THE GIVEN ROWS OF THIS SEAT. 8 by the template 'for every input the law returns true; each argument reads behind the call as it read before'; 0 by the template 'total and deterministic' (their statements: YtdodnhbegabbpaaTotals.lean).
  GIVEN WITH THE SEED: the statements are not yours to turn. If you find one false, say at which input.
  Laid BY PROGRAM, IN A SANDBOX (cutbox-rows.mjs): the forced cells as the released guide's own fill.sh prints them over the translation 400c55813b5df42e… (all of the seat's roots in one cut). By AI agents, Wed Nov 11 2026. No macro, syntax, notation, axiom, sorry.
-/
import Derived.Test.YtdodnhbegabbpaaChecked
import GoSem.Claim
import GoSem.ClaimJoined
import GoSem.ClaimMapViews
import Derived.JoinedTies
import Derived.KernelRfl
namespace Go.Proofs.Ytdodnhbegabbpaa
/- THE CELL 'sum', in the pinned program and in every row, IS THE sha256 OF THE DUMP (.gsa) THAT YtdodnhbegabbpaaProg.lean LOADS. Nothing in Lean hashes anything: it is a label: what it is worth is what the hold of that sum in a sandbox is worth. -/
noncomputable def Try.pinned : Pinned := { name := "ytdodnhbegabbpaa", sum := "400c55813b5df42ea0d12a62701ade5fcff39f4013a39b912a1c9baa73349df3", checked := Try.checked }
namespace Rows
def none {H : Type} : Left H := { results := [], args := [] }

/-- 'gangsawlaw51.DryingTimes': WHATEVER THE INPUT: true; the input reads as it did. -/
def dryingTimesSpec : ChangeSpec := { name := "dryingTimes", fn := fun _ => fun
  | [d1, d2, d3, d4] => { results := [.lit (.bool true)], args := [d1, d2, d3, d4] }
  | _ => none }
def dryingTimesRow : OpenClaim := { program := "ytdodnhbegabbpaa", sum := "400c55813b5df42ea0d12a62701ade5fcff39f4013a39b912a1c9baa73349df3", func := "gangsaw/gangsawlaw51.DryingTimes", spec := "dryingTimes", unfollowed := true, recurses := true, apart := false }
def DryingTimesSaid : Prop := dryingTimesRow.holds Try.pinned (OpenSpec.ofChange dryingTimesSpec)

/-- ITS FALSE NEIGHBOUR: 'it returns false'. Refute it at one input. -/
def dryingTimesWrong : ChangeSpec := { name := "dryingTimes", fn := fun _ => fun
  | [d1, d2, d3, d4] => { results := [.lit (.bool false)], args := [d1, d2, d3, d4] }
  | _ => none }
def DryingTimesWrongFalsely : Prop := dryingTimesRow.holds Try.pinned (OpenSpec.ofChange dryingTimesWrong)

/-- 'gangsawlaw51.DryingRacks': WHATEVER THE INPUT: true; the input reads as it did. -/
def dryingRacksSpec : ChangeSpec := { name := "dryingRacks", fn := fun _ => fun
  | [d1, d2, d3] => { results := [.lit (.bool true)], args := [d1, d2, d3] }
  | _ => none }
def dryingRacksRow : OpenClaim := { program := "ytdodnhbegabbpaa", sum := "400c55813b5df42ea0d12a62701ade5fcff39f4013a39b912a1c9baa73349df3", func := "gangsaw/gangsawlaw51.DryingRacks", spec := "dryingRacks", unfollowed := true, recurses := true, apart := false }
def DryingRacksSaid : Prop := dryingRacksRow.holds Try.pinned (OpenSpec.ofChange dryingRacksSpec)

/-- ITS FALSE NEIGHBOUR: 'it returns false'. Refute it at one input. -/
def dryingRacksWrong : ChangeSpec := { name := "dryingRacks", fn := fun _ => fun
  | [d1, d2, d3] => { results := [.lit (.bool false)], args := [d1, d2, d3] }
  | _ => none }
def DryingRacksWrongFalsely : Prop := dryingRacksRow.holds Try.pinned (OpenSpec.ofChange dryingRacksWrong)

/-- 'gangsawlaw51.DryingValid': WHATEVER THE INPUT: true; the input reads as it did. -/
def dryingValidSpec : ChangeSpec := { name := "dryingValid", fn := fun _ => fun
  | [d1, d2, d3, d4] => { results := [.lit (.bool true)], args := [d1, d2, d3, d4] }
  | _ => none }
def dryingValidRow : OpenClaim := { program := "ytdodnhbegabbpaa", sum := "400c55813b5df42ea0d12a62701ade5fcff39f4013a39b912a1c9baa73349df3", func := "gangsaw/gangsawlaw51.DryingValid", spec := "dryingValid", unfollowed := true, recurses := true, apart := false }
def DryingValidSaid : Prop := dryingValidRow.holds Try.pinned (OpenSpec.ofChange dryingValidSpec)

/-- ITS FALSE NEIGHBOUR: 'it returns false'. Refute it at one input. -/
def dryingValidWrong : ChangeSpec := { name := "dryingValid", fn := fun _ => fun
  | [d1, d2, d3, d4] => { results := [.lit (.bool false)], args := [d1, d2, d3, d4] }
  | _ => none }
def DryingValidWrongFalsely : Prop := dryingValidRow.holds Try.pinned (OpenSpec.ofChange dryingValidWrong)

/-- 'gangsawlaw51.DryingEnds': WHATEVER THE INPUT: true; the input reads as it did. -/
def dryingEndsSpec : ChangeSpec := { name := "dryingEnds", fn := fun _ => fun
  | [d1, d2, d3] => { results := [.lit (.bool true)], args := [d1, d2, d3] }
  | _ => none }
def dryingEndsRow : OpenClaim := { program := "ytdodnhbegabbpaa", sum := "400c55813b5df42ea0d12a62701ade5fcff39f4013a39b912a1c9baa73349df3", func := "gangsaw/gangsawlaw51.DryingEnds", spec := "dryingEnds", unfollowed := true, recurses := true, apart := false }
def DryingEndsSaid : Prop := dryingEndsRow.holds Try.pinned (OpenSpec.ofChange dryingEndsSpec)

/-- ITS FALSE NEIGHBOUR: 'it returns false'. Refute it at one input. -/
def dryingEndsWrong : ChangeSpec := { name := "dryingEnds", fn := fun _ => fun
  | [d1, d2, d3] => { results := [.lit (.bool false)], args := [d1, d2, d3] }
  | _ => none }
def DryingEndsWrongFalsely : Prop := dryingEndsRow.holds Try.pinned (OpenSpec.ofChange dryingEndsWrong)

/-- 'gangsawlaw51.DryingMonotone': WHATEVER THE INPUT: true; the input reads as it did. -/
def dryingMonotoneSpec : ChangeSpec := { name := "dryingMonotone", fn := fun _ => fun
  | [d1, d2, d3, d4] => { results := [.lit (.bool true)], args := [d1, d2, d3, d4] }
  | _ => none }
def dryingMonotoneRow : OpenClaim := { program := "ytdodnhbegabbpaa", sum := "400c55813b5df42ea0d12a62701ade5fcff39f4013a39b912a1c9baa73349df3", func := "gangsaw/gangsawlaw51.DryingMonotone", spec := "dryingMonotone", unfollowed := true, recurses := true, apart := false }
def DryingMonotoneSaid : Prop := dryingMonotoneRow.holds Try.pinned (OpenSpec.ofChange dryingMonotoneSpec)

/-- ITS FALSE NEIGHBOUR: 'it returns false'. Refute it at one input. -/
def dryingMonotoneWrong : ChangeSpec := { name := "dryingMonotone", fn := fun _ => fun
  | [d1, d2, d3, d4] => { results := [.lit (.bool false)], args := [d1, d2, d3, d4] }
  | _ => none }
def DryingMonotoneWrongFalsely : Prop := dryingMonotoneRow.holds Try.pinned (OpenSpec.ofChange dryingMonotoneWrong)

/-- 'gangsawlaw51.DryingPossible': WHATEVER THE INPUT: true; the input reads as it did. -/
def dryingPossibleSpec : ChangeSpec := { name := "dryingPossible", fn := fun _ => fun
  | [d1, d2, d3] => { results := [.lit (.bool true)], args := [d1, d2, d3] }
  | _ => none }
def dryingPossibleRow : OpenClaim := { program := "ytdodnhbegabbpaa", sum := "400c55813b5df42ea0d12a62701ade5fcff39f4013a39b912a1c9baa73349df3", func := "gangsaw/gangsawlaw51.DryingPossible", spec := "dryingPossible", unfollowed := true, recurses := true, apart := false }
def DryingPossibleSaid : Prop := dryingPossibleRow.holds Try.pinned (OpenSpec.ofChange dryingPossibleSpec)

/-- ITS FALSE NEIGHBOUR: 'it returns false'. Refute it at one input. -/
def dryingPossibleWrong : ChangeSpec := { name := "dryingPossible", fn := fun _ => fun
  | [d1, d2, d3] => { results := [.lit (.bool false)], args := [d1, d2, d3] }
  | _ => none }
def DryingPossibleWrongFalsely : Prop := dryingPossibleRow.holds Try.pinned (OpenSpec.ofChange dryingPossibleWrong)

/-- 'gangsawlaw51.DryingBounds': WHATEVER THE INPUT: true; the input reads as it did. -/
def dryingBoundsSpec : ChangeSpec := { name := "dryingBounds", fn := fun _ => fun
  | [d1, d2, d3, d4] => { results := [.lit (.bool true)], args := [d1, d2, d3, d4] }
  | _ => none }
def dryingBoundsRow : OpenClaim := { program := "ytdodnhbegabbpaa", sum := "400c55813b5df42ea0d12a62701ade5fcff39f4013a39b912a1c9baa73349df3", func := "gangsaw/gangsawlaw51.DryingBounds", spec := "dryingBounds", unfollowed := true, recurses := true, apart := false }
def DryingBoundsSaid : Prop := dryingBoundsRow.holds Try.pinned (OpenSpec.ofChange dryingBoundsSpec)

/-- ITS FALSE NEIGHBOUR: 'it returns false'. Refute it at one input. -/
def dryingBoundsWrong : ChangeSpec := { name := "dryingBounds", fn := fun _ => fun
  | [d1, d2, d3, d4] => { results := [.lit (.bool false)], args := [d1, d2, d3, d4] }
  | _ => none }
def DryingBoundsWrongFalsely : Prop := dryingBoundsRow.holds Try.pinned (OpenSpec.ofChange dryingBoundsWrong)

/-- 'gangsawlaw51.DryingPlaces': WHATEVER THE INPUT: true; the input reads as it did. -/
def dryingPlacesSpec : ChangeSpec := { name := "dryingPlaces", fn := fun _ => fun
  | [d1, d2, d3, d4] => { results := [.lit (.bool true)], args := [d1, d2, d3, d4] }
  | _ => none }
def dryingPlacesRow : OpenClaim := { program := "ytdodnhbegabbpaa", sum := "400c55813b5df42ea0d12a62701ade5fcff39f4013a39b912a1c9baa73349df3", func := "gangsaw/gangsawlaw51.DryingPlaces", spec := "dryingPlaces", unfollowed := true, recurses := true, apart := false }
def DryingPlacesSaid : Prop := dryingPlacesRow.holds Try.pinned (OpenSpec.ofChange dryingPlacesSpec)

/-- ITS FALSE NEIGHBOUR: 'it returns false'. Refute it at one input. -/
def dryingPlacesWrong : ChangeSpec := { name := "dryingPlaces", fn := fun _ => fun
  | [d1, d2, d3, d4] => { results := [.lit (.bool false)], args := [d1, d2, d3, d4] }
  | _ => none }
def DryingPlacesWrongFalsely : Prop := dryingPlacesRow.holds Try.pinned (OpenSpec.ofChange dryingPlacesWrong)

/- THE SECOND FORM. 'bulk': how many values and letters a reading holds, each counted each time it is reached (what is shared counts as often as it is met; a slice's spare places count too). A statement '..UptoSaid' is the law's where the arguments, and the package variables that the reading takes, are together of bulk at most 1048576: NARROWER than '..Said'. Prove '..Said' where nothing that the law and all that it calls make is longer than what came in: it says more and counts as full. Else prove '..UptoSaid'. A law counts once. -/
mutual
def uptoBulk {H : Type} : DataW H → Nat
  | .lit (.string bytes) => bytes.length + 1
  | .lit _ => 1
  | .nil => 1
  | .ptr d => uptoBulk d + 1
  | .slice elems spare => uptoBulkAll elems + uptoBulkAll spare + 1
  | .agg parts => uptoBulkAll parts + 1
  | .iface _ d => uptoBulk d + 1
  | .map entries => uptoBulkEntries entries + 1
  | .held _ => 1
def uptoBulkAll {H : Type} : List (DataW H) → Nat
  | [] => 0
  | d :: r => uptoBulk d + uptoBulkAll r
def uptoBulkEntries {H : Type} : List (Lit × DataW H) → Nat
  | [] => 0
  | x :: r => uptoBulkEntry x + uptoBulkEntries r
def uptoBulkEntry {H : Type} : Lit × DataW H → Nat
  | (.string bytes, d) => bytes.length + uptoBulk d + 1
  | (_, d) => uptoBulk d + 1
 end
def uptoSmall : (H : Type) → List (DataW H) → Bool := fun _ ds => decide (uptoBulkAll ds ≤ 1048576)
def OpenSpec.upto (s : _root_.Go.ChangeSpec) : _root_.Go.OpenSpec := { _root_.Go.OpenSpec.ofChange s with cond := some uptoSmall }

/-- 'gangsawlaw51.DryingTimes', WHERE WHAT IT READS IS OF BULK AT MOST 1048576: true; the input reads as it did. -/
def dryingTimesUptoRow : OpenClaim := { program := "ytdodnhbegabbpaa", sum := "400c55813b5df42ea0d12a62701ade5fcff39f4013a39b912a1c9baa73349df3", func := "gangsaw/gangsawlaw51.DryingTimes", spec := "dryingTimes", unfollowed := true, recurses := true, apart := false, narrowed := true }
def DryingTimesUptoSaid : Prop := dryingTimesUptoRow.holds Try.pinned (OpenSpec.upto dryingTimesSpec)

/-- 'gangsawlaw51.DryingRacks', WHERE WHAT IT READS IS OF BULK AT MOST 1048576: true; the input reads as it did. -/
def dryingRacksUptoRow : OpenClaim := { program := "ytdodnhbegabbpaa", sum := "400c55813b5df42ea0d12a62701ade5fcff39f4013a39b912a1c9baa73349df3", func := "gangsaw/gangsawlaw51.DryingRacks", spec := "dryingRacks", unfollowed := true, recurses := true, apart := false, narrowed := true }
def DryingRacksUptoSaid : Prop := dryingRacksUptoRow.holds Try.pinned (OpenSpec.upto dryingRacksSpec)

/-- 'gangsawlaw51.DryingValid', WHERE WHAT IT READS IS OF BULK AT MOST 1048576: true; the input reads as it did. -/
def dryingValidUptoRow : OpenClaim := { program := "ytdodnhbegabbpaa", sum := "400c55813b5df42ea0d12a62701ade5fcff39f4013a39b912a1c9baa73349df3", func := "gangsaw/gangsawlaw51.DryingValid", spec := "dryingValid", unfollowed := true, recurses := true, apart := false, narrowed := true }
def DryingValidUptoSaid : Prop := dryingValidUptoRow.holds Try.pinned (OpenSpec.upto dryingValidSpec)

/-- 'gangsawlaw51.DryingEnds', WHERE WHAT IT READS IS OF BULK AT MOST 1048576: true; the input reads as it did. -/
def dryingEndsUptoRow : OpenClaim := { program := "ytdodnhbegabbpaa", sum := "400c55813b5df42ea0d12a62701ade5fcff39f4013a39b912a1c9baa73349df3", func := "gangsaw/gangsawlaw51.DryingEnds", spec := "dryingEnds", unfollowed := true, recurses := true, apart := false, narrowed := true }
def DryingEndsUptoSaid : Prop := dryingEndsUptoRow.holds Try.pinned (OpenSpec.upto dryingEndsSpec)

/-- 'gangsawlaw51.DryingMonotone', WHERE WHAT IT READS IS OF BULK AT MOST 1048576: true; the input reads as it did. -/
def dryingMonotoneUptoRow : OpenClaim := { program := "ytdodnhbegabbpaa", sum := "400c55813b5df42ea0d12a62701ade5fcff39f4013a39b912a1c9baa73349df3", func := "gangsaw/gangsawlaw51.DryingMonotone", spec := "dryingMonotone", unfollowed := true, recurses := true, apart := false, narrowed := true }
def DryingMonotoneUptoSaid : Prop := dryingMonotoneUptoRow.holds Try.pinned (OpenSpec.upto dryingMonotoneSpec)

/-- 'gangsawlaw51.DryingPossible', WHERE WHAT IT READS IS OF BULK AT MOST 1048576: true; the input reads as it did. -/
def dryingPossibleUptoRow : OpenClaim := { program := "ytdodnhbegabbpaa", sum := "400c55813b5df42ea0d12a62701ade5fcff39f4013a39b912a1c9baa73349df3", func := "gangsaw/gangsawlaw51.DryingPossible", spec := "dryingPossible", unfollowed := true, recurses := true, apart := false, narrowed := true }
def DryingPossibleUptoSaid : Prop := dryingPossibleUptoRow.holds Try.pinned (OpenSpec.upto dryingPossibleSpec)

/-- 'gangsawlaw51.DryingBounds', WHERE WHAT IT READS IS OF BULK AT MOST 1048576: true; the input reads as it did. -/
def dryingBoundsUptoRow : OpenClaim := { program := "ytdodnhbegabbpaa", sum := "400c55813b5df42ea0d12a62701ade5fcff39f4013a39b912a1c9baa73349df3", func := "gangsaw/gangsawlaw51.DryingBounds", spec := "dryingBounds", unfollowed := true, recurses := true, apart := false, narrowed := true }
def DryingBoundsUptoSaid : Prop := dryingBoundsUptoRow.holds Try.pinned (OpenSpec.upto dryingBoundsSpec)

/-- 'gangsawlaw51.DryingPlaces', WHERE WHAT IT READS IS OF BULK AT MOST 1048576: true; the input reads as it did. -/
def dryingPlacesUptoRow : OpenClaim := { program := "ytdodnhbegabbpaa", sum := "400c55813b5df42ea0d12a62701ade5fcff39f4013a39b912a1c9baa73349df3", func := "gangsaw/gangsawlaw51.DryingPlaces", spec := "dryingPlaces", unfollowed := true, recurses := true, apart := false, narrowed := true }
def DryingPlacesUptoSaid : Prop := dryingPlacesUptoRow.holds Try.pinned (OpenSpec.upto dryingPlacesSpec)

end Rows
end Go.Proofs.Ytdodnhbegabbpaa
