/- Chapter 55: what its functions compute. -/
import Derived.Test.YtgmhcmmdfejcmaaDoorC55zd
import Derived.Test.YtgmhcmmdfejcmaaDoorT55
namespace Go.Vm.Ch55
open _root_.Ch55 (T55)
theorem law6_args : ∀ as, ArgsHave [movesS] as → ∃ m, callL T55 6 as [] = some (.bool true, m) :=
  args1 fun a ha => by
    obtain ⟨nn, P, rfl, hl, hP⟩ := arg_moves ha
    exact law6 P nn hl fun p hp => (hP p hp).2.2.2
end Go.Vm.Ch55
