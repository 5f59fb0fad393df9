/- Chapter 55: what its functions compute. -/
import Derived.Test.YtgmhcmmdfejcmaaDoorC55y
import Derived.Test.YtgmhcmmdfejcmaaDoorT55
namespace Go.Vm.Ch55
open _root_.Ch55 (T55)
theorem law9_args : ∀ as, ArgsHave [strsS] as → ∃ m, callL T55 9 as [] = some (.bool true, m) :=
  args1 fun a ha => by
    obtain ⟨nn, P, rfl, h3, -⟩ := ck_strs (arg_one ha)
    exact law9 P nn h3
end Go.Vm.Ch55
