/- Chapter 55: what its functions compute. -/
import Derived.Test.YtgmhcmmdfejcmaaDoorC55o
import Derived.Test.YtgmhcmmdfejcmaaDoorT55
namespace Go.Vm.Ch55
open _root_.Ch55 (T55)
theorem law4_args : ∀ as, ArgsHave [strS, strS, strsS, strS] as → ∃ m, callL T55 4 as [] = some (.bool true, m) :=
  args4 fun a b c d ha hb hc hd => by
    obtain ⟨h, rfl, h1⟩ := ck_str (arg_one ha)
    obtain ⟨r, rfl, h2⟩ := ck_str (arg_one hb)
    obtain ⟨nn, P, rfl, h3, -⟩ := ck_strs (arg_one hc)
    obtain ⟨d, rfl, h4⟩ := ck_str (arg_one hd)
    exact law4 h r P nn d h3 h1 h2 h4
end Go.Vm.Ch55
