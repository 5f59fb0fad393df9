/- Chapter 12: what its functions compute. -/
import Derived.Test.YtmncbcgcahfdcaaDoorC12zw
import Derived.Test.YtmncbcgcahfdcaaDoorVI
namespace Go.Vm.Ch12
open _root_.Ch12 (T12)
theorem law3_args : ∀ as, ArgsHave [strS, intS] as → ∃ m, callL T12 3 as [] = some (.bool true, m) :=
  args2 fun a b ha hb => by
    obtain ⟨x, rfl, hx⟩ := ck_str (arg_one ha)
    obtain ⟨n, rfl, hn⟩ := ck_int (arg_one hb)
    exact q3 x n
end Go.Vm.Ch12
