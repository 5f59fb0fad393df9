/- Chapter 10: what its functions compute. -/
import Derived.Test.YtmncbcgcahfdcaaGreatDoorC10xf
import Derived.Test.YtmncbcgcahfdcaaGreatDoorVI
namespace Go.Vm.Ch10
open _root_.Ch10 (T10)
theorem law3_args : ∀ as, ArgsHave [strS] as → ∃ m, callL T10 3 as [] = some (.bool true, m) :=
  args1 fun a ha => by
    obtain ⟨b, rfl, hb⟩ := ck_str (arg_one ha)
    exact q3 b
end Go.Vm.Ch10
