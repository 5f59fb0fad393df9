/- Chapter 10: what its functions compute. -/
import Derived.Test.YtmncbcgcahfdcaaGreatDoorC10zt
namespace Go.Vm.Ch10
open _root_.Ch10 (T10)
theorem law5_args : ∀ as, ArgsHave [strS] as → ∃ m, callL T10 5 as [] = some (.bool true, m) :=
  args1 fun a ha => by
    obtain ⟨s, rfl, -⟩ := ck_str (arg_one ha)
    exact q5 s
end Go.Vm.Ch10
