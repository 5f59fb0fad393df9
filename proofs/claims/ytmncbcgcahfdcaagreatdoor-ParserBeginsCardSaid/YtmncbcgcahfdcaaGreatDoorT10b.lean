/- Chapter 10: what its functions compute. -/
import Derived.Test.YtmncbcgcahfdcaaGreatDoorC10zv
namespace Go.Vm.Ch10
open _root_.Ch10 (T10)
theorem law6_args : ∀ as, ArgsHave [strS, intS] as → ∃ m, callL T10 6 as [] = some (.bool true, m) :=
  args2 fun a b ha hb => by
    obtain ⟨s, rfl, -⟩ := ck_str (arg_one ha)
    obtain ⟨n, rfl, hn⟩ := ck_int (arg_one hb)
    exact q6 s n hn
end Go.Vm.Ch10
