/- Chapter 09: what its functions compute. -/
import Derived.Test.YtijbapbijpdpiaaDoorC09q
namespace Go.Vm.Ch09
open _root_.Ch09 (T09)
theorem law3_args : ∀ as, ArgsHave [strS] as → ∃ m, callL T09 3 as [] = some (.bool true, m) :=
  args1 fun a ha => by
    obtain ⟨b, rfl, hb⟩ := ck_str (arg_one ha)
    exact ⟨[], law3 b hb⟩
end Go.Vm.Ch09
