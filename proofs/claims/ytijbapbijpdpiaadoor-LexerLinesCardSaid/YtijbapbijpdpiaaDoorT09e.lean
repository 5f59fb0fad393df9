/- Chapter 09: what its functions compute. -/
import Derived.Test.YtijbapbijpdpiaaDoorC09z
import Derived.Test.YtijbapbijpdpiaaDoorT09
namespace Go.Vm.Ch09
open _root_.Ch09 (T09)
theorem law8_args : ∀ as, ArgsHave [strS] as → ∃ m, callL T09 8 as [] = some (.bool true, m) :=
  args1 fun a ha => by
    obtain ⟨b, rfl, hb⟩ := ck_str (arg_one ha)
    exact law8 b hb
end Go.Vm.Ch09
