/- Chapter 09: what its functions compute. -/
import Derived.Test.YtijbapbijpdpiaaDoorC09x
import Derived.Test.YtijbapbijpdpiaaDoorT09
namespace Go.Vm.Ch09
open _root_.Ch09 (T09)
theorem law7_args : ∀ as, ArgsHave [strS, strS] as → ∃ m, callL T09 7 as [] = some (.bool true, m) :=
  args2 fun a b ha hb => by
    obtain ⟨s, rfl, h1⟩ := ck_str (arg_one ha)
    obtain ⟨c, rfl, h2⟩ := ck_str (arg_one hb)
    exact ⟨[], law7 s c h1 h2⟩
end Go.Vm.Ch09
