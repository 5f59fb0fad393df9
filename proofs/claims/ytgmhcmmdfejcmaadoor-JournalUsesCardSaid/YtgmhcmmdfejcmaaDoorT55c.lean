/- Chapter 55: what its functions compute. -/
import Derived.Test.YtgmhcmmdfejcmaaDoorC55r
import Derived.Test.YtgmhcmmdfejcmaaDoorT55
namespace Go.Vm.Ch55
open _root_.Ch55 (T55)
abbrev u8S : Bool × List CK := (false, [.p (.int .u8)])
theorem law7_args : ∀ as, ArgsHave [strsS, u8S] as → ∃ m, callL T55 7 as [] = some (.bool true, m) :=
  args2 fun a b ha hb => by
    obtain ⟨nn, P, rfl, h3, -⟩ := ck_strs (arg_one ha)
    obtain ⟨b, rfl⟩ := ck_u8 (arg_one hb)
    exact law7 P nn b h3
theorem law8_args : ∀ as, ArgsHave [strS] as → ∃ m, callL T55 8 as [] = some (.bool true, m) :=
  args1 fun a ha => by
    obtain ⟨d, rfl, h1⟩ := ck_str (arg_one ha)
    exact law8 d h1
end Go.Vm.Ch55
