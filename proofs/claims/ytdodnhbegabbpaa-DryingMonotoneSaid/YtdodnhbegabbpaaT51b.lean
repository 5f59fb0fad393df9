/- Chapter 51: what its functions compute. -/
import Derived.Test.YtdodnhbegabbpaaC51g
import Derived.Test.YtdodnhbegabbpaaT51
namespace Go.Vm.Ch51
open _root_.Ch51 (T51)
theorem law7_args : ∀ as, ArgsHave [ruleS, intS, intS, intS] as → ∃ m, callL T51 7 as [] = some (.bool true, m)
  | [a, b, c, d], h => by
    obtain ⟨nx, ny, xs, ys, rfl⟩ := arg_rule h.1
    obtain ⟨t, rfl⟩ := arg_int h.2.1
    obtain ⟨u, rfl⟩ := arg_int h.2.2.1
    obtain ⟨mn, rfl⟩ := arg_int h.2.2.2.1
    exact law7 xs ys nx ny t u mn
  | [], h => h.elim
  | [_], h => h.2.elim
  | [_, _], h => h.2.2.elim
  | [_, _, _], h => h.2.2.2.elim
  | _ :: _ :: _ :: _ :: _ :: _, h => h.2.2.2.2.elim
end Go.Vm.Ch51
