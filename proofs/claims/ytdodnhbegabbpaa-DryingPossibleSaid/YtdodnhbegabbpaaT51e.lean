/- Chapter 51: what its functions compute. -/
import Derived.Test.YtdodnhbegabbpaaC51v
import Derived.Test.YtdodnhbegabbpaaT51c
namespace Go.Vm.Ch51
open _root_.Ch51 (T51)
theorem law8_args : ∀ as, ArgsHave [ruleS, intS, batsS] as → ∃ m, callL T51 8 as [] = some (.bool true, m)
  | [a, b, c], h => by
    obtain ⟨nx, ny, xs, ys, rfl⟩ := arg_rule h.1
    obtain ⟨p, rfl⟩ := arg_int h.2.1
    obtain ⟨nn, list, rfl, hl, _⟩ := arg_bats h.2.2.1
    exact law8 xs ys nx ny nn p list hl
  | [], h => h.elim
  | [_], h => h.2.elim
  | [_, _], h => h.2.2.elim
  | _ :: _ :: _ :: _ :: _, h => h.2.2.2.elim
end Go.Vm.Ch51
