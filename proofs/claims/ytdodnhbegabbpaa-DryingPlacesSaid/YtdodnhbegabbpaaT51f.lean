/- Chapter 51: what its functions compute. -/
import Derived.Test.YtdodnhbegabbpaaC51w
import Derived.Test.YtdodnhbegabbpaaT51c
namespace Go.Vm.Ch51
open _root_.Ch51 (T51)
theorem law10_args : ∀ as, ArgsHave [ruleS, intS, intS, batsS] as → ∃ m, callL T51 10 as [] = some (.bool true, m)
  | [a, b, c, d], h => by
    obtain ⟨nx, ny, xs, ys, rfl⟩ := arg_rule h.1
    obtain ⟨p, rfl⟩ := arg_int h.2.1
    obtain ⟨mo, rfl⟩ := arg_int h.2.2.1
    obtain ⟨nn, list, rfl, hl, _⟩ := arg_bats h.2.2.2.1
    exact law10 xs ys nx ny nn p mo list hl
  | [], h => h.elim
  | [_], h => h.2.elim
  | [_, _], h => h.2.2.elim
  | [_, _, _], h => h.2.2.2.elim
  | _ :: _ :: _ :: _ :: _ :: _, h => h.2.2.2.2.elim
end Go.Vm.Ch51
