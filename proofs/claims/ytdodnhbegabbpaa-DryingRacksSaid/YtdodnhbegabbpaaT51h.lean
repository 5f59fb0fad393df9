/- Chapter 51: what its functions compute. -/
import Derived.Test.YtdodnhbegabbpaaC51z
import Derived.Test.YtdodnhbegabbpaaT51c
import Derived.Test.YtdodnhbegabbpaaVI
namespace Go.Vm.Ch51
open _root_.Ch51 (T51)
theorem law4_args : ∀ as, ArgsHave [ruleS, intS, batsS] as → (∀ o nn xs, as[2]? = some (.vec o nn xs) → xs.length * 32 ≤ reachBytes) → ∃ m, callL T51 4 as [] = some (.bool true, m)
  | [a, b, c], h, hz => by
    obtain ⟨nx, ny, xs, ys, rfl⟩ := arg_rule h.1
    obtain ⟨p, rfl⟩ := arg_int h.2.1
    obtain ⟨nn, list, rfl, hl, _⟩ := arg_bats h.2.2.1
    have h2 := hz none nn (list.map fun b => .agg (eb b)) rfl
    rw [List.length_map] at h2
    have e : reachBytes = 140737488351232 := by decide
    exact law4 xs ys nx ny nn p list hl (by omega)
  | [], h, _ => h.elim
  | [_], h, _ => h.2.elim
  | [_, _], h, _ => h.2.2.elim
  | _ :: _ :: _ :: _ :: _, h, _ => h.2.2.2.elim
end Go.Vm.Ch51
