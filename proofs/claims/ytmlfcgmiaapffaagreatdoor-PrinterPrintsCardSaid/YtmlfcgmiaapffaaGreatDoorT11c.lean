/- Chapter 11: what its functions compute. -/
import Derived.Test.YtmlfcgmiaapffaaGreatDoorC11si
namespace Go.Vm.Ch11
open _root_.Ch11 (T11)
theorem law3_args {P : Program} (H : Ty11 P) : ∀ as, ArgsT P [22] as → ∃ m, callL T11 3 as [] = some (.bool true, m)
  | [a], h => by
    obtain ⟨A, hA, hn⟩ := argT_lines H h.1
    exact q3 A a hA hn
end Go.Vm.Ch11
