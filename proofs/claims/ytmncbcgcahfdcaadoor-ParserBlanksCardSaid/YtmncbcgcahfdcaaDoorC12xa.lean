/- Chapter 12: what its functions compute. -/
import Derived.Test.YtmncbcgcahfdcaaDoorC12x
namespace Go.Vm.Ch12
open _root_.Ch12 (T12)
set_option maxRecDepth 10000
set_option maxHeartbeats 16000000
theorem mostF_snoc (acc : List (Nat × L0)) (d : Nat) (l : L0) : mostF (acc ++ [(d, l)]) = if l.head then d + 1 else d := by simp [mostF]
end Go.Vm.Ch12
