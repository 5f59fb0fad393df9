/- Chapter 12: what its functions compute. -/
import Derived.Test.YtmncbcgcahfdcaaDoorC12o
namespace Go.Vm.Ch12
open _root_.Ch12 (T12)
set_option maxRecDepth 10000
set_option maxHeartbeats 16000000
theorem lexA_blk {b : List UInt8} (h2 : blk b = b.length ∨ (b[blk b]?).map UInt8.toNat = some 35) : lexA (b.drop (blk b)) (blk b) [] = .ok [] (b.drop (blk b + 1)) := by
  rcases h2 with h2 | h2
  · rw [List.drop_eq_nil_of_le (by omega), lexA_nil, List.drop_eq_nil_of_le (by omega)]
  · have hlt : blk b < b.length := by
      refine Classical.byContradiction fun hn => ?_
      rw [List.getElem?_eq_none (by omega)] at h2
      simp at h2
    have h35 : b[blk b].toNat = 35 := by
      rw [List.getElem?_eq_getElem hlt] at h2
      simpa using h2
    have hd : b.drop (blk b) = b[blk b] :: b.drop (blk b + 1) := by simp
    rw [hd, lexA_cons, if_neg (by omega), if_pos h35]
end Go.Vm.Ch12
