/- Chapter 12: what its functions compute. -/
import Derived.Test.YtmncbcgcahfdcaaDoorC12l
import Derived.Test.YtmncbcgcahfdcaaDoorC12m
namespace Go.Vm.Ch12
open _root_.Ch12 (T12)
set_option maxRecDepth 10000
set_option maxHeartbeats 16000000
end Go.Vm.Ch12
namespace Go.Vm.Ch12
open _root_.Ch12 (T12)
set_option maxRecDepth 10000
set_option maxHeartbeats 16000000
/-! ### the reference's scan -/
/-- The slots of the reference's scan. -/
structure S11 (s : St) (b : List UInt8) (m : Mem) : Prop where
  e0 : s.get 0 = .str b
  e2 : s.get 2 = .ptr (.loc 2 0) 0
  e3 : s.get 3 = .ptr (.loc 3 0) 0
  e4 : s.get 4 = .ptr (.loc 4 0) 0
  l2 : s.loc 2 = [sc0]
  hm : s.mem = m
end Go.Vm.Ch12
