/- Chapter 12: what its functions compute. -/
import Derived.Test.YtmncbcgcahfdcaaDoorC12k
namespace Go.Vm.Ch12
open _root_.Ch12 (T12)
set_option maxRecDepth 10000
set_option maxHeartbeats 16000000
end Go.Vm.Ch12
