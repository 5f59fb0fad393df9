/- Each literal is the translation of the given function. -/
import Derived.Test.YtgmhcmmdfejcmaaDoorProg
import Derived.Test.YtgmhcmmdfejcmaaDoorL55
import Derived.Test.YtgmhcmmdfejcmaaDoorVE
import Derived.KernelRfl
import Derived.Test.YtgmhcmmdfejcmaaDoorTr55a
namespace Go.Proofs.YtgmhcmmdfejcmaaDoor
open Go.Vm
set_option maxRecDepth 1000000 in
theorem tr34 : trF Tryd.prog heapT effT drawOk 34 = some _root_.Ch55.c34 := by kernel_rfl
set_option maxRecDepth 1000000 in
theorem tr35 : trF Tryd.prog heapT effT drawOk 35 = some _root_.Ch55.c35 := by kernel_rfl
set_option maxRecDepth 1000000 in
theorem tr36 : trF Tryd.prog heapT effT drawOk 36 = some _root_.Ch55.c36 := by kernel_rfl
set_option maxRecDepth 1000000 in
theorem tr37 : trF Tryd.prog heapT effT drawOk 37 = some _root_.Ch55.c37 := by kernel_rfl
set_option maxRecDepth 1000000 in
theorem tr38 : trF Tryd.prog heapT effT drawOk 38 = some _root_.Ch55.c38 := by kernel_rfl
set_option maxRecDepth 1000000 in
theorem tr39 : trF Tryd.prog heapT effT drawOk 39 = some _root_.Ch55.c39 := by kernel_rfl
set_option maxRecDepth 1000000 in
theorem tr40 : trF Tryd.prog heapT effT drawOk 40 = some _root_.Ch55.c40 := by kernel_rfl
set_option maxRecDepth 1000000 in
theorem tr41 : trF Tryd.prog heapT effT drawOk 41 = some _root_.Ch55.c41 := by kernel_rfl
set_option maxRecDepth 1000000 in
theorem tr42 : trF Tryd.prog heapT effT drawOk 42 = some _root_.Ch55.c42 := by kernel_rfl
set_option maxRecDepth 1000000 in
theorem tr43 : trF Tryd.prog heapT effT drawOk 43 = some _root_.Ch55.c43 := by kernel_rfl
set_option maxRecDepth 1000000 in
theorem tr44 : trF Tryd.prog heapT effT drawOk 44 = some _root_.Ch55.c44 := by kernel_rfl
set_option maxRecDepth 1000000 in
theorem tr45 : trF Tryd.prog heapT effT drawOk 45 = some _root_.Ch55.c45 := by kernel_rfl
set_option maxRecDepth 1000000 in
theorem tr46 : trF Tryd.prog heapT effT drawOk 46 = some _root_.Ch55.c46 := by kernel_rfl
set_option maxRecDepth 1000000 in
theorem tr47 : trF Tryd.prog heapT effT drawOk 47 = some _root_.Ch55.c47 := by kernel_rfl
set_option maxRecDepth 1000000 in
theorem tr48 : trF Tryd.prog heapT effT drawOk 48 = some _root_.Ch55.c48 := by kernel_rfl
set_option maxRecDepth 1000000 in
theorem tr49 : trF Tryd.prog heapT effT drawOk 49 = some _root_.Ch55.c49 := by kernel_rfl
set_option maxRecDepth 1000000 in
theorem tr50 : trF Tryd.prog heapT effT drawOk 50 = some _root_.Ch55.c50 := by kernel_rfl
set_option maxRecDepth 1000000 in
theorem tr51 : trF Tryd.prog heapT effT drawOk 51 = some _root_.Ch55.c51 := by kernel_rfl
set_option maxRecDepth 1000000 in
theorem tr52 : trF Tryd.prog heapT effT drawOk 52 = some _root_.Ch55.c52 := by kernel_rfl
set_option maxRecDepth 1000000 in
theorem tr53 : trF Tryd.prog heapT effT drawOk 53 = some _root_.Ch55.c53 := by kernel_rfl
set_option maxRecDepth 1000000 in
theorem tr54 : trF Tryd.prog heapT effT drawOk 54 = some _root_.Ch55.c54 := by kernel_rfl
set_option maxRecDepth 1000000 in
theorem tr55 : trF Tryd.prog heapT effT drawOk 55 = some _root_.Ch55.c55 := by kernel_rfl
set_option maxRecDepth 1000000 in
theorem tr63 : trF Tryd.prog heapT effT drawOk 63 = some _root_.Ch55.c63 := by kernel_rfl
set_option maxRecDepth 1000000 in
theorem tr64 : trF Tryd.prog heapT effT drawOk 64 = some _root_.Ch55.c64 := by kernel_rfl
set_option maxRecDepth 1000000 in
theorem tr65 : trF Tryd.prog heapT effT drawOk 65 = some _root_.Ch55.c65 := by kernel_rfl
set_option maxRecDepth 1000000 in
theorem tr66 : trF Tryd.prog heapT effT drawOk 66 = some _root_.Ch55.c66 := by kernel_rfl
set_option maxRecDepth 1000000 in
theorem tr72 : trF Tryd.prog heapT effT drawOk 72 = some _root_.Ch55.c72 := by kernel_rfl
set_option maxRecDepth 1000000 in
theorem tr73 : trF Tryd.prog heapT effT drawOk 73 = some _root_.Ch55.c73 := by kernel_rfl
set_option maxRecDepth 1000000 in
theorem tr76 : trF Tryd.prog heapT effT drawOk 76 = some _root_.Ch55.c76 := by kernel_rfl
set_option maxRecDepth 1000000 in
theorem tr77 : trF Tryd.prog heapT effT drawOk 77 = some _root_.Ch55.c77 := by kernel_rfl
theorem tr_all (f : FuncId) (vf : VF) (h : _root_.Ch55.T55 f = some vf) : trF Tryd.prog heapT effT drawOk f = some vf := by
  unfold _root_.Ch55.T55 at h
  split at h
  · rw [← h]; exact tr3
  · rw [← h]; exact tr4
  · rw [← h]; exact tr5
  · rw [← h]; exact tr6
  · rw [← h]; exact tr7
  · rw [← h]; exact tr8
  · rw [← h]; exact tr9
  · rw [← h]; exact tr10
  · rw [← h]; exact tr11
  · rw [← h]; exact tr12
  · rw [← h]; exact tr13
  · rw [← h]; exact tr14
  · rw [← h]; exact tr15
  · rw [← h]; exact tr16
  · rw [← h]; exact tr17
  · rw [← h]; exact tr18
  · rw [← h]; exact tr19
  · rw [← h]; exact tr20
  · rw [← h]; exact tr21
  · rw [← h]; exact tr22
  · rw [← h]; exact tr23
  · rw [← h]; exact tr24
  · rw [← h]; exact tr25
  · rw [← h]; exact tr26
  · rw [← h]; exact tr27
  · rw [← h]; exact tr28
  · rw [← h]; exact tr29
  · rw [← h]; exact tr30
  · rw [← h]; exact tr31
  · rw [← h]; exact tr32
  · rw [← h]; exact tr33
  · rw [← h]; exact tr34
  · rw [← h]; exact tr35
  · rw [← h]; exact tr36
  · rw [← h]; exact tr37
  · rw [← h]; exact tr38
  · rw [← h]; exact tr39
  · rw [← h]; exact tr40
  · rw [← h]; exact tr41
  · rw [← h]; exact tr42
  · rw [← h]; exact tr43
  · rw [← h]; exact tr44
  · rw [← h]; exact tr45
  · rw [← h]; exact tr46
  · rw [← h]; exact tr47
  · rw [← h]; exact tr48
  · rw [← h]; exact tr49
  · rw [← h]; exact tr50
  · rw [← h]; exact tr51
  · rw [← h]; exact tr52
  · rw [← h]; exact tr53
  · rw [← h]; exact tr54
  · rw [← h]; exact tr55
  · rw [← h]; exact tr63
  · rw [← h]; exact tr64
  · rw [← h]; exact tr65
  · rw [← h]; exact tr66
  · rw [← h]; exact tr72
  · rw [← h]; exact tr73
  · rw [← h]; exact tr76
  · rw [← h]; exact tr77
  · cases h
end Go.Proofs.YtgmhcmmdfejcmaaDoor
