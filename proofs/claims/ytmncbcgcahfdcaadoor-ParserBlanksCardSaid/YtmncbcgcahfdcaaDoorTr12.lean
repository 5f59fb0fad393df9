/- Each literal is the translation of the given function. -/
import Derived.Test.YtmncbcgcahfdcaaDoorProg
import Derived.Test.YtmncbcgcahfdcaaDoorL12
import Derived.Test.YtmncbcgcahfdcaaDoorVE
import Derived.KernelRfl
import Derived.Test.YtmncbcgcahfdcaaDoorTr12a
namespace Go.Proofs.YtmncbcgcahfdcaaDoor
open Go.Vm
set_option maxRecDepth 1000000 in
theorem tr50 : trF Tryd.prog heapT effT drawOk 50 = some _root_.Ch12.c50 := by kernel_rfl
set_option maxRecDepth 1000000 in
theorem tr51 : trF Tryd.prog heapT effT drawOk 51 = some _root_.Ch12.c51 := by kernel_rfl
set_option maxRecDepth 1000000 in
theorem tr52 : trF Tryd.prog heapT effT drawOk 52 = some _root_.Ch12.c52 := by kernel_rfl
set_option maxRecDepth 1000000 in
theorem tr53 : trF Tryd.prog heapT effT drawOk 53 = some _root_.Ch12.c53 := by kernel_rfl
set_option maxRecDepth 1000000 in
theorem tr54 : trF Tryd.prog heapT effT drawOk 54 = some _root_.Ch12.c54 := by kernel_rfl
set_option maxRecDepth 1000000 in
theorem tr55 : trF Tryd.prog heapT effT drawOk 55 = some _root_.Ch12.c55 := by kernel_rfl
set_option maxRecDepth 1000000 in
theorem tr56 : trF Tryd.prog heapT effT drawOk 56 = some _root_.Ch12.c56 := by kernel_rfl
set_option maxRecDepth 1000000 in
theorem tr57 : trF Tryd.prog heapT effT drawOk 57 = some _root_.Ch12.c57 := by kernel_rfl
set_option maxRecDepth 1000000 in
theorem tr58 : trF Tryd.prog heapT effT drawOk 58 = some _root_.Ch12.c58 := by kernel_rfl
set_option maxRecDepth 1000000 in
theorem tr59 : trF Tryd.prog heapT effT drawOk 59 = some _root_.Ch12.c59 := by kernel_rfl
set_option maxRecDepth 1000000 in
theorem tr60 : trF Tryd.prog heapT effT drawOk 60 = some _root_.Ch12.c60 := by kernel_rfl
set_option maxRecDepth 1000000 in
theorem tr62 : trF Tryd.prog heapT effT drawOk 62 = some _root_.Ch12.c62 := by kernel_rfl
set_option maxRecDepth 1000000 in
theorem tr63 : trF Tryd.prog heapT effT drawOk 63 = some _root_.Ch12.c63 := by kernel_rfl
set_option maxRecDepth 1000000 in
theorem tr64 : trF Tryd.prog heapT effT drawOk 64 = some _root_.Ch12.c64 := by kernel_rfl
set_option maxRecDepth 1000000 in
theorem tr65 : trF Tryd.prog heapT effT drawOk 65 = some _root_.Ch12.c65 := by kernel_rfl
set_option maxRecDepth 1000000 in
theorem tr66 : trF Tryd.prog heapT effT drawOk 66 = some _root_.Ch12.c66 := by kernel_rfl
set_option maxRecDepth 1000000 in
theorem tr67 : trF Tryd.prog heapT effT drawOk 67 = some _root_.Ch12.c67 := by kernel_rfl
set_option maxRecDepth 1000000 in
theorem tr69 : trF Tryd.prog heapT effT drawOk 69 = some _root_.Ch12.c69 := by kernel_rfl
set_option maxRecDepth 1000000 in
theorem tr70 : trF Tryd.prog heapT effT drawOk 70 = some _root_.Ch12.c70 := by kernel_rfl
set_option maxRecDepth 1000000 in
theorem tr71 : trF Tryd.prog heapT effT drawOk 71 = some _root_.Ch12.c71 := by kernel_rfl
set_option maxRecDepth 1000000 in
theorem tr72 : trF Tryd.prog heapT effT drawOk 72 = some _root_.Ch12.c72 := by kernel_rfl
set_option maxRecDepth 1000000 in
theorem tr73 : trF Tryd.prog heapT effT drawOk 73 = some _root_.Ch12.c73 := by kernel_rfl
set_option maxRecDepth 1000000 in
theorem tr75 : trF Tryd.prog heapT effT drawOk 75 = some _root_.Ch12.c75 := by kernel_rfl
set_option maxRecDepth 1000000 in
theorem tr76 : trF Tryd.prog heapT effT drawOk 76 = some _root_.Ch12.c76 := by kernel_rfl
set_option maxRecDepth 1000000 in
theorem tr77 : trF Tryd.prog heapT effT drawOk 77 = some _root_.Ch12.c77 := by kernel_rfl
set_option maxRecDepth 1000000 in
theorem tr78 : trF Tryd.prog heapT effT drawOk 78 = some _root_.Ch12.c78 := by kernel_rfl
set_option maxRecDepth 1000000 in
theorem tr79 : trF Tryd.prog heapT effT drawOk 79 = some _root_.Ch12.c79 := by kernel_rfl
set_option maxRecDepth 1000000 in
theorem tr80 : trF Tryd.prog heapT effT drawOk 80 = some _root_.Ch12.c80 := by kernel_rfl
set_option maxRecDepth 1000000 in
theorem tr81 : trF Tryd.prog heapT effT drawOk 81 = some _root_.Ch12.c81 := by kernel_rfl
set_option maxRecDepth 1000000 in
theorem tr82 : trF Tryd.prog heapT effT drawOk 82 = some _root_.Ch12.c82 := by kernel_rfl
set_option maxRecDepth 1000000 in
theorem tr83 : trF Tryd.prog heapT effT drawOk 83 = some _root_.Ch12.c83 := by kernel_rfl
set_option maxRecDepth 1000000 in
theorem tr84 : trF Tryd.prog heapT effT drawOk 84 = some _root_.Ch12.c84 := by kernel_rfl
set_option maxRecDepth 1000000 in
theorem tr85 : trF Tryd.prog heapT effT drawOk 85 = some _root_.Ch12.c85 := by kernel_rfl
set_option maxRecDepth 1000000 in
theorem tr86 : trF Tryd.prog heapT effT drawOk 86 = some _root_.Ch12.c86 := by kernel_rfl
set_option maxRecDepth 1000000 in
theorem tr87 : trF Tryd.prog heapT effT drawOk 87 = some _root_.Ch12.c87 := by kernel_rfl
set_option maxRecDepth 1000000 in
theorem tr88 : trF Tryd.prog heapT effT drawOk 88 = some _root_.Ch12.c88 := by kernel_rfl
set_option maxRecDepth 1000000 in
theorem tr89 : trF Tryd.prog heapT effT drawOk 89 = some _root_.Ch12.c89 := by kernel_rfl
set_option maxRecDepth 1000000 in
theorem tr90 : trF Tryd.prog heapT effT drawOk 90 = some _root_.Ch12.c90 := by kernel_rfl
set_option maxRecDepth 1000000 in
theorem tr95 : trF Tryd.prog heapT effT drawOk 95 = some _root_.Ch12.c95 := by kernel_rfl
set_option maxRecDepth 1000000 in
theorem tr96 : trF Tryd.prog heapT effT drawOk 96 = some _root_.Ch12.c96 := by kernel_rfl
set_option maxRecDepth 1000000 in
theorem tr97 : trF Tryd.prog heapT effT drawOk 97 = some _root_.Ch12.c97 := by kernel_rfl
set_option maxRecDepth 1000000 in
theorem tr98 : trF Tryd.prog heapT effT drawOk 98 = some _root_.Ch12.c98 := by kernel_rfl
set_option maxRecDepth 1000000 in
theorem tr99 : trF Tryd.prog heapT effT drawOk 99 = some _root_.Ch12.c99 := by kernel_rfl
set_option maxRecDepth 1000000 in
theorem tr128 : trF Tryd.prog heapT effT drawOk 128 = some _root_.Ch12.c128 := by kernel_rfl
set_option maxRecDepth 1000000 in
theorem tr92 : trF Tryd.prog heapT effT drawOk 92 = some _root_.Ch12.c92 := by kernel_rfl
set_option maxRecDepth 1000000 in
theorem tr93 : trF Tryd.prog heapT effT drawOk 93 = some _root_.Ch12.c93 := by kernel_rfl
set_option maxRecDepth 1000000 in
theorem tr94 : trF Tryd.prog heapT effT drawOk 94 = some _root_.Ch12.c94 := by kernel_rfl
theorem tr_all (f : FuncId) (vf : VF) (h : _root_.Ch12.T12 f = some vf) : trF Tryd.prog heapT effT drawOk f = some vf := by
  unfold _root_.Ch12.T12 at h
  split at h
  · rw [← h]; exact tr3
  · rw [← h]; exact tr4
  · rw [← h]; exact tr5
  · rw [← h]; exact tr6
  · rw [← h]; exact tr7
  · rw [← h]; exact tr8
  · rw [← h]; exact tr9
  · rw [← h]; exact tr10
  · rw [← h]; exact tr11
  · rw [← h]; exact tr12
  · rw [← h]; exact tr13
  · rw [← h]; exact tr14
  · rw [← h]; exact tr15
  · rw [← h]; exact tr16
  · rw [← h]; exact tr17
  · rw [← h]; exact tr18
  · rw [← h]; exact tr19
  · rw [← h]; exact tr20
  · rw [← h]; exact tr21
  · rw [← h]; exact tr22
  · rw [← h]; exact tr23
  · rw [← h]; exact tr24
  · rw [← h]; exact tr25
  · rw [← h]; exact tr26
  · rw [← h]; exact tr27
  · rw [← h]; exact tr28
  · rw [← h]; exact tr29
  · rw [← h]; exact tr30
  · rw [← h]; exact tr31
  · rw [← h]; exact tr32
  · rw [← h]; exact tr33
  · rw [← h]; exact tr34
  · rw [← h]; exact tr35
  · rw [← h]; exact tr36
  · rw [← h]; exact tr37
  · rw [← h]; exact tr38
  · rw [← h]; exact tr39
  · rw [← h]; exact tr40
  · rw [← h]; exact tr41
  · rw [← h]; exact tr42
  · rw [← h]; exact tr43
  · rw [← h]; exact tr44
  · rw [← h]; exact tr45
  · rw [← h]; exact tr46
  · rw [← h]; exact tr47
  · rw [← h]; exact tr48
  · rw [← h]; exact tr49
  · rw [← h]; exact tr50
  · rw [← h]; exact tr51
  · rw [← h]; exact tr52
  · rw [← h]; exact tr53
  · rw [← h]; exact tr54
  · rw [← h]; exact tr55
  · rw [← h]; exact tr56
  · rw [← h]; exact tr57
  · rw [← h]; exact tr58
  · rw [← h]; exact tr59
  · rw [← h]; exact tr60
  · rw [← h]; exact tr62
  · rw [← h]; exact tr63
  · rw [← h]; exact tr64
  · rw [← h]; exact tr65
  · rw [← h]; exact tr66
  · rw [← h]; exact tr67
  · rw [← h]; exact tr69
  · rw [← h]; exact tr70
  · rw [← h]; exact tr71
  · rw [← h]; exact tr72
  · rw [← h]; exact tr73
  · rw [← h]; exact tr75
  · rw [← h]; exact tr76
  · rw [← h]; exact tr77
  · rw [← h]; exact tr78
  · rw [← h]; exact tr79
  · rw [← h]; exact tr80
  · rw [← h]; exact tr81
  · rw [← h]; exact tr82
  · rw [← h]; exact tr83
  · rw [← h]; exact tr84
  · rw [← h]; exact tr85
  · rw [← h]; exact tr86
  · rw [← h]; exact tr87
  · rw [← h]; exact tr88
  · rw [← h]; exact tr89
  · rw [← h]; exact tr90
  · rw [← h]; exact tr95
  · rw [← h]; exact tr96
  · rw [← h]; exact tr97
  · rw [← h]; exact tr98
  · rw [← h]; exact tr99
  · rw [← h]; exact tr128
  · rw [← h]; exact tr92
  · rw [← h]; exact tr93
  · rw [← h]; exact tr94
  · cases h
end Go.Proofs.YtmncbcgcahfdcaaDoor
