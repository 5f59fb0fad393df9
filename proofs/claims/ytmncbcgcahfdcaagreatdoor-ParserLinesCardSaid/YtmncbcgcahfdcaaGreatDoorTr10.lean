/- Each literal is the translation of the given function. -/
import Derived.Test.YtmncbcgcahfdcaaGreatDoorProg
import Derived.Test.YtmncbcgcahfdcaaGreatDoorL10
import Derived.Test.YtmncbcgcahfdcaaGreatDoorVE
import Derived.KernelRfl
import Derived.Test.YtmncbcgcahfdcaaGreatDoorTr10a
namespace Go.Proofs.YtmncbcgcahfdcaaGreatDoor
open Go.Vm
set_option maxRecDepth 1000000 in
theorem tr59 : trF Tryz.prog heapT effT drawOk 59 = some _root_.Ch10.c59 := by kernel_rfl
set_option maxRecDepth 1000000 in
theorem tr60 : trF Tryz.prog heapT effT drawOk 60 = some _root_.Ch10.c60 := by kernel_rfl
set_option maxRecDepth 1000000 in
theorem tr63 : trF Tryz.prog heapT effT drawOk 63 = some _root_.Ch10.c63 := by kernel_rfl
set_option maxRecDepth 1000000 in
theorem tr64 : trF Tryz.prog heapT effT drawOk 64 = some _root_.Ch10.c64 := by kernel_rfl
set_option maxRecDepth 1000000 in
theorem tr65 : trF Tryz.prog heapT effT drawOk 65 = some _root_.Ch10.c65 := by kernel_rfl
set_option maxRecDepth 1000000 in
theorem tr66 : trF Tryz.prog heapT effT drawOk 66 = some _root_.Ch10.c66 := by kernel_rfl
set_option maxRecDepth 1000000 in
theorem tr67 : trF Tryz.prog heapT effT drawOk 67 = some _root_.Ch10.c67 := by kernel_rfl
set_option maxRecDepth 1000000 in
theorem tr68 : trF Tryz.prog heapT effT drawOk 68 = some _root_.Ch10.c68 := by kernel_rfl
set_option maxRecDepth 1000000 in
theorem tr69 : trF Tryz.prog heapT effT drawOk 69 = some _root_.Ch10.c69 := by kernel_rfl
set_option maxRecDepth 1000000 in
theorem tr70 : trF Tryz.prog heapT effT drawOk 70 = some _root_.Ch10.c70 := by kernel_rfl
set_option maxRecDepth 1000000 in
theorem tr71 : trF Tryz.prog heapT effT drawOk 71 = some _root_.Ch10.c71 := by kernel_rfl
set_option maxRecDepth 1000000 in
theorem tr72 : trF Tryz.prog heapT effT drawOk 72 = some _root_.Ch10.c72 := by kernel_rfl
set_option maxRecDepth 1000000 in
theorem tr74 : trF Tryz.prog heapT effT drawOk 74 = some _root_.Ch10.c74 := by kernel_rfl
set_option maxRecDepth 1000000 in
theorem tr75 : trF Tryz.prog heapT effT drawOk 75 = some _root_.Ch10.c75 := by kernel_rfl
set_option maxRecDepth 1000000 in
theorem tr76 : trF Tryz.prog heapT effT drawOk 76 = some _root_.Ch10.c76 := by kernel_rfl
set_option maxRecDepth 1000000 in
theorem tr77 : trF Tryz.prog heapT effT drawOk 77 = some _root_.Ch10.c77 := by kernel_rfl
set_option maxRecDepth 1000000 in
theorem tr79 : trF Tryz.prog heapT effT drawOk 79 = some _root_.Ch10.c79 := by kernel_rfl
set_option maxRecDepth 1000000 in
theorem tr80 : trF Tryz.prog heapT effT drawOk 80 = some _root_.Ch10.c80 := by kernel_rfl
set_option maxRecDepth 1000000 in
theorem tr81 : trF Tryz.prog heapT effT drawOk 81 = some _root_.Ch10.c81 := by kernel_rfl
set_option maxRecDepth 1000000 in
theorem tr82 : trF Tryz.prog heapT effT drawOk 82 = some _root_.Ch10.c82 := by kernel_rfl
set_option maxRecDepth 1000000 in
theorem tr84 : trF Tryz.prog heapT effT drawOk 84 = some _root_.Ch10.c84 := by kernel_rfl
set_option maxRecDepth 1000000 in
theorem tr85 : trF Tryz.prog heapT effT drawOk 85 = some _root_.Ch10.c85 := by kernel_rfl
set_option maxRecDepth 1000000 in
theorem tr86 : trF Tryz.prog heapT effT drawOk 86 = some _root_.Ch10.c86 := by kernel_rfl
set_option maxRecDepth 1000000 in
theorem tr87 : trF Tryz.prog heapT effT drawOk 87 = some _root_.Ch10.c87 := by kernel_rfl
set_option maxRecDepth 1000000 in
theorem tr88 : trF Tryz.prog heapT effT drawOk 88 = some _root_.Ch10.c88 := by kernel_rfl
set_option maxRecDepth 1000000 in
theorem tr89 : trF Tryz.prog heapT effT drawOk 89 = some _root_.Ch10.c89 := by kernel_rfl
set_option maxRecDepth 1000000 in
theorem tr90 : trF Tryz.prog heapT effT drawOk 90 = some _root_.Ch10.c90 := by kernel_rfl
set_option maxRecDepth 1000000 in
theorem tr91 : trF Tryz.prog heapT effT drawOk 91 = some _root_.Ch10.c91 := by kernel_rfl
set_option maxRecDepth 1000000 in
theorem tr92 : trF Tryz.prog heapT effT drawOk 92 = some _root_.Ch10.c92 := by kernel_rfl
set_option maxRecDepth 1000000 in
theorem tr93 : trF Tryz.prog heapT effT drawOk 93 = some _root_.Ch10.c93 := by kernel_rfl
set_option maxRecDepth 1000000 in
theorem tr94 : trF Tryz.prog heapT effT drawOk 94 = some _root_.Ch10.c94 := by kernel_rfl
set_option maxRecDepth 1000000 in
theorem tr97 : trF Tryz.prog heapT effT drawOk 97 = some _root_.Ch10.c97 := by kernel_rfl
set_option maxRecDepth 1000000 in
theorem tr98 : trF Tryz.prog heapT effT drawOk 98 = some _root_.Ch10.c98 := by kernel_rfl
set_option maxRecDepth 1000000 in
theorem tr100 : trF Tryz.prog heapT effT drawOk 100 = some _root_.Ch10.c100 := by kernel_rfl
set_option maxRecDepth 1000000 in
theorem tr102 : trF Tryz.prog heapT effT drawOk 102 = some _root_.Ch10.c102 := by kernel_rfl
set_option maxRecDepth 1000000 in
theorem tr103 : trF Tryz.prog heapT effT drawOk 103 = some _root_.Ch10.c103 := by kernel_rfl
set_option maxRecDepth 1000000 in
theorem tr104 : trF Tryz.prog heapT effT drawOk 104 = some _root_.Ch10.c104 := by kernel_rfl
set_option maxRecDepth 1000000 in
theorem tr105 : trF Tryz.prog heapT effT drawOk 105 = some _root_.Ch10.c105 := by kernel_rfl
set_option maxRecDepth 1000000 in
theorem tr111 : trF Tryz.prog heapT effT drawOk 111 = some _root_.Ch10.c111 := by kernel_rfl
set_option maxRecDepth 1000000 in
theorem tr113 : trF Tryz.prog heapT effT drawOk 113 = some _root_.Ch10.c113 := by kernel_rfl
set_option maxRecDepth 1000000 in
theorem tr114 : trF Tryz.prog heapT effT drawOk 114 = some _root_.Ch10.c114 := by kernel_rfl
theorem tr_all (f : FuncId) (vf : VF) (h : _root_.Ch10.T10 f = some vf) : trF Tryz.prog heapT effT drawOk f = some vf := by
  unfold _root_.Ch10.T10 at h
  split at h
  · rw [← h]; exact tr5
  · rw [← h]; exact tr6
  · rw [← h]; exact tr9
  · rw [← h]; exact tr10
  · rw [← h]; exact tr12
  · rw [← h]; exact tr13
  · rw [← h]; exact tr14
  · rw [← h]; exact tr16
  · rw [← h]; exact tr18
  · rw [← h]; exact tr20
  · rw [← h]; exact tr21
  · rw [← h]; exact tr22
  · rw [← h]; exact tr23
  · rw [← h]; exact tr24
  · rw [← h]; exact tr27
  · rw [← h]; exact tr28
  · rw [← h]; exact tr29
  · rw [← h]; exact tr30
  · rw [← h]; exact tr31
  · rw [← h]; exact tr32
  · rw [← h]; exact tr34
  · rw [← h]; exact tr35
  · rw [← h]; exact tr36
  · rw [← h]; exact tr37
  · rw [← h]; exact tr39
  · rw [← h]; exact tr40
  · rw [← h]; exact tr41
  · rw [← h]; exact tr42
  · rw [← h]; exact tr43
  · rw [← h]; exact tr44
  · rw [← h]; exact tr45
  · rw [← h]; exact tr46
  · rw [← h]; exact tr47
  · rw [← h]; exact tr48
  · rw [← h]; exact tr49
  · rw [← h]; exact tr50
  · rw [← h]; exact tr51
  · rw [← h]; exact tr54
  · rw [← h]; exact tr55
  · rw [← h]; exact tr56
  · rw [← h]; exact tr57
  · rw [← h]; exact tr58
  · rw [← h]; exact tr59
  · rw [← h]; exact tr60
  · rw [← h]; exact tr63
  · rw [← h]; exact tr64
  · rw [← h]; exact tr65
  · rw [← h]; exact tr66
  · rw [← h]; exact tr67
  · rw [← h]; exact tr68
  · rw [← h]; exact tr69
  · rw [← h]; exact tr70
  · rw [← h]; exact tr71
  · rw [← h]; exact tr72
  · rw [← h]; exact tr74
  · rw [← h]; exact tr75
  · rw [← h]; exact tr76
  · rw [← h]; exact tr77
  · rw [← h]; exact tr79
  · rw [← h]; exact tr80
  · rw [← h]; exact tr81
  · rw [← h]; exact tr82
  · rw [← h]; exact tr84
  · rw [← h]; exact tr85
  · rw [← h]; exact tr86
  · rw [← h]; exact tr87
  · rw [← h]; exact tr88
  · rw [← h]; exact tr89
  · rw [← h]; exact tr90
  · rw [← h]; exact tr91
  · rw [← h]; exact tr92
  · rw [← h]; exact tr93
  · rw [← h]; exact tr94
  · rw [← h]; exact tr97
  · rw [← h]; exact tr98
  · rw [← h]; exact tr100
  · rw [← h]; exact tr102
  · rw [← h]; exact tr103
  · rw [← h]; exact tr104
  · rw [← h]; exact tr105
  · rw [← h]; exact tr111
  · rw [← h]; exact tr113
  · rw [← h]; exact tr114
  · cases h
end Go.Proofs.YtmncbcgcahfdcaaGreatDoor
