/- Each literal is the translation of the given function. -/
import Derived.Test.YtmlfcgmiaapffaaGreatDoorProg
import Derived.Test.YtmlfcgmiaapffaaGreatDoorL11
import Derived.Test.YtmlfcgmiaapffaaGreatDoorVE
import Derived.KernelRfl
import Derived.Test.YtmlfcgmiaapffaaGreatDoorTr11a
namespace Go.Proofs.YtmlfcgmiaapffaaGreatDoor
open Go.Vm
set_option maxRecDepth 1000000 in
theorem tr71 : trF Tryz.prog heapT effT drawOk 71 = some _root_.Ch11.c71 := by kernel_rfl
set_option maxRecDepth 1000000 in
theorem tr75 : trF Tryz.prog heapT effT drawOk 75 = some _root_.Ch11.c75 := by kernel_rfl
set_option maxRecDepth 1000000 in
theorem tr76 : trF Tryz.prog heapT effT drawOk 76 = some _root_.Ch11.c76 := by kernel_rfl
set_option maxRecDepth 1000000 in
theorem tr77 : trF Tryz.prog heapT effT drawOk 77 = some _root_.Ch11.c77 := by kernel_rfl
set_option maxRecDepth 1000000 in
theorem tr78 : trF Tryz.prog heapT effT drawOk 78 = some _root_.Ch11.c78 := by kernel_rfl
set_option maxRecDepth 1000000 in
theorem tr79 : trF Tryz.prog heapT effT drawOk 79 = some _root_.Ch11.c79 := by kernel_rfl
set_option maxRecDepth 1000000 in
theorem tr80 : trF Tryz.prog heapT effT drawOk 80 = some _root_.Ch11.c80 := by kernel_rfl
set_option maxRecDepth 1000000 in
theorem tr81 : trF Tryz.prog heapT effT drawOk 81 = some _root_.Ch11.c81 := by kernel_rfl
set_option maxRecDepth 1000000 in
theorem tr82 : trF Tryz.prog heapT effT drawOk 82 = some _root_.Ch11.c82 := by kernel_rfl
set_option maxRecDepth 1000000 in
theorem tr83 : trF Tryz.prog heapT effT drawOk 83 = some _root_.Ch11.c83 := by kernel_rfl
set_option maxRecDepth 1000000 in
theorem tr84 : trF Tryz.prog heapT effT drawOk 84 = some _root_.Ch11.c84 := by kernel_rfl
set_option maxRecDepth 1000000 in
theorem tr85 : trF Tryz.prog heapT effT drawOk 85 = some _root_.Ch11.c85 := by kernel_rfl
set_option maxRecDepth 1000000 in
theorem tr86 : trF Tryz.prog heapT effT drawOk 86 = some _root_.Ch11.c86 := by kernel_rfl
set_option maxRecDepth 1000000 in
theorem tr87 : trF Tryz.prog heapT effT drawOk 87 = some _root_.Ch11.c87 := by kernel_rfl
set_option maxRecDepth 1000000 in
theorem tr88 : trF Tryz.prog heapT effT drawOk 88 = some _root_.Ch11.c88 := by kernel_rfl
set_option maxRecDepth 1000000 in
theorem tr89 : trF Tryz.prog heapT effT drawOk 89 = some _root_.Ch11.c89 := by kernel_rfl
set_option maxRecDepth 1000000 in
theorem tr90 : trF Tryz.prog heapT effT drawOk 90 = some _root_.Ch11.c90 := by kernel_rfl
set_option maxRecDepth 1000000 in
theorem tr91 : trF Tryz.prog heapT effT drawOk 91 = some _root_.Ch11.c91 := by kernel_rfl
set_option maxRecDepth 1000000 in
theorem tr92 : trF Tryz.prog heapT effT drawOk 92 = some _root_.Ch11.c92 := by kernel_rfl
set_option maxRecDepth 1000000 in
theorem tr93 : trF Tryz.prog heapT effT drawOk 93 = some _root_.Ch11.c93 := by kernel_rfl
set_option maxRecDepth 1000000 in
theorem tr94 : trF Tryz.prog heapT effT drawOk 94 = some _root_.Ch11.c94 := by kernel_rfl
set_option maxRecDepth 1000000 in
theorem tr95 : trF Tryz.prog heapT effT drawOk 95 = some _root_.Ch11.c95 := by kernel_rfl
set_option maxRecDepth 1000000 in
theorem tr96 : trF Tryz.prog heapT effT drawOk 96 = some _root_.Ch11.c96 := by kernel_rfl
set_option maxRecDepth 1000000 in
theorem tr98 : trF Tryz.prog heapT effT drawOk 98 = some _root_.Ch11.c98 := by kernel_rfl
set_option maxRecDepth 1000000 in
theorem tr99 : trF Tryz.prog heapT effT drawOk 99 = some _root_.Ch11.c99 := by kernel_rfl
set_option maxRecDepth 1000000 in
theorem tr100 : trF Tryz.prog heapT effT drawOk 100 = some _root_.Ch11.c100 := by kernel_rfl
set_option maxRecDepth 1000000 in
theorem tr101 : trF Tryz.prog heapT effT drawOk 101 = some _root_.Ch11.c101 := by kernel_rfl
set_option maxRecDepth 1000000 in
theorem tr102 : trF Tryz.prog heapT effT drawOk 102 = some _root_.Ch11.c102 := by kernel_rfl
set_option maxRecDepth 1000000 in
theorem tr103 : trF Tryz.prog heapT effT drawOk 103 = some _root_.Ch11.c103 := by kernel_rfl
set_option maxRecDepth 1000000 in
theorem tr104 : trF Tryz.prog heapT effT drawOk 104 = some _root_.Ch11.c104 := by kernel_rfl
set_option maxRecDepth 1000000 in
theorem tr106 : trF Tryz.prog heapT effT drawOk 106 = some _root_.Ch11.c106 := by kernel_rfl
set_option maxRecDepth 1000000 in
theorem tr107 : trF Tryz.prog heapT effT drawOk 107 = some _root_.Ch11.c107 := by kernel_rfl
set_option maxRecDepth 1000000 in
theorem tr108 : trF Tryz.prog heapT effT drawOk 108 = some _root_.Ch11.c108 := by kernel_rfl
set_option maxRecDepth 1000000 in
theorem tr109 : trF Tryz.prog heapT effT drawOk 109 = some _root_.Ch11.c109 := by kernel_rfl
set_option maxRecDepth 1000000 in
theorem tr110 : trF Tryz.prog heapT effT drawOk 110 = some _root_.Ch11.c110 := by kernel_rfl
set_option maxRecDepth 1000000 in
theorem tr111 : trF Tryz.prog heapT effT drawOk 111 = some _root_.Ch11.c111 := by kernel_rfl
set_option maxRecDepth 1000000 in
theorem tr112 : trF Tryz.prog heapT effT drawOk 112 = some _root_.Ch11.c112 := by kernel_rfl
set_option maxRecDepth 1000000 in
theorem tr113 : trF Tryz.prog heapT effT drawOk 113 = some _root_.Ch11.c113 := by kernel_rfl
set_option maxRecDepth 1000000 in
theorem tr114 : trF Tryz.prog heapT effT drawOk 114 = some _root_.Ch11.c114 := by kernel_rfl
set_option maxRecDepth 1000000 in
theorem tr116 : trF Tryz.prog heapT effT drawOk 116 = some _root_.Ch11.c116 := by kernel_rfl
set_option maxRecDepth 1000000 in
theorem tr117 : trF Tryz.prog heapT effT drawOk 117 = some _root_.Ch11.c117 := by kernel_rfl
set_option maxRecDepth 1000000 in
theorem tr127 : trF Tryz.prog heapT effT drawOk 127 = some _root_.Ch11.c127 := by kernel_rfl
set_option maxRecDepth 1000000 in
theorem tr128 : trF Tryz.prog heapT effT drawOk 128 = some _root_.Ch11.c128 := by kernel_rfl
set_option maxRecDepth 1000000 in
theorem tr129 : trF Tryz.prog heapT effT drawOk 129 = some _root_.Ch11.c129 := by kernel_rfl
set_option maxRecDepth 1000000 in
theorem tr130 : trF Tryz.prog heapT effT drawOk 130 = some _root_.Ch11.c130 := by kernel_rfl
set_option maxRecDepth 1000000 in
theorem tr131 : trF Tryz.prog heapT effT drawOk 131 = some _root_.Ch11.c131 := by kernel_rfl
set_option maxRecDepth 1000000 in
theorem tr133 : trF Tryz.prog heapT effT drawOk 133 = some _root_.Ch11.c133 := by kernel_rfl
set_option maxRecDepth 1000000 in
theorem tr145 : trF Tryz.prog heapT effT drawOk 145 = some _root_.Ch11.c145 := by kernel_rfl
set_option maxRecDepth 1000000 in
theorem tr149 : trF Tryz.prog heapT effT drawOk 149 = some _root_.Ch11.c149 := by kernel_rfl
set_option maxRecDepth 1000000 in
theorem tr151 : trF Tryz.prog heapT effT drawOk 151 = some _root_.Ch11.c151 := by kernel_rfl
set_option maxRecDepth 1000000 in
theorem tr152 : trF Tryz.prog heapT effT drawOk 152 = some _root_.Ch11.c152 := by kernel_rfl
theorem tr_all (f : FuncId) (vf : VF) (h : _root_.Ch11.T11 f = some vf) : trF Tryz.prog heapT effT drawOk f = some vf := by
  unfold _root_.Ch11.T11 at h
  split at h
  · rw [← h]; exact tr3
  · rw [← h]; exact tr11
  · rw [← h]; exact tr12
  · rw [← h]; exact tr13
  · rw [← h]; exact tr14
  · rw [← h]; exact tr15
  · rw [← h]; exact tr16
  · rw [← h]; exact tr17
  · rw [← h]; exact tr18
  · rw [← h]; exact tr19
  · rw [← h]; exact tr20
  · rw [← h]; exact tr21
  · rw [← h]; exact tr22
  · rw [← h]; exact tr24
  · rw [← h]; exact tr26
  · rw [← h]; exact tr28
  · rw [← h]; exact tr29
  · rw [← h]; exact tr32
  · rw [← h]; exact tr35
  · rw [← h]; exact tr37
  · rw [← h]; exact tr38
  · rw [← h]; exact tr39
  · rw [← h]; exact tr40
  · rw [← h]; exact tr41
  · rw [← h]; exact tr42
  · rw [← h]; exact tr43
  · rw [← h]; exact tr44
  · rw [← h]; exact tr45
  · rw [← h]; exact tr46
  · rw [← h]; exact tr47
  · rw [← h]; exact tr49
  · rw [← h]; exact tr50
  · rw [← h]; exact tr52
  · rw [← h]; exact tr53
  · rw [← h]; exact tr54
  · rw [← h]; exact tr55
  · rw [← h]; exact tr56
  · rw [← h]; exact tr57
  · rw [← h]; exact tr58
  · rw [← h]; exact tr59
  · rw [← h]; exact tr60
  · rw [← h]; exact tr61
  · rw [← h]; exact tr62
  · rw [← h]; exact tr63
  · rw [← h]; exact tr64
  · rw [← h]; exact tr65
  · rw [← h]; exact tr66
  · rw [← h]; exact tr67
  · rw [← h]; exact tr68
  · rw [← h]; exact tr69
  · rw [← h]; exact tr70
  · rw [← h]; exact tr71
  · rw [← h]; exact tr75
  · rw [← h]; exact tr76
  · rw [← h]; exact tr77
  · rw [← h]; exact tr78
  · rw [← h]; exact tr79
  · rw [← h]; exact tr80
  · rw [← h]; exact tr81
  · rw [← h]; exact tr82
  · rw [← h]; exact tr83
  · rw [← h]; exact tr84
  · rw [← h]; exact tr85
  · rw [← h]; exact tr86
  · rw [← h]; exact tr87
  · rw [← h]; exact tr88
  · rw [← h]; exact tr89
  · rw [← h]; exact tr90
  · rw [← h]; exact tr91
  · rw [← h]; exact tr92
  · rw [← h]; exact tr93
  · rw [← h]; exact tr94
  · rw [← h]; exact tr95
  · rw [← h]; exact tr96
  · rw [← h]; exact tr98
  · rw [← h]; exact tr99
  · rw [← h]; exact tr100
  · rw [← h]; exact tr101
  · rw [← h]; exact tr102
  · rw [← h]; exact tr103
  · rw [← h]; exact tr104
  · rw [← h]; exact tr106
  · rw [← h]; exact tr107
  · rw [← h]; exact tr108
  · rw [← h]; exact tr109
  · rw [← h]; exact tr110
  · rw [← h]; exact tr111
  · rw [← h]; exact tr112
  · rw [← h]; exact tr113
  · rw [← h]; exact tr114
  · rw [← h]; exact tr116
  · rw [← h]; exact tr117
  · rw [← h]; exact tr127
  · rw [← h]; exact tr128
  · rw [← h]; exact tr129
  · rw [← h]; exact tr130
  · rw [← h]; exact tr131
  · rw [← h]; exact tr133
  · rw [← h]; exact tr145
  · rw [← h]; exact tr149
  · rw [← h]; exact tr151
  · rw [← h]; exact tr152
  · cases h
end Go.Proofs.YtmlfcgmiaapffaaGreatDoor
