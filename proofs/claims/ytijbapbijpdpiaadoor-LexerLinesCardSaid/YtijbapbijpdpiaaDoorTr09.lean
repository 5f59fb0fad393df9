/- Each literal is the translation of the given function. -/
import Derived.Test.YtijbapbijpdpiaaDoorProg
import Derived.Test.YtijbapbijpdpiaaDoorL09
import Derived.Test.YtijbapbijpdpiaaDoorVE
import Derived.KernelRfl
import Derived.Test.YtijbapbijpdpiaaDoorTr09a
namespace Go.Proofs.YtijbapbijpdpiaaDoor
open Go.Vm
set_option maxRecDepth 1000000 in
theorem tr29 : trF Tryd.prog heapT effT drawOk 29 = some _root_.Ch09.c29 := by kernel_rfl
set_option maxRecDepth 1000000 in
theorem tr30 : trF Tryd.prog heapT effT drawOk 30 = some _root_.Ch09.c30 := by kernel_rfl
set_option maxRecDepth 1000000 in
theorem tr31 : trF Tryd.prog heapT effT drawOk 31 = some _root_.Ch09.c31 := by kernel_rfl
set_option maxRecDepth 1000000 in
theorem tr32 : trF Tryd.prog heapT effT drawOk 32 = some _root_.Ch09.c32 := by kernel_rfl
set_option maxRecDepth 1000000 in
theorem tr33 : trF Tryd.prog heapT effT drawOk 33 = some _root_.Ch09.c33 := by kernel_rfl
set_option maxRecDepth 1000000 in
theorem tr34 : trF Tryd.prog heapT effT drawOk 34 = some _root_.Ch09.c34 := by kernel_rfl
set_option maxRecDepth 1000000 in
theorem tr35 : trF Tryd.prog heapT effT drawOk 35 = some _root_.Ch09.c35 := by kernel_rfl
set_option maxRecDepth 1000000 in
theorem tr36 : trF Tryd.prog heapT effT drawOk 36 = some _root_.Ch09.c36 := by kernel_rfl
set_option maxRecDepth 1000000 in
theorem tr37 : trF Tryd.prog heapT effT drawOk 37 = some _root_.Ch09.c37 := by kernel_rfl
set_option maxRecDepth 1000000 in
theorem tr38 : trF Tryd.prog heapT effT drawOk 38 = some _root_.Ch09.c38 := by kernel_rfl
set_option maxRecDepth 1000000 in
theorem tr39 : trF Tryd.prog heapT effT drawOk 39 = some _root_.Ch09.c39 := by kernel_rfl
set_option maxRecDepth 1000000 in
theorem tr40 : trF Tryd.prog heapT effT drawOk 40 = some _root_.Ch09.c40 := by kernel_rfl
set_option maxRecDepth 1000000 in
theorem tr41 : trF Tryd.prog heapT effT drawOk 41 = some _root_.Ch09.c41 := by kernel_rfl
set_option maxRecDepth 1000000 in
theorem tr42 : trF Tryd.prog heapT effT drawOk 42 = some _root_.Ch09.c42 := by kernel_rfl
set_option maxRecDepth 1000000 in
theorem tr43 : trF Tryd.prog heapT effT drawOk 43 = some _root_.Ch09.c43 := by kernel_rfl
set_option maxRecDepth 1000000 in
theorem tr45 : trF Tryd.prog heapT effT drawOk 45 = some _root_.Ch09.c45 := by kernel_rfl
set_option maxRecDepth 1000000 in
theorem tr46 : trF Tryd.prog heapT effT drawOk 46 = some _root_.Ch09.c46 := by kernel_rfl
set_option maxRecDepth 1000000 in
theorem tr47 : trF Tryd.prog heapT effT drawOk 47 = some _root_.Ch09.c47 := by kernel_rfl
set_option maxRecDepth 1000000 in
theorem tr48 : trF Tryd.prog heapT effT drawOk 48 = some _root_.Ch09.c48 := by kernel_rfl
set_option maxRecDepth 1000000 in
theorem tr49 : trF Tryd.prog heapT effT drawOk 49 = some _root_.Ch09.c49 := by kernel_rfl
set_option maxRecDepth 1000000 in
theorem tr57 : trF Tryd.prog heapT effT drawOk 57 = some _root_.Ch09.c57 := by kernel_rfl
set_option maxRecDepth 1000000 in
theorem tr58 : trF Tryd.prog heapT effT drawOk 58 = some _root_.Ch09.c58 := by kernel_rfl
set_option maxRecDepth 1000000 in
theorem tr59 : trF Tryd.prog heapT effT drawOk 59 = some _root_.Ch09.c59 := by kernel_rfl
set_option maxRecDepth 1000000 in
theorem tr61 : trF Tryd.prog heapT effT drawOk 61 = some _root_.Ch09.c61 := by kernel_rfl
set_option maxRecDepth 1000000 in
theorem tr63 : trF Tryd.prog heapT effT drawOk 63 = some _root_.Ch09.c63 := by kernel_rfl
set_option maxRecDepth 1000000 in
theorem tr79 : trF Tryd.prog heapT effT drawOk 79 = some _root_.Ch09.c79 := by kernel_rfl
theorem tr_all (f : FuncId) (vf : VF) (h : _root_.Ch09.T09 f = some vf) : trF Tryd.prog heapT effT drawOk f = some vf := by
  unfold _root_.Ch09.T09 at h
  split at h
  · rw [← h]; exact tr3
  · rw [← h]; exact tr4
  · rw [← h]; exact tr5
  · rw [← h]; exact tr6
  · rw [← h]; exact tr7
  · rw [← h]; exact tr8
  · rw [← h]; exact tr9
  · rw [← h]; exact tr10
  · rw [← h]; exact tr11
  · rw [← h]; exact tr12
  · rw [← h]; exact tr13
  · rw [← h]; exact tr14
  · rw [← h]; exact tr15
  · rw [← h]; exact tr16
  · rw [← h]; exact tr17
  · rw [← h]; exact tr18
  · rw [← h]; exact tr19
  · rw [← h]; exact tr20
  · rw [← h]; exact tr21
  · rw [← h]; exact tr22
  · rw [← h]; exact tr23
  · rw [← h]; exact tr24
  · rw [← h]; exact tr25
  · rw [← h]; exact tr26
  · rw [← h]; exact tr27
  · rw [← h]; exact tr28
  · rw [← h]; exact tr29
  · rw [← h]; exact tr30
  · rw [← h]; exact tr31
  · rw [← h]; exact tr32
  · rw [← h]; exact tr33
  · rw [← h]; exact tr34
  · rw [← h]; exact tr35
  · rw [← h]; exact tr36
  · rw [← h]; exact tr37
  · rw [← h]; exact tr38
  · rw [← h]; exact tr39
  · rw [← h]; exact tr40
  · rw [← h]; exact tr41
  · rw [← h]; exact tr42
  · rw [← h]; exact tr43
  · rw [← h]; exact tr45
  · rw [← h]; exact tr46
  · rw [← h]; exact tr47
  · rw [← h]; exact tr48
  · rw [← h]; exact tr49
  · rw [← h]; exact tr57
  · rw [← h]; exact tr58
  · rw [← h]; exact tr59
  · rw [← h]; exact tr61
  · rw [← h]; exact tr63
  · rw [← h]; exact tr79
  · cases h
end Go.Proofs.YtijbapbijpdpiaaDoor
