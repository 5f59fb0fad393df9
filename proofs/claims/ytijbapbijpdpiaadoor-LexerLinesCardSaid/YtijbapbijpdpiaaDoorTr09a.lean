/- Each literal is the translation of the given function. -/
import Derived.Test.YtijbapbijpdpiaaDoorProg
import Derived.Test.YtijbapbijpdpiaaDoorL09
import Derived.Test.YtijbapbijpdpiaaDoorVE
import Derived.KernelRfl
namespace Go.Proofs.YtijbapbijpdpiaaDoor
open Go.Vm
def heapT : FuncId → List Nat
  | 46 => [31]
  | _ => []
def effT : FuncId → List Nat
  | 8 => [13]
  | 21 => [9]
  | 37 => [7]
  | _ => []
set_option maxRecDepth 1000000 in
theorem tr3 : trF Tryd.prog heapT effT drawOk 3 = some _root_.Ch09.c3 := by kernel_rfl
set_option maxRecDepth 1000000 in
theorem tr4 : trF Tryd.prog heapT effT drawOk 4 = some _root_.Ch09.c4 := by kernel_rfl
set_option maxRecDepth 1000000 in
theorem tr5 : trF Tryd.prog heapT effT drawOk 5 = some _root_.Ch09.c5 := by kernel_rfl
set_option maxRecDepth 1000000 in
theorem tr6 : trF Tryd.prog heapT effT drawOk 6 = some _root_.Ch09.c6 := by kernel_rfl
set_option maxRecDepth 1000000 in
theorem tr7 : trF Tryd.prog heapT effT drawOk 7 = some _root_.Ch09.c7 := by kernel_rfl
set_option maxRecDepth 1000000 in
theorem tr8 : trF Tryd.prog heapT effT drawOk 8 = some _root_.Ch09.c8 := by kernel_rfl
set_option maxRecDepth 1000000 in
theorem tr9 : trF Tryd.prog heapT effT drawOk 9 = some _root_.Ch09.c9 := by kernel_rfl
set_option maxRecDepth 1000000 in
theorem tr10 : trF Tryd.prog heapT effT drawOk 10 = some _root_.Ch09.c10 := by kernel_rfl
set_option maxRecDepth 1000000 in
theorem tr11 : trF Tryd.prog heapT effT drawOk 11 = some _root_.Ch09.c11 := by kernel_rfl
set_option maxRecDepth 1000000 in
theorem tr12 : trF Tryd.prog heapT effT drawOk 12 = some _root_.Ch09.c12 := by kernel_rfl
set_option maxRecDepth 1000000 in
theorem tr13 : trF Tryd.prog heapT effT drawOk 13 = some _root_.Ch09.c13 := by kernel_rfl
set_option maxRecDepth 1000000 in
theorem tr14 : trF Tryd.prog heapT effT drawOk 14 = some _root_.Ch09.c14 := by kernel_rfl
set_option maxRecDepth 1000000 in
theorem tr15 : trF Tryd.prog heapT effT drawOk 15 = some _root_.Ch09.c15 := by kernel_rfl
set_option maxRecDepth 1000000 in
theorem tr16 : trF Tryd.prog heapT effT drawOk 16 = some _root_.Ch09.c16 := by kernel_rfl
set_option maxRecDepth 1000000 in
theorem tr17 : trF Tryd.prog heapT effT drawOk 17 = some _root_.Ch09.c17 := by kernel_rfl
set_option maxRecDepth 1000000 in
theorem tr18 : trF Tryd.prog heapT effT drawOk 18 = some _root_.Ch09.c18 := by kernel_rfl
set_option maxRecDepth 1000000 in
theorem tr19 : trF Tryd.prog heapT effT drawOk 19 = some _root_.Ch09.c19 := by kernel_rfl
set_option maxRecDepth 1000000 in
theorem tr20 : trF Tryd.prog heapT effT drawOk 20 = some _root_.Ch09.c20 := by kernel_rfl
set_option maxRecDepth 1000000 in
theorem tr21 : trF Tryd.prog heapT effT drawOk 21 = some _root_.Ch09.c21 := by kernel_rfl
set_option maxRecDepth 1000000 in
theorem tr22 : trF Tryd.prog heapT effT drawOk 22 = some _root_.Ch09.c22 := by kernel_rfl
set_option maxRecDepth 1000000 in
theorem tr23 : trF Tryd.prog heapT effT drawOk 23 = some _root_.Ch09.c23 := by kernel_rfl
set_option maxRecDepth 1000000 in
theorem tr24 : trF Tryd.prog heapT effT drawOk 24 = some _root_.Ch09.c24 := by kernel_rfl
set_option maxRecDepth 1000000 in
theorem tr25 : trF Tryd.prog heapT effT drawOk 25 = some _root_.Ch09.c25 := by kernel_rfl
set_option maxRecDepth 1000000 in
theorem tr26 : trF Tryd.prog heapT effT drawOk 26 = some _root_.Ch09.c26 := by kernel_rfl
set_option maxRecDepth 1000000 in
theorem tr27 : trF Tryd.prog heapT effT drawOk 27 = some _root_.Ch09.c27 := by kernel_rfl
set_option maxRecDepth 1000000 in
theorem tr28 : trF Tryd.prog heapT effT drawOk 28 = some _root_.Ch09.c28 := by kernel_rfl
end Go.Proofs.YtijbapbijpdpiaaDoor
