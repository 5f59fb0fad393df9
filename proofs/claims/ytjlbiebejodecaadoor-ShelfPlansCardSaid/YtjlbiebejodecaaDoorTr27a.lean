/- Each literal is the translation of the given function. -/
import Derived.Test.YtjlbiebejodecaaDoorProg
import Derived.Test.YtjlbiebejodecaaDoorL27
import Derived.Test.YtjlbiebejodecaaDoorVE
import Derived.KernelRfl
namespace Go.Proofs.YtjlbiebejodecaaDoor
open Go.Vm
def heapT : FuncId → List Nat
  | 18 => [200013]
  | 24 => [28]
  | 26 => [100030]
  | 11 => [100037]
  | 32 => [33]
  | 33 => [21]
  | 76 => [200022, 300013]
  | 79 => [200031, 300020]
  | 99 => [200011, 300006]
  | 100 => [200008, 300005]
  | 83 => [200022, 300013]
  | 85 => [200026, 300011]
  | 95 => [200055, 200073, 200083, 300052, 300070, 300080]
  | _ => []
def effT : FuncId → List Nat
  | 3 => [9, 29, 32]
  | 4 => [12, 23]
  | 5 => [11, 35]
  | 6 => [12, 22]
  | 7 => [16, 41, 75]
  | 8 => [14, 25]
  | 9 => [17, 28, 49]
  | 10 => [14, 24, 92]
  | 11 => [16, 27]
  | 12 => [13, 18, 28, 34, 136, 140]
  | 18 => [17]
  | 20 => [25, 29]
  | 24 => [40, 46, 49]
  | 27 => [21, 24]
  | 32 => [20, 39]
  | 33 => [23]
  | 34 => [27, 37]
  | 45 => [8]
  | 53 => [7]
  | 54 => [6]
  | 55 => [7]
  | 60 => [14, 50, 57]
  | 61 => [15, 57, 60, 64, 67, 100]
  | 69 => [18, 27, 43, 60]
  | 71 => [16]
  | 79 => [35, 49]
  | 80 => [11]
  | 81 => [14, 42, 46]
  | 82 => [11]
  | 84 => [46, 49, 53, 56, 89, 91]
  | 89 => [191, 205, 219]
  | 91 => [6]
  | 92 => [35, 37]
  | 93 => [9]
  | 95 => [47, 65]
  | 97 => [31, 46, 57]
  | _ => []
set_option maxRecDepth 1000000 in
theorem tr3 : trF Tryd.prog heapT effT drawOk 3 = some _root_.Ch27.c3 := by kernel_rfl
set_option maxRecDepth 1000000 in
theorem tr4 : trF Tryd.prog heapT effT drawOk 4 = some _root_.Ch27.c4 := by kernel_rfl
set_option maxRecDepth 1000000 in
theorem tr5 : trF Tryd.prog heapT effT drawOk 5 = some _root_.Ch27.c5 := by kernel_rfl
set_option maxRecDepth 1000000 in
theorem tr6 : trF Tryd.prog heapT effT drawOk 6 = some _root_.Ch27.c6 := by kernel_rfl
set_option maxRecDepth 1000000 in
theorem tr7 : trF Tryd.prog heapT effT drawOk 7 = some _root_.Ch27.c7 := by kernel_rfl
set_option maxRecDepth 1000000 in
theorem tr8 : trF Tryd.prog heapT effT drawOk 8 = some _root_.Ch27.c8 := by kernel_rfl
set_option maxRecDepth 1000000 in
theorem tr9 : trF Tryd.prog heapT effT drawOk 9 = some _root_.Ch27.c9 := by kernel_rfl
set_option maxRecDepth 1000000 in
theorem tr10 : trF Tryd.prog heapT effT drawOk 10 = some _root_.Ch27.c10 := by kernel_rfl
set_option maxRecDepth 1000000 in
theorem tr11 : trF Tryd.prog heapT effT drawOk 11 = some _root_.Ch27.c11 := by kernel_rfl
set_option maxRecDepth 1000000 in
theorem tr12 : trF Tryd.prog heapT effT drawOk 12 = some _root_.Ch27.c12 := by kernel_rfl
set_option maxRecDepth 1000000 in
theorem tr13 : trF Tryd.prog heapT effT drawOk 13 = some _root_.Ch27.c13 := by kernel_rfl
set_option maxRecDepth 1000000 in
theorem tr14 : trF Tryd.prog heapT effT drawOk 14 = some _root_.Ch27.c14 := by kernel_rfl
set_option maxRecDepth 1000000 in
theorem tr15 : trF Tryd.prog heapT effT drawOk 15 = some _root_.Ch27.c15 := by kernel_rfl
set_option maxRecDepth 1000000 in
theorem tr16 : trF Tryd.prog heapT effT drawOk 16 = some _root_.Ch27.c16 := by kernel_rfl
set_option maxRecDepth 1000000 in
theorem tr17 : trF Tryd.prog heapT effT drawOk 17 = some _root_.Ch27.c17 := by kernel_rfl
set_option maxRecDepth 1000000 in
theorem tr18 : trF Tryd.prog heapT effT drawOk 18 = some _root_.Ch27.c18 := by kernel_rfl
set_option maxRecDepth 1000000 in
theorem tr19 : trF Tryd.prog heapT effT drawOk 19 = some _root_.Ch27.c19 := by kernel_rfl
set_option maxRecDepth 1000000 in
theorem tr20 : trF Tryd.prog heapT effT drawOk 20 = some _root_.Ch27.c20 := by kernel_rfl
set_option maxRecDepth 1000000 in
theorem tr21 : trF Tryd.prog heapT effT drawOk 21 = some _root_.Ch27.c21 := by kernel_rfl
set_option maxRecDepth 1000000 in
theorem tr22 : trF Tryd.prog heapT effT drawOk 22 = some _root_.Ch27.c22 := by kernel_rfl
set_option maxRecDepth 1000000 in
theorem tr23 : trF Tryd.prog heapT effT drawOk 23 = some _root_.Ch27.c23 := by kernel_rfl
set_option maxRecDepth 1000000 in
theorem tr24 : trF Tryd.prog heapT effT drawOk 24 = some _root_.Ch27.c24 := by kernel_rfl
set_option maxRecDepth 1000000 in
theorem tr25 : trF Tryd.prog heapT effT drawOk 25 = some _root_.Ch27.c25 := by kernel_rfl
set_option maxRecDepth 1000000 in
theorem tr26 : trF Tryd.prog heapT effT drawOk 26 = some _root_.Ch27.c26 := by kernel_rfl
set_option maxRecDepth 1000000 in
theorem tr27 : trF Tryd.prog heapT effT drawOk 27 = some _root_.Ch27.c27 := by kernel_rfl
set_option maxRecDepth 1000000 in
theorem tr28 : trF Tryd.prog heapT effT drawOk 28 = some _root_.Ch27.c28 := by kernel_rfl
set_option maxRecDepth 1000000 in
theorem tr29 : trF Tryd.prog heapT effT drawOk 29 = some _root_.Ch27.c29 := by kernel_rfl
set_option maxRecDepth 1000000 in
theorem tr30 : trF Tryd.prog heapT effT drawOk 30 = some _root_.Ch27.c30 := by kernel_rfl
set_option maxRecDepth 1000000 in
theorem tr31 : trF Tryd.prog heapT effT drawOk 31 = some _root_.Ch27.c31 := by kernel_rfl
set_option maxRecDepth 1000000 in
theorem tr32 : trF Tryd.prog heapT effT drawOk 32 = some _root_.Ch27.c32 := by kernel_rfl
set_option maxRecDepth 1000000 in
theorem tr33 : trF Tryd.prog heapT effT drawOk 33 = some _root_.Ch27.c33 := by kernel_rfl
set_option maxRecDepth 1000000 in
theorem tr34 : trF Tryd.prog heapT effT drawOk 34 = some _root_.Ch27.c34 := by kernel_rfl
set_option maxRecDepth 1000000 in
theorem tr35 : trF Tryd.prog heapT effT drawOk 35 = some _root_.Ch27.c35 := by kernel_rfl
set_option maxRecDepth 1000000 in
theorem tr36 : trF Tryd.prog heapT effT drawOk 36 = some _root_.Ch27.c36 := by kernel_rfl
set_option maxRecDepth 1000000 in
theorem tr37 : trF Tryd.prog heapT effT drawOk 37 = some _root_.Ch27.c37 := by kernel_rfl
set_option maxRecDepth 1000000 in
theorem tr38 : trF Tryd.prog heapT effT drawOk 38 = some _root_.Ch27.c38 := by kernel_rfl
set_option maxRecDepth 1000000 in
theorem tr39 : trF Tryd.prog heapT effT drawOk 39 = some _root_.Ch27.c39 := by kernel_rfl
set_option maxRecDepth 1000000 in
theorem tr40 : trF Tryd.prog heapT effT drawOk 40 = some _root_.Ch27.c40 := by kernel_rfl
set_option maxRecDepth 1000000 in
theorem tr41 : trF Tryd.prog heapT effT drawOk 41 = some _root_.Ch27.c41 := by kernel_rfl
set_option maxRecDepth 1000000 in
theorem tr42 : trF Tryd.prog heapT effT drawOk 42 = some _root_.Ch27.c42 := by kernel_rfl
set_option maxRecDepth 1000000 in
theorem tr43 : trF Tryd.prog heapT effT drawOk 43 = some _root_.Ch27.c43 := by kernel_rfl
set_option maxRecDepth 1000000 in
theorem tr44 : trF Tryd.prog heapT effT drawOk 44 = some _root_.Ch27.c44 := by kernel_rfl
set_option maxRecDepth 1000000 in
theorem tr45 : trF Tryd.prog heapT effT drawOk 45 = some _root_.Ch27.c45 := by kernel_rfl
set_option maxRecDepth 1000000 in
theorem tr46 : trF Tryd.prog heapT effT drawOk 46 = some _root_.Ch27.c46 := by kernel_rfl
set_option maxRecDepth 1000000 in
theorem tr47 : trF Tryd.prog heapT effT drawOk 47 = some _root_.Ch27.c47 := by kernel_rfl
set_option maxRecDepth 1000000 in
theorem tr48 : trF Tryd.prog heapT effT drawOk 48 = some _root_.Ch27.c48 := by kernel_rfl
set_option maxRecDepth 1000000 in
theorem tr49 : trF Tryd.prog heapT effT drawOk 49 = some _root_.Ch27.c49 := by kernel_rfl
set_option maxRecDepth 1000000 in
theorem tr50 : trF Tryd.prog heapT effT drawOk 50 = some _root_.Ch27.c50 := by kernel_rfl
set_option maxRecDepth 1000000 in
theorem tr51 : trF Tryd.prog heapT effT drawOk 51 = some _root_.Ch27.c51 := by kernel_rfl
set_option maxRecDepth 1000000 in
theorem tr52 : trF Tryd.prog heapT effT drawOk 52 = some _root_.Ch27.c52 := by kernel_rfl
set_option maxRecDepth 1000000 in
theorem tr53 : trF Tryd.prog heapT effT drawOk 53 = some _root_.Ch27.c53 := by kernel_rfl
end Go.Proofs.YtjlbiebejodecaaDoor
