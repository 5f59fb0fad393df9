/- Each literal is the translation of the given function. -/
import Derived.Test.YtmncbcgcahfdcaaDoorProg
import Derived.Test.YtmncbcgcahfdcaaDoorL12
import Derived.Test.YtmncbcgcahfdcaaDoorVE
import Derived.KernelRfl
namespace Go.Proofs.YtmncbcgcahfdcaaDoor
open Go.Vm
def heapT : FuncId → List Nat
  | 6 => [6, 200089, 300085]
  | 8 => [3]
  | 32 => [5, 7]
  | 35 => [31]
  | 45 => [5, 7]
  | _ => []
def effT : FuncId → List Nat
  | 3 => [15, 19, 102, 107, 131, 135, 137]
  | 4 => [7, 11, 42, 47, 53, 57, 67, 74, 81, 88]
  | 5 => [9]
  | 6 => [18]
  | 7 => [7]
  | 8 => [7]
  | 9 => [8, 13]
  | 11 => [20]
  | 13 => [18, 91]
  | 15 => [7]
  | 18 => [29]
  | 19 => [15, 22]
  | 20 => [29]
  | 22 => [18, 26]
  | 30 => [9, 26]
  | 34 => [8]
  | _ => []
set_option maxRecDepth 1000000 in
theorem tr3 : trF Tryd.prog heapT effT drawOk 3 = some _root_.Ch12.c3 := by kernel_rfl
set_option maxRecDepth 1000000 in
theorem tr4 : trF Tryd.prog heapT effT drawOk 4 = some _root_.Ch12.c4 := by kernel_rfl
set_option maxRecDepth 1000000 in
theorem tr5 : trF Tryd.prog heapT effT drawOk 5 = some _root_.Ch12.c5 := by kernel_rfl
set_option maxRecDepth 1000000 in
theorem tr6 : trF Tryd.prog heapT effT drawOk 6 = some _root_.Ch12.c6 := by kernel_rfl
set_option maxRecDepth 1000000 in
theorem tr7 : trF Tryd.prog heapT effT drawOk 7 = some _root_.Ch12.c7 := by kernel_rfl
set_option maxRecDepth 1000000 in
theorem tr8 : trF Tryd.prog heapT effT drawOk 8 = some _root_.Ch12.c8 := by kernel_rfl
set_option maxRecDepth 1000000 in
theorem tr9 : trF Tryd.prog heapT effT drawOk 9 = some _root_.Ch12.c9 := by kernel_rfl
set_option maxRecDepth 1000000 in
theorem tr10 : trF Tryd.prog heapT effT drawOk 10 = some _root_.Ch12.c10 := by kernel_rfl
set_option maxRecDepth 1000000 in
theorem tr11 : trF Tryd.prog heapT effT drawOk 11 = some _root_.Ch12.c11 := by kernel_rfl
set_option maxRecDepth 1000000 in
theorem tr12 : trF Tryd.prog heapT effT drawOk 12 = some _root_.Ch12.c12 := by kernel_rfl
set_option maxRecDepth 1000000 in
theorem tr13 : trF Tryd.prog heapT effT drawOk 13 = some _root_.Ch12.c13 := by kernel_rfl
set_option maxRecDepth 1000000 in
theorem tr14 : trF Tryd.prog heapT effT drawOk 14 = some _root_.Ch12.c14 := by kernel_rfl
set_option maxRecDepth 1000000 in
theorem tr15 : trF Tryd.prog heapT effT drawOk 15 = some _root_.Ch12.c15 := by kernel_rfl
set_option maxRecDepth 1000000 in
theorem tr16 : trF Tryd.prog heapT effT drawOk 16 = some _root_.Ch12.c16 := by kernel_rfl
set_option maxRecDepth 1000000 in
theorem tr17 : trF Tryd.prog heapT effT drawOk 17 = some _root_.Ch12.c17 := by kernel_rfl
set_option maxRecDepth 1000000 in
theorem tr18 : trF Tryd.prog heapT effT drawOk 18 = some _root_.Ch12.c18 := by kernel_rfl
set_option maxRecDepth 1000000 in
theorem tr19 : trF Tryd.prog heapT effT drawOk 19 = some _root_.Ch12.c19 := by kernel_rfl
set_option maxRecDepth 1000000 in
theorem tr20 : trF Tryd.prog heapT effT drawOk 20 = some _root_.Ch12.c20 := by kernel_rfl
set_option maxRecDepth 1000000 in
theorem tr21 : trF Tryd.prog heapT effT drawOk 21 = some _root_.Ch12.c21 := by kernel_rfl
set_option maxRecDepth 1000000 in
theorem tr22 : trF Tryd.prog heapT effT drawOk 22 = some _root_.Ch12.c22 := by kernel_rfl
set_option maxRecDepth 1000000 in
theorem tr23 : trF Tryd.prog heapT effT drawOk 23 = some _root_.Ch12.c23 := by kernel_rfl
set_option maxRecDepth 1000000 in
theorem tr24 : trF Tryd.prog heapT effT drawOk 24 = some _root_.Ch12.c24 := by kernel_rfl
set_option maxRecDepth 1000000 in
theorem tr25 : trF Tryd.prog heapT effT drawOk 25 = some _root_.Ch12.c25 := by kernel_rfl
set_option maxRecDepth 1000000 in
theorem tr26 : trF Tryd.prog heapT effT drawOk 26 = some _root_.Ch12.c26 := by kernel_rfl
set_option maxRecDepth 1000000 in
theorem tr27 : trF Tryd.prog heapT effT drawOk 27 = some _root_.Ch12.c27 := by kernel_rfl
set_option maxRecDepth 1000000 in
theorem tr28 : trF Tryd.prog heapT effT drawOk 28 = some _root_.Ch12.c28 := by kernel_rfl
set_option maxRecDepth 1000000 in
theorem tr29 : trF Tryd.prog heapT effT drawOk 29 = some _root_.Ch12.c29 := by kernel_rfl
set_option maxRecDepth 1000000 in
theorem tr30 : trF Tryd.prog heapT effT drawOk 30 = some _root_.Ch12.c30 := by kernel_rfl
set_option maxRecDepth 1000000 in
theorem tr31 : trF Tryd.prog heapT effT drawOk 31 = some _root_.Ch12.c31 := by kernel_rfl
set_option maxRecDepth 1000000 in
theorem tr32 : trF Tryd.prog heapT effT drawOk 32 = some _root_.Ch12.c32 := by kernel_rfl
set_option maxRecDepth 1000000 in
theorem tr33 : trF Tryd.prog heapT effT drawOk 33 = some _root_.Ch12.c33 := by kernel_rfl
set_option maxRecDepth 1000000 in
theorem tr34 : trF Tryd.prog heapT effT drawOk 34 = some _root_.Ch12.c34 := by kernel_rfl
set_option maxRecDepth 1000000 in
theorem tr35 : trF Tryd.prog heapT effT drawOk 35 = some _root_.Ch12.c35 := by kernel_rfl
set_option maxRecDepth 1000000 in
theorem tr36 : trF Tryd.prog heapT effT drawOk 36 = some _root_.Ch12.c36 := by kernel_rfl
set_option maxRecDepth 1000000 in
theorem tr37 : trF Tryd.prog heapT effT drawOk 37 = some _root_.Ch12.c37 := by kernel_rfl
set_option maxRecDepth 1000000 in
theorem tr38 : trF Tryd.prog heapT effT drawOk 38 = some _root_.Ch12.c38 := by kernel_rfl
set_option maxRecDepth 1000000 in
theorem tr39 : trF Tryd.prog heapT effT drawOk 39 = some _root_.Ch12.c39 := by kernel_rfl
set_option maxRecDepth 1000000 in
theorem tr40 : trF Tryd.prog heapT effT drawOk 40 = some _root_.Ch12.c40 := by kernel_rfl
set_option maxRecDepth 1000000 in
theorem tr41 : trF Tryd.prog heapT effT drawOk 41 = some _root_.Ch12.c41 := by kernel_rfl
set_option maxRecDepth 1000000 in
theorem tr42 : trF Tryd.prog heapT effT drawOk 42 = some _root_.Ch12.c42 := by kernel_rfl
set_option maxRecDepth 1000000 in
theorem tr43 : trF Tryd.prog heapT effT drawOk 43 = some _root_.Ch12.c43 := by kernel_rfl
set_option maxRecDepth 1000000 in
theorem tr44 : trF Tryd.prog heapT effT drawOk 44 = some _root_.Ch12.c44 := by kernel_rfl
set_option maxRecDepth 1000000 in
theorem tr45 : trF Tryd.prog heapT effT drawOk 45 = some _root_.Ch12.c45 := by kernel_rfl
set_option maxRecDepth 1000000 in
theorem tr46 : trF Tryd.prog heapT effT drawOk 46 = some _root_.Ch12.c46 := by kernel_rfl
set_option maxRecDepth 1000000 in
theorem tr47 : trF Tryd.prog heapT effT drawOk 47 = some _root_.Ch12.c47 := by kernel_rfl
set_option maxRecDepth 1000000 in
theorem tr48 : trF Tryd.prog heapT effT drawOk 48 = some _root_.Ch12.c48 := by kernel_rfl
set_option maxRecDepth 1000000 in
theorem tr49 : trF Tryd.prog heapT effT drawOk 49 = some _root_.Ch12.c49 := by kernel_rfl
end Go.Proofs.YtmncbcgcahfdcaaDoor
