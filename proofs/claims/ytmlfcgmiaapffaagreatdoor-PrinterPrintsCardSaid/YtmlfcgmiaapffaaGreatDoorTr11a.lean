/- Each literal is the translation of the given function. -/
import Derived.Test.YtmlfcgmiaapffaaGreatDoorProg
import Derived.Test.YtmlfcgmiaapffaaGreatDoorL11
import Derived.Test.YtmlfcgmiaapffaaGreatDoorVE
import Derived.KernelRfl
namespace Go.Proofs.YtmlfcgmiaapffaaGreatDoor
open Go.Vm
def heapT : FuncId → List Nat
  | 62 => [4, 5]
  | 41 => [700008]
  | 63 => [300012, 700014]
  | 64 => [300011, 700014]
  | 66 => [700007, 700013]
  | 93 => [700009, 700010, 700011, 700019]
  | 50 => [11, 23]
  | 51 => [11, 23]
  | 37 => [6, 200089, 300085]
  | 70 => [31]
  | _ => []
def effT : FuncId → List Nat
  | 62 => [10]
  | 91 => [40]
  | 3 => [8, 17, 22, 26, 56]
  | 4 => [17, 50, 69, 72, 83]
  | 5 => [7, 30, 54]
  | 6 => [9]
  | 7 => [11, 18, 23, 42, 47, 60, 65]
  | 8 => [13, 20, 43, 48, 53, 61, 76]
  | 9 => [14, 27, 46]
  | 10 => [13, 38]
  | 11 => [18, 24, 64, 41, 46, 51, 112, 124]
  | 14 => [9]
  | 15 => [9]
  | 16 => [8]
  | 22 => [10, 20, 32]
  | 24 => [7]
  | 41 => [12, 18, 31, 32, 34, 37]
  | 63 => [7]
  | 64 => [6]
  | 28 => [20]
  | 30 => [11]
  | 18 => [62]
  | 25 => [7]
  | 37 => [18]
  | 46 => [7]
  | 49 => [7]
  | 54 => [9]
  | 61 => [8, 13]
  | 75 => [29]
  | 76 => [15, 22]
  | 77 => [29]
  | 90 => [18, 26]
  | _ => []
set_option maxRecDepth 1000000 in
theorem tr3 : trF Tryz.prog heapT effT drawOk 3 = some _root_.Ch11.c3 := by kernel_rfl
set_option maxRecDepth 1000000 in
theorem tr11 : trF Tryz.prog heapT effT drawOk 11 = some _root_.Ch11.c11 := by kernel_rfl
set_option maxRecDepth 1000000 in
theorem tr12 : trF Tryz.prog heapT effT drawOk 12 = some _root_.Ch11.c12 := by kernel_rfl
set_option maxRecDepth 1000000 in
theorem tr13 : trF Tryz.prog heapT effT drawOk 13 = some _root_.Ch11.c13 := by kernel_rfl
set_option maxRecDepth 1000000 in
theorem tr14 : trF Tryz.prog heapT effT drawOk 14 = some _root_.Ch11.c14 := by kernel_rfl
set_option maxRecDepth 1000000 in
theorem tr15 : trF Tryz.prog heapT effT drawOk 15 = some _root_.Ch11.c15 := by kernel_rfl
set_option maxRecDepth 1000000 in
theorem tr16 : trF Tryz.prog heapT effT drawOk 16 = some _root_.Ch11.c16 := by kernel_rfl
set_option maxRecDepth 1000000 in
theorem tr17 : trF Tryz.prog heapT effT drawOk 17 = some _root_.Ch11.c17 := by kernel_rfl
set_option maxRecDepth 1000000 in
theorem tr18 : trF Tryz.prog heapT effT drawOk 18 = some _root_.Ch11.c18 := by kernel_rfl
set_option maxRecDepth 1000000 in
theorem tr19 : trF Tryz.prog heapT effT drawOk 19 = some _root_.Ch11.c19 := by kernel_rfl
set_option maxRecDepth 1000000 in
theorem tr20 : trF Tryz.prog heapT effT drawOk 20 = some _root_.Ch11.c20 := by kernel_rfl
set_option maxRecDepth 1000000 in
theorem tr21 : trF Tryz.prog heapT effT drawOk 21 = some _root_.Ch11.c21 := by kernel_rfl
set_option maxRecDepth 1000000 in
theorem tr22 : trF Tryz.prog heapT effT drawOk 22 = some _root_.Ch11.c22 := by kernel_rfl
set_option maxRecDepth 1000000 in
theorem tr24 : trF Tryz.prog heapT effT drawOk 24 = some _root_.Ch11.c24 := by kernel_rfl
set_option maxRecDepth 1000000 in
theorem tr26 : trF Tryz.prog heapT effT drawOk 26 = some _root_.Ch11.c26 := by kernel_rfl
set_option maxRecDepth 1000000 in
theorem tr28 : trF Tryz.prog heapT effT drawOk 28 = some _root_.Ch11.c28 := by kernel_rfl
set_option maxRecDepth 1000000 in
theorem tr29 : trF Tryz.prog heapT effT drawOk 29 = some _root_.Ch11.c29 := by kernel_rfl
set_option maxRecDepth 1000000 in
theorem tr32 : trF Tryz.prog heapT effT drawOk 32 = some _root_.Ch11.c32 := by kernel_rfl
set_option maxRecDepth 1000000 in
theorem tr35 : trF Tryz.prog heapT effT drawOk 35 = some _root_.Ch11.c35 := by kernel_rfl
set_option maxRecDepth 1000000 in
theorem tr37 : trF Tryz.prog heapT effT drawOk 37 = some _root_.Ch11.c37 := by kernel_rfl
set_option maxRecDepth 1000000 in
theorem tr38 : trF Tryz.prog heapT effT drawOk 38 = some _root_.Ch11.c38 := by kernel_rfl
set_option maxRecDepth 1000000 in
theorem tr39 : trF Tryz.prog heapT effT drawOk 39 = some _root_.Ch11.c39 := by kernel_rfl
set_option maxRecDepth 1000000 in
theorem tr40 : trF Tryz.prog heapT effT drawOk 40 = some _root_.Ch11.c40 := by kernel_rfl
set_option maxRecDepth 1000000 in
theorem tr41 : trF Tryz.prog heapT effT drawOk 41 = some _root_.Ch11.c41 := by kernel_rfl
set_option maxRecDepth 1000000 in
theorem tr42 : trF Tryz.prog heapT effT drawOk 42 = some _root_.Ch11.c42 := by kernel_rfl
set_option maxRecDepth 1000000 in
theorem tr43 : trF Tryz.prog heapT effT drawOk 43 = some _root_.Ch11.c43 := by kernel_rfl
set_option maxRecDepth 1000000 in
theorem tr44 : trF Tryz.prog heapT effT drawOk 44 = some _root_.Ch11.c44 := by kernel_rfl
set_option maxRecDepth 1000000 in
theorem tr45 : trF Tryz.prog heapT effT drawOk 45 = some _root_.Ch11.c45 := by kernel_rfl
set_option maxRecDepth 1000000 in
theorem tr46 : trF Tryz.prog heapT effT drawOk 46 = some _root_.Ch11.c46 := by kernel_rfl
set_option maxRecDepth 1000000 in
theorem tr47 : trF Tryz.prog heapT effT drawOk 47 = some _root_.Ch11.c47 := by kernel_rfl
set_option maxRecDepth 1000000 in
theorem tr49 : trF Tryz.prog heapT effT drawOk 49 = some _root_.Ch11.c49 := by kernel_rfl
set_option maxRecDepth 1000000 in
theorem tr50 : trF Tryz.prog heapT effT drawOk 50 = some _root_.Ch11.c50 := by kernel_rfl
set_option maxRecDepth 1000000 in
theorem tr52 : trF Tryz.prog heapT effT drawOk 52 = some _root_.Ch11.c52 := by kernel_rfl
set_option maxRecDepth 1000000 in
theorem tr53 : trF Tryz.prog heapT effT drawOk 53 = some _root_.Ch11.c53 := by kernel_rfl
set_option maxRecDepth 1000000 in
theorem tr54 : trF Tryz.prog heapT effT drawOk 54 = some _root_.Ch11.c54 := by kernel_rfl
set_option maxRecDepth 1000000 in
theorem tr55 : trF Tryz.prog heapT effT drawOk 55 = some _root_.Ch11.c55 := by kernel_rfl
set_option maxRecDepth 1000000 in
theorem tr56 : trF Tryz.prog heapT effT drawOk 56 = some _root_.Ch11.c56 := by kernel_rfl
set_option maxRecDepth 1000000 in
theorem tr57 : trF Tryz.prog heapT effT drawOk 57 = some _root_.Ch11.c57 := by kernel_rfl
set_option maxRecDepth 1000000 in
theorem tr58 : trF Tryz.prog heapT effT drawOk 58 = some _root_.Ch11.c58 := by kernel_rfl
set_option maxRecDepth 1000000 in
theorem tr59 : trF Tryz.prog heapT effT drawOk 59 = some _root_.Ch11.c59 := by kernel_rfl
set_option maxRecDepth 1000000 in
theorem tr60 : trF Tryz.prog heapT effT drawOk 60 = some _root_.Ch11.c60 := by kernel_rfl
set_option maxRecDepth 1000000 in
theorem tr61 : trF Tryz.prog heapT effT drawOk 61 = some _root_.Ch11.c61 := by kernel_rfl
set_option maxRecDepth 1000000 in
theorem tr62 : trF Tryz.prog heapT effT drawOk 62 = some _root_.Ch11.c62 := by kernel_rfl
set_option maxRecDepth 1000000 in
theorem tr63 : trF Tryz.prog heapT effT drawOk 63 = some _root_.Ch11.c63 := by kernel_rfl
set_option maxRecDepth 1000000 in
theorem tr64 : trF Tryz.prog heapT effT drawOk 64 = some _root_.Ch11.c64 := by kernel_rfl
set_option maxRecDepth 1000000 in
theorem tr65 : trF Tryz.prog heapT effT drawOk 65 = some _root_.Ch11.c65 := by kernel_rfl
set_option maxRecDepth 1000000 in
theorem tr66 : trF Tryz.prog heapT effT drawOk 66 = some _root_.Ch11.c66 := by kernel_rfl
set_option maxRecDepth 1000000 in
theorem tr67 : trF Tryz.prog heapT effT drawOk 67 = some _root_.Ch11.c67 := by kernel_rfl
set_option maxRecDepth 1000000 in
theorem tr68 : trF Tryz.prog heapT effT drawOk 68 = some _root_.Ch11.c68 := by kernel_rfl
set_option maxRecDepth 1000000 in
theorem tr69 : trF Tryz.prog heapT effT drawOk 69 = some _root_.Ch11.c69 := by kernel_rfl
set_option maxRecDepth 1000000 in
theorem tr70 : trF Tryz.prog heapT effT drawOk 70 = some _root_.Ch11.c70 := by kernel_rfl
end Go.Proofs.YtmlfcgmiaapffaaGreatDoor
