/- Each literal is the translation of the given function. -/
import Derived.Test.YtmncbcgcahfdcaaGreatDoorProg
import Derived.Test.YtmncbcgcahfdcaaGreatDoorL10
import Derived.Test.YtmncbcgcahfdcaaGreatDoorVE
import Derived.KernelRfl
namespace Go.Proofs.YtmncbcgcahfdcaaGreatDoor
open Go.Vm
def heapT : FuncId → List Nat
  | 10 => [6, 200089, 300085]
  | 21 => [200023, 200027, 600036, 600037, 700039, 700040, 600041, 600042, 800000]
  | 23 => [3]
  | 58 => [5, 7]
  | 64 => [5, 7]
  | 66 => [31]
  | _ => []
def effT : FuncId → List Nat
  | 3 => [7, 24, 38]
  | 21 => [400038]
  | 4 => [7, 45, 52]
  | 5 => [20, 13, 25, 40, 106, 117, 124]
  | 6 => [14, 37, 45, 61, 66, 119]
  | 7 => [12, 56]
  | 8 => [6, 19, 25, 38, 47]
  | 12 => [62]
  | 28 => [7]
  | 9 => [7, 11, 42, 47, 53, 57, 67, 74, 81, 88]
  | 10 => [18]
  | 16 => [20]
  | 20 => [9]
  | 23 => [7]
  | 24 => [8, 13]
  | 27 => [7]
  | 29 => [18, 91]
  | 60 => [8]
  | 36 => [9, 26]
  | 39 => [7]
  | 44 => [18, 26]
  | 54 => [29]
  | 55 => [15, 22]
  | 56 => [29]
  | _ => []
set_option maxRecDepth 1000000 in
theorem tr5 : trF Tryz.prog heapT effT drawOk 5 = some _root_.Ch10.c5 := by kernel_rfl
set_option maxRecDepth 1000000 in
theorem tr6 : trF Tryz.prog heapT effT drawOk 6 = some _root_.Ch10.c6 := by kernel_rfl
set_option maxRecDepth 1000000 in
theorem tr9 : trF Tryz.prog heapT effT drawOk 9 = some _root_.Ch10.c9 := by kernel_rfl
set_option maxRecDepth 1000000 in
theorem tr10 : trF Tryz.prog heapT effT drawOk 10 = some _root_.Ch10.c10 := by kernel_rfl
set_option maxRecDepth 1000000 in
theorem tr12 : trF Tryz.prog heapT effT drawOk 12 = some _root_.Ch10.c12 := by kernel_rfl
set_option maxRecDepth 1000000 in
theorem tr13 : trF Tryz.prog heapT effT drawOk 13 = some _root_.Ch10.c13 := by kernel_rfl
set_option maxRecDepth 1000000 in
theorem tr14 : trF Tryz.prog heapT effT drawOk 14 = some _root_.Ch10.c14 := by kernel_rfl
set_option maxRecDepth 1000000 in
theorem tr16 : trF Tryz.prog heapT effT drawOk 16 = some _root_.Ch10.c16 := by kernel_rfl
set_option maxRecDepth 1000000 in
theorem tr18 : trF Tryz.prog heapT effT drawOk 18 = some _root_.Ch10.c18 := by kernel_rfl
set_option maxRecDepth 1000000 in
theorem tr20 : trF Tryz.prog heapT effT drawOk 20 = some _root_.Ch10.c20 := by kernel_rfl
set_option maxRecDepth 1000000 in
theorem tr21 : trF Tryz.prog heapT effT drawOk 21 = some _root_.Ch10.c21 := by kernel_rfl
set_option maxRecDepth 1000000 in
theorem tr22 : trF Tryz.prog heapT effT drawOk 22 = some _root_.Ch10.c22 := by kernel_rfl
set_option maxRecDepth 1000000 in
theorem tr23 : trF Tryz.prog heapT effT drawOk 23 = some _root_.Ch10.c23 := by kernel_rfl
set_option maxRecDepth 1000000 in
theorem tr24 : trF Tryz.prog heapT effT drawOk 24 = some _root_.Ch10.c24 := by kernel_rfl
set_option maxRecDepth 1000000 in
theorem tr27 : trF Tryz.prog heapT effT drawOk 27 = some _root_.Ch10.c27 := by kernel_rfl
set_option maxRecDepth 1000000 in
theorem tr28 : trF Tryz.prog heapT effT drawOk 28 = some _root_.Ch10.c28 := by kernel_rfl
set_option maxRecDepth 1000000 in
theorem tr29 : trF Tryz.prog heapT effT drawOk 29 = some _root_.Ch10.c29 := by kernel_rfl
set_option maxRecDepth 1000000 in
theorem tr30 : trF Tryz.prog heapT effT drawOk 30 = some _root_.Ch10.c30 := by kernel_rfl
set_option maxRecDepth 1000000 in
theorem tr31 : trF Tryz.prog heapT effT drawOk 31 = some _root_.Ch10.c31 := by kernel_rfl
set_option maxRecDepth 1000000 in
theorem tr32 : trF Tryz.prog heapT effT drawOk 32 = some _root_.Ch10.c32 := by kernel_rfl
set_option maxRecDepth 1000000 in
theorem tr34 : trF Tryz.prog heapT effT drawOk 34 = some _root_.Ch10.c34 := by kernel_rfl
set_option maxRecDepth 1000000 in
theorem tr35 : trF Tryz.prog heapT effT drawOk 35 = some _root_.Ch10.c35 := by kernel_rfl
set_option maxRecDepth 1000000 in
theorem tr36 : trF Tryz.prog heapT effT drawOk 36 = some _root_.Ch10.c36 := by kernel_rfl
set_option maxRecDepth 1000000 in
theorem tr37 : trF Tryz.prog heapT effT drawOk 37 = some _root_.Ch10.c37 := by kernel_rfl
set_option maxRecDepth 1000000 in
theorem tr39 : trF Tryz.prog heapT effT drawOk 39 = some _root_.Ch10.c39 := by kernel_rfl
set_option maxRecDepth 1000000 in
theorem tr40 : trF Tryz.prog heapT effT drawOk 40 = some _root_.Ch10.c40 := by kernel_rfl
set_option maxRecDepth 1000000 in
theorem tr41 : trF Tryz.prog heapT effT drawOk 41 = some _root_.Ch10.c41 := by kernel_rfl
set_option maxRecDepth 1000000 in
theorem tr42 : trF Tryz.prog heapT effT drawOk 42 = some _root_.Ch10.c42 := by kernel_rfl
set_option maxRecDepth 1000000 in
theorem tr43 : trF Tryz.prog heapT effT drawOk 43 = some _root_.Ch10.c43 := by kernel_rfl
set_option maxRecDepth 1000000 in
theorem tr44 : trF Tryz.prog heapT effT drawOk 44 = some _root_.Ch10.c44 := by kernel_rfl
set_option maxRecDepth 1000000 in
theorem tr45 : trF Tryz.prog heapT effT drawOk 45 = some _root_.Ch10.c45 := by kernel_rfl
set_option maxRecDepth 1000000 in
theorem tr46 : trF Tryz.prog heapT effT drawOk 46 = some _root_.Ch10.c46 := by kernel_rfl
set_option maxRecDepth 1000000 in
theorem tr47 : trF Tryz.prog heapT effT drawOk 47 = some _root_.Ch10.c47 := by kernel_rfl
set_option maxRecDepth 1000000 in
theorem tr48 : trF Tryz.prog heapT effT drawOk 48 = some _root_.Ch10.c48 := by kernel_rfl
set_option maxRecDepth 1000000 in
theorem tr49 : trF Tryz.prog heapT effT drawOk 49 = some _root_.Ch10.c49 := by kernel_rfl
set_option maxRecDepth 1000000 in
theorem tr50 : trF Tryz.prog heapT effT drawOk 50 = some _root_.Ch10.c50 := by kernel_rfl
set_option maxRecDepth 1000000 in
theorem tr51 : trF Tryz.prog heapT effT drawOk 51 = some _root_.Ch10.c51 := by kernel_rfl
set_option maxRecDepth 1000000 in
theorem tr54 : trF Tryz.prog heapT effT drawOk 54 = some _root_.Ch10.c54 := by kernel_rfl
set_option maxRecDepth 1000000 in
theorem tr55 : trF Tryz.prog heapT effT drawOk 55 = some _root_.Ch10.c55 := by kernel_rfl
set_option maxRecDepth 1000000 in
theorem tr56 : trF Tryz.prog heapT effT drawOk 56 = some _root_.Ch10.c56 := by kernel_rfl
set_option maxRecDepth 1000000 in
theorem tr57 : trF Tryz.prog heapT effT drawOk 57 = some _root_.Ch10.c57 := by kernel_rfl
set_option maxRecDepth 1000000 in
theorem tr58 : trF Tryz.prog heapT effT drawOk 58 = some _root_.Ch10.c58 := by kernel_rfl
end Go.Proofs.YtmncbcgcahfdcaaGreatDoor
