/- Each literal is the translation of the given function. -/
import Derived.Test.YtgmhcmmdfejcmaaDoorProg
import Derived.Test.YtgmhcmmdfejcmaaDoorL55
import Derived.Test.YtgmhcmmdfejcmaaDoorVE
import Derived.KernelRfl
namespace Go.Proofs.YtgmhcmmdfejcmaaDoor
open Go.Vm
def heapT : FuncId → List Nat
  | 12 => [2]
  | 13 => [300008]
  | 16 => [300026]
  | 17 => [100018, 400054]
  | 18 => [300020]
  | 20 => [400007]
  | 25 => [5, 6, 7]
  | 30 => [5]
  | 32 => [8, 4]
  | 33 => [24]
  | 3 => [16]
  | 5 => [18]
  | 6 => [18, 200042, 600083]
  | 63 => [400101]
  | _ => []
def effT : FuncId → List Nat
  | 3 => [9, 14, 34, 48, 50, 60, 68, 74, 78, 500092]
  | 4 => [18, 91, 102, 124]
  | 5 => [11, 16, 20, 22, 40, 44, 60, 62, 72, 80, 82, 84, 500086, 500094, 500104, 500106, 500111]
  | 6 => [10, 15, 17, 36, 46, 58, 60, 500064, 500078, 500090, 500092, 500096]
  | 7 => [16, 73, 103]
  | 8 => [15, 22, 43, 73]
  | 9 => [10, 15, 16, 18, 20, 32, 38, 41, 500043, 500045, 500049, 500051, 500056, 500058, 500063, 65, 500070, 500076, 500078, 500083, 500085, 500090, 500092]
  | 10 => [18, 19, 20, 32, 34, 36, 38, 40, 42, 55, 56, 500085, 500091, 500097, 500103, 500108, 500110, 500124, 500135, 500137, 138, 500142, 144]
  | 17 => [59]
  | 25 => [11]
  | 30 => [11]
  | 32 => [500010, 12, 15, 17]
  | 33 => [17, 19]
  | 34 => [26]
  | 36 => [6]
  | 41 => [3, 8, 13, 15, 17]
  | 46 => [79]
  | _ => []
set_option maxRecDepth 1000000 in
theorem tr3 : trF Tryd.prog heapT effT drawOk 3 = some _root_.Ch55.c3 := by kernel_rfl
set_option maxRecDepth 1000000 in
theorem tr4 : trF Tryd.prog heapT effT drawOk 4 = some _root_.Ch55.c4 := by kernel_rfl
set_option maxRecDepth 1000000 in
theorem tr5 : trF Tryd.prog heapT effT drawOk 5 = some _root_.Ch55.c5 := by kernel_rfl
set_option maxRecDepth 1000000 in
theorem tr6 : trF Tryd.prog heapT effT drawOk 6 = some _root_.Ch55.c6 := by kernel_rfl
set_option maxRecDepth 1000000 in
theorem tr7 : trF Tryd.prog heapT effT drawOk 7 = some _root_.Ch55.c7 := by kernel_rfl
set_option maxRecDepth 1000000 in
theorem tr8 : trF Tryd.prog heapT effT drawOk 8 = some _root_.Ch55.c8 := by kernel_rfl
set_option maxRecDepth 1000000 in
theorem tr9 : trF Tryd.prog heapT effT drawOk 9 = some _root_.Ch55.c9 := by kernel_rfl
set_option maxRecDepth 1000000 in
theorem tr10 : trF Tryd.prog heapT effT drawOk 10 = some _root_.Ch55.c10 := by kernel_rfl
set_option maxRecDepth 1000000 in
theorem tr11 : trF Tryd.prog heapT effT drawOk 11 = some _root_.Ch55.c11 := by kernel_rfl
set_option maxRecDepth 1000000 in
theorem tr12 : trF Tryd.prog heapT effT drawOk 12 = some _root_.Ch55.c12 := by kernel_rfl
set_option maxRecDepth 1000000 in
theorem tr13 : trF Tryd.prog heapT effT drawOk 13 = some _root_.Ch55.c13 := by kernel_rfl
set_option maxRecDepth 1000000 in
theorem tr14 : trF Tryd.prog heapT effT drawOk 14 = some _root_.Ch55.c14 := by kernel_rfl
set_option maxRecDepth 1000000 in
theorem tr15 : trF Tryd.prog heapT effT drawOk 15 = some _root_.Ch55.c15 := by kernel_rfl
set_option maxRecDepth 1000000 in
theorem tr16 : trF Tryd.prog heapT effT drawOk 16 = some _root_.Ch55.c16 := by kernel_rfl
set_option maxRecDepth 1000000 in
theorem tr17 : trF Tryd.prog heapT effT drawOk 17 = some _root_.Ch55.c17 := by kernel_rfl
set_option maxRecDepth 1000000 in
theorem tr18 : trF Tryd.prog heapT effT drawOk 18 = some _root_.Ch55.c18 := by kernel_rfl
set_option maxRecDepth 1000000 in
theorem tr19 : trF Tryd.prog heapT effT drawOk 19 = some _root_.Ch55.c19 := by kernel_rfl
set_option maxRecDepth 1000000 in
theorem tr20 : trF Tryd.prog heapT effT drawOk 20 = some _root_.Ch55.c20 := by kernel_rfl
set_option maxRecDepth 1000000 in
theorem tr21 : trF Tryd.prog heapT effT drawOk 21 = some _root_.Ch55.c21 := by kernel_rfl
set_option maxRecDepth 1000000 in
theorem tr22 : trF Tryd.prog heapT effT drawOk 22 = some _root_.Ch55.c22 := by kernel_rfl
set_option maxRecDepth 1000000 in
theorem tr23 : trF Tryd.prog heapT effT drawOk 23 = some _root_.Ch55.c23 := by kernel_rfl
set_option maxRecDepth 1000000 in
theorem tr24 : trF Tryd.prog heapT effT drawOk 24 = some _root_.Ch55.c24 := by kernel_rfl
set_option maxRecDepth 1000000 in
theorem tr25 : trF Tryd.prog heapT effT drawOk 25 = some _root_.Ch55.c25 := by kernel_rfl
set_option maxRecDepth 1000000 in
theorem tr26 : trF Tryd.prog heapT effT drawOk 26 = some _root_.Ch55.c26 := by kernel_rfl
set_option maxRecDepth 1000000 in
theorem tr27 : trF Tryd.prog heapT effT drawOk 27 = some _root_.Ch55.c27 := by kernel_rfl
set_option maxRecDepth 1000000 in
theorem tr28 : trF Tryd.prog heapT effT drawOk 28 = some _root_.Ch55.c28 := by kernel_rfl
set_option maxRecDepth 1000000 in
theorem tr29 : trF Tryd.prog heapT effT drawOk 29 = some _root_.Ch55.c29 := by kernel_rfl
set_option maxRecDepth 1000000 in
theorem tr30 : trF Tryd.prog heapT effT drawOk 30 = some _root_.Ch55.c30 := by kernel_rfl
set_option maxRecDepth 1000000 in
theorem tr31 : trF Tryd.prog heapT effT drawOk 31 = some _root_.Ch55.c31 := by kernel_rfl
set_option maxRecDepth 1000000 in
theorem tr32 : trF Tryd.prog heapT effT drawOk 32 = some _root_.Ch55.c32 := by kernel_rfl
set_option maxRecDepth 1000000 in
theorem tr33 : trF Tryd.prog heapT effT drawOk 33 = some _root_.Ch55.c33 := by kernel_rfl
end Go.Proofs.YtgmhcmmdfejcmaaDoor
