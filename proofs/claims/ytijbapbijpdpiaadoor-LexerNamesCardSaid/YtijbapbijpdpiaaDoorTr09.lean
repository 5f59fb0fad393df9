/- Each literal is the translation of the given function. -/
import Derived.Test.YtijbapbijpdpiaaDoorProg
import Derived.Test.YtijbapbijpdpiaaDoorL09
import Derived.Test.YtijbapbijpdpiaaDoorVE
import Derived.KernelRfl
namespace Go.Proofs.YtijbapbijpdpiaaDoor
open Go.Vm
def heap09 : FuncId → List Nat
  | _ => []
def eff09 : FuncId → List Nat
  | _ => []
theorem tr3 : trF Tryd.prog heap09 eff09 drawOk 3 = some _root_.Ch09.c3 := by kernel_rfl
theorem tr4 : trF Tryd.prog heap09 eff09 drawOk 4 = some _root_.Ch09.c4 := by kernel_rfl
theorem tr5 : trF Tryd.prog heap09 eff09 drawOk 5 = some _root_.Ch09.c5 := by kernel_rfl
theorem tr6 : trF Tryd.prog heap09 eff09 drawOk 6 = some _root_.Ch09.c6 := by kernel_rfl
theorem tr7 : trF Tryd.prog heap09 eff09 drawOk 7 = some _root_.Ch09.c7 := by kernel_rfl
theorem tr8 : trF Tryd.prog heap09 eff09 drawOk 8 = some _root_.Ch09.c8 := by kernel_rfl
theorem tr9 : trF Tryd.prog heap09 eff09 drawOk 9 = some _root_.Ch09.c9 := by kernel_rfl
theorem tr10 : trF Tryd.prog heap09 eff09 drawOk 10 = some _root_.Ch09.c10 := by kernel_rfl
theorem tr11 : trF Tryd.prog heap09 eff09 drawOk 11 = some _root_.Ch09.c11 := by kernel_rfl
theorem tr12 : trF Tryd.prog heap09 eff09 drawOk 12 = some _root_.Ch09.c12 := by kernel_rfl
theorem tr13 : trF Tryd.prog heap09 eff09 drawOk 13 = some _root_.Ch09.c13 := by kernel_rfl
theorem tr14 : trF Tryd.prog heap09 eff09 drawOk 14 = some _root_.Ch09.c14 := by kernel_rfl
theorem tr15 : trF Tryd.prog heap09 eff09 drawOk 15 = some _root_.Ch09.c15 := by kernel_rfl
theorem tr16 : trF Tryd.prog heap09 eff09 drawOk 16 = some _root_.Ch09.c16 := by kernel_rfl
theorem tr17 : trF Tryd.prog heap09 eff09 drawOk 17 = some _root_.Ch09.c17 := by kernel_rfl
theorem tr18 : trF Tryd.prog heap09 eff09 drawOk 18 = some _root_.Ch09.c18 := by kernel_rfl
theorem tr19 : trF Tryd.prog heap09 eff09 drawOk 19 = some _root_.Ch09.c19 := by kernel_rfl
theorem tr20 : trF Tryd.prog heap09 eff09 drawOk 20 = some _root_.Ch09.c20 := by kernel_rfl
theorem tr21 : trF Tryd.prog heap09 eff09 drawOk 21 = some _root_.Ch09.c21 := by kernel_rfl
theorem tr22 : trF Tryd.prog heap09 eff09 drawOk 22 = some _root_.Ch09.c22 := by kernel_rfl
theorem tr23 : trF Tryd.prog heap09 eff09 drawOk 23 = some _root_.Ch09.c23 := by kernel_rfl
theorem tr24 : trF Tryd.prog heap09 eff09 drawOk 24 = some _root_.Ch09.c24 := by kernel_rfl
theorem tr25 : trF Tryd.prog heap09 eff09 drawOk 25 = some _root_.Ch09.c25 := by kernel_rfl
theorem tr26 : trF Tryd.prog heap09 eff09 drawOk 26 = some _root_.Ch09.c26 := by kernel_rfl
theorem tr27 : trF Tryd.prog heap09 eff09 drawOk 27 = some _root_.Ch09.c27 := by kernel_rfl
theorem tr28 : trF Tryd.prog heap09 eff09 drawOk 28 = some _root_.Ch09.c28 := by kernel_rfl
theorem tr29 : trF Tryd.prog heap09 eff09 drawOk 29 = some _root_.Ch09.c29 := by kernel_rfl
theorem tr30 : trF Tryd.prog heap09 eff09 drawOk 30 = some _root_.Ch09.c30 := by kernel_rfl
theorem tr31 : trF Tryd.prog heap09 eff09 drawOk 31 = some _root_.Ch09.c31 := by kernel_rfl
theorem tr32 : trF Tryd.prog heap09 eff09 drawOk 32 = some _root_.Ch09.c32 := by kernel_rfl
theorem tr33 : trF Tryd.prog heap09 eff09 drawOk 33 = some _root_.Ch09.c33 := by kernel_rfl
theorem tr34 : trF Tryd.prog heap09 eff09 drawOk 34 = some _root_.Ch09.c34 := by kernel_rfl
theorem tr35 : trF Tryd.prog heap09 eff09 drawOk 35 = some _root_.Ch09.c35 := by kernel_rfl
theorem tr36 : trF Tryd.prog heap09 eff09 drawOk 36 = some _root_.Ch09.c36 := by kernel_rfl
theorem tr37 : trF Tryd.prog heap09 eff09 drawOk 37 = some _root_.Ch09.c37 := by kernel_rfl
theorem tr38 : trF Tryd.prog heap09 eff09 drawOk 38 = some _root_.Ch09.c38 := by kernel_rfl
theorem tr39 : trF Tryd.prog heap09 eff09 drawOk 39 = some _root_.Ch09.c39 := by kernel_rfl
theorem tr40 : trF Tryd.prog heap09 eff09 drawOk 40 = some _root_.Ch09.c40 := by kernel_rfl
theorem tr41 : trF Tryd.prog heap09 eff09 drawOk 41 = some _root_.Ch09.c41 := by kernel_rfl
theorem tr42 : trF Tryd.prog heap09 eff09 drawOk 42 = some _root_.Ch09.c42 := by kernel_rfl
theorem tr43 : trF Tryd.prog heap09 eff09 drawOk 43 = some _root_.Ch09.c43 := by kernel_rfl
theorem tr44 : trF Tryd.prog heap09 eff09 drawOk 44 = some _root_.Ch09.c44 := by kernel_rfl
theorem tr45 : trF Tryd.prog heap09 eff09 drawOk 45 = some _root_.Ch09.c45 := by kernel_rfl
theorem tr46 : trF Tryd.prog heap09 eff09 drawOk 46 = some _root_.Ch09.c46 := by kernel_rfl
theorem tr47 : trF Tryd.prog heap09 eff09 drawOk 47 = some _root_.Ch09.c47 := by kernel_rfl
theorem tr48 : trF Tryd.prog heap09 eff09 drawOk 48 = some _root_.Ch09.c48 := by kernel_rfl
theorem tr49 : trF Tryd.prog heap09 eff09 drawOk 49 = some _root_.Ch09.c49 := by kernel_rfl
theorem tr50 : trF Tryd.prog heap09 eff09 drawOk 50 = some _root_.Ch09.c50 := by kernel_rfl
theorem tr51 : trF Tryd.prog heap09 eff09 drawOk 51 = some _root_.Ch09.c51 := by kernel_rfl
theorem tr52 : trF Tryd.prog heap09 eff09 drawOk 52 = some _root_.Ch09.c52 := by kernel_rfl
theorem tr53 : trF Tryd.prog heap09 eff09 drawOk 53 = some _root_.Ch09.c53 := by kernel_rfl
theorem tr54 : trF Tryd.prog heap09 eff09 drawOk 54 = some _root_.Ch09.c54 := by kernel_rfl
theorem tr55 : trF Tryd.prog heap09 eff09 drawOk 55 = some _root_.Ch09.c55 := by kernel_rfl
theorem tr56 : trF Tryd.prog heap09 eff09 drawOk 56 = some _root_.Ch09.c56 := by kernel_rfl
theorem tr57 : trF Tryd.prog heap09 eff09 drawOk 57 = some _root_.Ch09.c57 := by kernel_rfl
theorem tr58 : trF Tryd.prog heap09 eff09 drawOk 58 = some _root_.Ch09.c58 := by kernel_rfl
theorem tr59 : trF Tryd.prog heap09 eff09 drawOk 59 = some _root_.Ch09.c59 := by kernel_rfl
theorem tr61 : trF Tryd.prog heap09 eff09 drawOk 61 = some _root_.Ch09.c61 := by kernel_rfl
theorem tr62 : trF Tryd.prog heap09 eff09 drawOk 62 = some _root_.Ch09.c62 := by kernel_rfl
theorem tr63 : trF Tryd.prog heap09 eff09 drawOk 63 = some _root_.Ch09.c63 := by kernel_rfl
theorem tr64 : trF Tryd.prog heap09 eff09 drawOk 64 = some _root_.Ch09.c64 := by kernel_rfl
theorem tr65 : trF Tryd.prog heap09 eff09 drawOk 65 = some _root_.Ch09.c65 := by kernel_rfl
theorem tr66 : trF Tryd.prog heap09 eff09 drawOk 66 = some _root_.Ch09.c66 := by kernel_rfl
theorem tr67 : trF Tryd.prog heap09 eff09 drawOk 67 = some _root_.Ch09.c67 := by kernel_rfl
theorem tr68 : trF Tryd.prog heap09 eff09 drawOk 68 = some _root_.Ch09.c68 := by kernel_rfl
theorem tr69 : trF Tryd.prog heap09 eff09 drawOk 69 = some _root_.Ch09.c69 := by kernel_rfl
theorem tr70 : trF Tryd.prog heap09 eff09 drawOk 70 = some _root_.Ch09.c70 := by kernel_rfl
theorem tr71 : trF Tryd.prog heap09 eff09 drawOk 71 = some _root_.Ch09.c71 := by kernel_rfl
theorem tr72 : trF Tryd.prog heap09 eff09 drawOk 72 = some _root_.Ch09.c72 := by kernel_rfl
theorem tr73 : trF Tryd.prog heap09 eff09 drawOk 73 = some _root_.Ch09.c73 := by kernel_rfl
theorem tr74 : trF Tryd.prog heap09 eff09 drawOk 74 = some _root_.Ch09.c74 := by kernel_rfl
theorem tr75 : trF Tryd.prog heap09 eff09 drawOk 75 = some _root_.Ch09.c75 := by kernel_rfl
theorem tr78 : trF Tryd.prog heap09 eff09 drawOk 78 = some _root_.Ch09.c78 := by kernel_rfl
theorem tr79 : trF Tryd.prog heap09 eff09 drawOk 79 = some _root_.Ch09.c79 := by kernel_rfl
theorem tr80 : trF Tryd.prog heap09 eff09 drawOk 80 = some _root_.Ch09.c80 := by kernel_rfl
theorem tr81 : trF Tryd.prog heap09 eff09 drawOk 81 = some _root_.Ch09.c81 := by kernel_rfl
theorem tr82 : trF Tryd.prog heap09 eff09 drawOk 82 = some _root_.Ch09.c82 := by kernel_rfl
theorem tr83 : trF Tryd.prog heap09 eff09 drawOk 83 = some _root_.Ch09.c83 := by kernel_rfl
theorem tr84 : trF Tryd.prog heap09 eff09 drawOk 84 = some _root_.Ch09.c84 := by kernel_rfl
theorem tr85 : trF Tryd.prog heap09 eff09 drawOk 85 = some _root_.Ch09.c85 := by kernel_rfl
theorem tr86 : trF Tryd.prog heap09 eff09 drawOk 86 = some _root_.Ch09.c86 := by kernel_rfl
theorem tr87 : trF Tryd.prog heap09 eff09 drawOk 87 = some _root_.Ch09.c87 := by kernel_rfl
theorem tr88 : trF Tryd.prog heap09 eff09 drawOk 88 = some _root_.Ch09.c88 := by kernel_rfl
theorem tr_all (f : FuncId) (vf : VF) (h : _root_.Ch09.T09 f = some vf) : trF Tryd.prog heap09 eff09 drawOk f = some vf := by
  unfold _root_.Ch09.T09 at h
  split at h
  · rw [← h]; exact tr3
  · rw [← h]; exact tr4
  · rw [← h]; exact tr5
  · rw [← h]; exact tr6
  · rw [← h]; exact tr7
  · rw [← h]; exact tr8
  · rw [← h]; exact tr9
  · rw [← h]; exact tr10
  · rw [← h]; exact tr11
  · rw [← h]; exact tr12
  · rw [← h]; exact tr13
  · rw [← h]; exact tr14
  · rw [← h]; exact tr15
  · rw [← h]; exact tr16
  · rw [← h]; exact tr17
  · rw [← h]; exact tr18
  · rw [← h]; exact tr19
  · rw [← h]; exact tr20
  · rw [← h]; exact tr21
  · rw [← h]; exact tr22
  · rw [← h]; exact tr23
  · rw [← h]; exact tr24
  · rw [← h]; exact tr25
  · rw [← h]; exact tr26
  · rw [← h]; exact tr27
  · rw [← h]; exact tr28
  · rw [← h]; exact tr29
  · rw [← h]; exact tr30
  · rw [← h]; exact tr31
  · rw [← h]; exact tr32
  · rw [← h]; exact tr33
  · rw [← h]; exact tr34
  · rw [← h]; exact tr35
  · rw [← h]; exact tr36
  · rw [← h]; exact tr37
  · rw [← h]; exact tr38
  · rw [← h]; exact tr39
  · rw [← h]; exact tr40
  · rw [← h]; exact tr41
  · rw [← h]; exact tr42
  · rw [← h]; exact tr43
  · rw [← h]; exact tr44
  · rw [← h]; exact tr45
  · rw [← h]; exact tr46
  · rw [← h]; exact tr47
  · rw [← h]; exact tr48
  · rw [← h]; exact tr49
  · rw [← h]; exact tr50
  · rw [← h]; exact tr51
  · rw [← h]; exact tr52
  · rw [← h]; exact tr53
  · rw [← h]; exact tr54
  · rw [← h]; exact tr55
  · rw [← h]; exact tr56
  · rw [← h]; exact tr57
  · rw [← h]; exact tr58
  · rw [← h]; exact tr59
  · rw [← h]; exact tr61
  · rw [← h]; exact tr62
  · rw [← h]; exact tr63
  · rw [← h]; exact tr64
  · rw [← h]; exact tr65
  · rw [← h]; exact tr66
  · rw [← h]; exact tr67
  · rw [← h]; exact tr68
  · rw [← h]; exact tr69
  · rw [← h]; exact tr70
  · rw [← h]; exact tr71
  · rw [← h]; exact tr72
  · rw [← h]; exact tr73
  · rw [← h]; exact tr74
  · rw [← h]; exact tr75
  · rw [← h]; exact tr78
  · rw [← h]; exact tr79
  · rw [← h]; exact tr80
  · rw [← h]; exact tr81
  · rw [← h]; exact tr82
  · rw [← h]; exact tr83
  · rw [← h]; exact tr84
  · rw [← h]; exact tr85
  · rw [← h]; exact tr86
  · rw [← h]; exact tr87
  · rw [← h]; exact tr88
  · cases h
end Go.Proofs.YtijbapbijpdpiaaDoor
