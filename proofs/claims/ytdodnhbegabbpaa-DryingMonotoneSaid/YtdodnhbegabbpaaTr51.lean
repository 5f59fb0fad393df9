/- Each literal is the translation of the given function. -/
import Derived.Test.YtdodnhbegabbpaaProg
import Derived.Test.YtdodnhbegabbpaaL51
import Derived.Test.YtdodnhbegabbpaaVE
import Derived.KernelRfl
namespace Go.Proofs.Ytdodnhbegabbpaa
open Go.Vm
def heap51 : FuncId → List Nat
  | 58 => [5, 7]
  | 42 => [100021]
  | 28 => [100016]
  | _ => []
def eff51 : FuncId → List Nat
  | 3 => [16] | 4 => [12, 33] | 5 => [10] | 6 => [12, 28] | 7 => [20] | 8 => [13, 29, 38] | 9 => [15, 81] | 10 => [14, 38, 54]
  | 11 => [40, 46] | 24 => [19] | 31 => [22] | 42 => [17, 19] | 59 => [8] | 69 => [18, 27, 43, 60] | 72 => [191, 205, 219] | 74 => [31, 46, 57]
  | _ => []
theorem tr3 : trF Try.prog heap51 eff51 drawOk 3 = some _root_.Ch51.c3 := by kernel_rfl
theorem tr4 : trF Try.prog heap51 eff51 drawOk 4 = some _root_.Ch51.c4 := by kernel_rfl
theorem tr5 : trF Try.prog heap51 eff51 drawOk 5 = some _root_.Ch51.c5 := by kernel_rfl
theorem tr6 : trF Try.prog heap51 eff51 drawOk 6 = some _root_.Ch51.c6 := by kernel_rfl
theorem tr7 : trF Try.prog heap51 eff51 drawOk 7 = some _root_.Ch51.c7 := by kernel_rfl
theorem tr8 : trF Try.prog heap51 eff51 drawOk 8 = some _root_.Ch51.c8 := by kernel_rfl
theorem tr9 : trF Try.prog heap51 eff51 drawOk 9 = some _root_.Ch51.c9 := by kernel_rfl
theorem tr10 : trF Try.prog heap51 eff51 drawOk 10 = some _root_.Ch51.c10 := by kernel_rfl
theorem tr11 : trF Try.prog heap51 eff51 drawOk 11 = some _root_.Ch51.c11 := by kernel_rfl
theorem tr12 : trF Try.prog heap51 eff51 drawOk 12 = some _root_.Ch51.c12 := by kernel_rfl
theorem tr13 : trF Try.prog heap51 eff51 drawOk 13 = some _root_.Ch51.c13 := by kernel_rfl
theorem tr14 : trF Try.prog heap51 eff51 drawOk 14 = some _root_.Ch51.c14 := by kernel_rfl
theorem tr15 : trF Try.prog heap51 eff51 drawOk 15 = some _root_.Ch51.c15 := by kernel_rfl
theorem tr16 : trF Try.prog heap51 eff51 drawOk 16 = some _root_.Ch51.c16 := by kernel_rfl
theorem tr17 : trF Try.prog heap51 eff51 drawOk 17 = some _root_.Ch51.c17 := by kernel_rfl
theorem tr18 : trF Try.prog heap51 eff51 drawOk 18 = some _root_.Ch51.c18 := by kernel_rfl
theorem tr19 : trF Try.prog heap51 eff51 drawOk 19 = some _root_.Ch51.c19 := by kernel_rfl
theorem tr20 : trF Try.prog heap51 eff51 drawOk 20 = some _root_.Ch51.c20 := by kernel_rfl
theorem tr21 : trF Try.prog heap51 eff51 drawOk 21 = some _root_.Ch51.c21 := by kernel_rfl
theorem tr22 : trF Try.prog heap51 eff51 drawOk 22 = some _root_.Ch51.c22 := by kernel_rfl
theorem tr23 : trF Try.prog heap51 eff51 drawOk 23 = some _root_.Ch51.c23 := by kernel_rfl
theorem tr24 : trF Try.prog heap51 eff51 drawOk 24 = some _root_.Ch51.c24 := by kernel_rfl
theorem tr25 : trF Try.prog heap51 eff51 drawOk 25 = some _root_.Ch51.c25 := by kernel_rfl
theorem tr26 : trF Try.prog heap51 eff51 drawOk 26 = some _root_.Ch51.c26 := by kernel_rfl
theorem tr27 : trF Try.prog heap51 eff51 drawOk 27 = some _root_.Ch51.c27 := by kernel_rfl
theorem tr28 : trF Try.prog heap51 eff51 drawOk 28 = some _root_.Ch51.c28 := by kernel_rfl
theorem tr29 : trF Try.prog heap51 eff51 drawOk 29 = some _root_.Ch51.c29 := by kernel_rfl
theorem tr30 : trF Try.prog heap51 eff51 drawOk 30 = some _root_.Ch51.c30 := by kernel_rfl
theorem tr31 : trF Try.prog heap51 eff51 drawOk 31 = some _root_.Ch51.c31 := by kernel_rfl
theorem tr32 : trF Try.prog heap51 eff51 drawOk 32 = some _root_.Ch51.c32 := by kernel_rfl
theorem tr33 : trF Try.prog heap51 eff51 drawOk 33 = some _root_.Ch51.c33 := by kernel_rfl
theorem tr34 : trF Try.prog heap51 eff51 drawOk 34 = some _root_.Ch51.c34 := by kernel_rfl
theorem tr35 : trF Try.prog heap51 eff51 drawOk 35 = some _root_.Ch51.c35 := by kernel_rfl
theorem tr36 : trF Try.prog heap51 eff51 drawOk 36 = some _root_.Ch51.c36 := by kernel_rfl
theorem tr37 : trF Try.prog heap51 eff51 drawOk 37 = some _root_.Ch51.c37 := by kernel_rfl
theorem tr38 : trF Try.prog heap51 eff51 drawOk 38 = some _root_.Ch51.c38 := by kernel_rfl
theorem tr39 : trF Try.prog heap51 eff51 drawOk 39 = some _root_.Ch51.c39 := by kernel_rfl
theorem tr40 : trF Try.prog heap51 eff51 drawOk 40 = some _root_.Ch51.c40 := by kernel_rfl
theorem tr41 : trF Try.prog heap51 eff51 drawOk 41 = some _root_.Ch51.c41 := by kernel_rfl
theorem tr42 : trF Try.prog heap51 eff51 drawOk 42 = some _root_.Ch51.c42 := by kernel_rfl
theorem tr43 : trF Try.prog heap51 eff51 drawOk 43 = some _root_.Ch51.c43 := by kernel_rfl
theorem tr44 : trF Try.prog heap51 eff51 drawOk 44 = some _root_.Ch51.c44 := by kernel_rfl
theorem tr45 : trF Try.prog heap51 eff51 drawOk 45 = some _root_.Ch51.c45 := by kernel_rfl
theorem tr46 : trF Try.prog heap51 eff51 drawOk 46 = some _root_.Ch51.c46 := by kernel_rfl
theorem tr47 : trF Try.prog heap51 eff51 drawOk 47 = some _root_.Ch51.c47 := by kernel_rfl
theorem tr48 : trF Try.prog heap51 eff51 drawOk 48 = some _root_.Ch51.c48 := by kernel_rfl
theorem tr49 : trF Try.prog heap51 eff51 drawOk 49 = some _root_.Ch51.c49 := by kernel_rfl
theorem tr50 : trF Try.prog heap51 eff51 drawOk 50 = some _root_.Ch51.c50 := by kernel_rfl
theorem tr51 : trF Try.prog heap51 eff51 drawOk 51 = some _root_.Ch51.c51 := by kernel_rfl
theorem tr52 : trF Try.prog heap51 eff51 drawOk 52 = some _root_.Ch51.c52 := by kernel_rfl
theorem tr53 : trF Try.prog heap51 eff51 drawOk 53 = some _root_.Ch51.c53 := by kernel_rfl
theorem tr54 : trF Try.prog heap51 eff51 drawOk 54 = some _root_.Ch51.c54 := by kernel_rfl
theorem tr55 : trF Try.prog heap51 eff51 drawOk 55 = some _root_.Ch51.c55 := by kernel_rfl
theorem tr56 : trF Try.prog heap51 eff51 drawOk 56 = some _root_.Ch51.c56 := by kernel_rfl
theorem tr57 : trF Try.prog heap51 eff51 drawOk 57 = some _root_.Ch51.c57 := by kernel_rfl
theorem tr58 : trF Try.prog heap51 eff51 drawOk 58 = some _root_.Ch51.c58 := by kernel_rfl
theorem tr59 : trF Try.prog heap51 eff51 drawOk 59 = some _root_.Ch51.c59 := by kernel_rfl
theorem tr60 : trF Try.prog heap51 eff51 drawOk 60 = some _root_.Ch51.c60 := by kernel_rfl
theorem tr61 : trF Try.prog heap51 eff51 drawOk 61 = some _root_.Ch51.c61 := by kernel_rfl
theorem tr62 : trF Try.prog heap51 eff51 drawOk 62 = some _root_.Ch51.c62 := by kernel_rfl
theorem tr63 : trF Try.prog heap51 eff51 drawOk 63 = some _root_.Ch51.c63 := by kernel_rfl
theorem tr64 : trF Try.prog heap51 eff51 drawOk 64 = some _root_.Ch51.c64 := by kernel_rfl
theorem tr65 : trF Try.prog heap51 eff51 drawOk 65 = some _root_.Ch51.c65 := by kernel_rfl
theorem tr66 : trF Try.prog heap51 eff51 drawOk 66 = some _root_.Ch51.c66 := by kernel_rfl
theorem tr67 : trF Try.prog heap51 eff51 drawOk 67 = some _root_.Ch51.c67 := by kernel_rfl
theorem tr68 : trF Try.prog heap51 eff51 drawOk 68 = some _root_.Ch51.c68 := by kernel_rfl
theorem tr69 : trF Try.prog heap51 eff51 drawOk 69 = some _root_.Ch51.c69 := by kernel_rfl
theorem tr70 : trF Try.prog heap51 eff51 drawOk 70 = some _root_.Ch51.c70 := by kernel_rfl
theorem tr71 : trF Try.prog heap51 eff51 drawOk 71 = some _root_.Ch51.c71 := by kernel_rfl
theorem tr72 : trF Try.prog heap51 eff51 drawOk 72 = some _root_.Ch51.c72 := by kernel_rfl
theorem tr73 : trF Try.prog heap51 eff51 drawOk 73 = some _root_.Ch51.c73 := by kernel_rfl
theorem tr74 : trF Try.prog heap51 eff51 drawOk 74 = some _root_.Ch51.c74 := by kernel_rfl
theorem tr75 : trF Try.prog heap51 eff51 drawOk 75 = some _root_.Ch51.c75 := by kernel_rfl
theorem tr_all (f : FuncId) (vf : VF) (h : _root_.Ch51.T51 f = some vf) : trF Try.prog heap51 eff51 drawOk f = some vf := by
  unfold _root_.Ch51.T51 at h
  split at h
  · rw [← h]; exact tr3
  · rw [← h]; exact tr4
  · rw [← h]; exact tr5
  · rw [← h]; exact tr6
  · rw [← h]; exact tr7
  · rw [← h]; exact tr8
  · rw [← h]; exact tr9
  · rw [← h]; exact tr10
  · rw [← h]; exact tr11
  · rw [← h]; exact tr12
  · rw [← h]; exact tr13
  · rw [← h]; exact tr14
  · rw [← h]; exact tr15
  · rw [← h]; exact tr16
  · rw [← h]; exact tr17
  · rw [← h]; exact tr18
  · rw [← h]; exact tr19
  · rw [← h]; exact tr20
  · rw [← h]; exact tr21
  · rw [← h]; exact tr22
  · rw [← h]; exact tr23
  · rw [← h]; exact tr24
  · rw [← h]; exact tr25
  · rw [← h]; exact tr26
  · rw [← h]; exact tr27
  · rw [← h]; exact tr28
  · rw [← h]; exact tr29
  · rw [← h]; exact tr30
  · rw [← h]; exact tr31
  · rw [← h]; exact tr32
  · rw [← h]; exact tr33
  · rw [← h]; exact tr34
  · rw [← h]; exact tr35
  · rw [← h]; exact tr36
  · rw [← h]; exact tr37
  · rw [← h]; exact tr38
  · rw [← h]; exact tr39
  · rw [← h]; exact tr40
  · rw [← h]; exact tr41
  · rw [← h]; exact tr42
  · rw [← h]; exact tr43
  · rw [← h]; exact tr44
  · rw [← h]; exact tr45
  · rw [← h]; exact tr46
  · rw [← h]; exact tr47
  · rw [← h]; exact tr48
  · rw [← h]; exact tr49
  · rw [← h]; exact tr50
  · rw [← h]; exact tr51
  · rw [← h]; exact tr52
  · rw [← h]; exact tr53
  · rw [← h]; exact tr54
  · rw [← h]; exact tr55
  · rw [← h]; exact tr56
  · rw [← h]; exact tr57
  · rw [← h]; exact tr58
  · rw [← h]; exact tr59
  · rw [← h]; exact tr60
  · rw [← h]; exact tr61
  · rw [← h]; exact tr62
  · rw [← h]; exact tr63
  · rw [← h]; exact tr64
  · rw [← h]; exact tr65
  · rw [← h]; exact tr66
  · rw [← h]; exact tr67
  · rw [← h]; exact tr68
  · rw [← h]; exact tr69
  · rw [← h]; exact tr70
  · rw [← h]; exact tr71
  · rw [← h]; exact tr72
  · rw [← h]; exact tr73
  · rw [← h]; exact tr74
  · rw [← h]; exact tr75
  · cases h
end Go.Proofs.Ytdodnhbegabbpaa
