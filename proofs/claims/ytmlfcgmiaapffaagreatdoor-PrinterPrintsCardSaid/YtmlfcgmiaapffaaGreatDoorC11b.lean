/- Chapter 11: what its functions compute. -/
import Derived.Test.YtmlfcgmiaapffaaGreatDoorC11a
namespace Go.Vm.Ch11
open _root_.Ch11 (T11 c96 c103 c101 c98 c117 c100)
set_option maxRecDepth 10000
set_option maxHeartbeats 4000000
/-- What a function of one byte answers, looked at for all bytes. -/
def chkB (f : FuncId) (p : Nat → Bool) : Bool := (List.range 256).all fun c => match callN T11 60 f [.int .u8 c] [] with
  | some (.bool b, []) => b == p c
  | _ => false
theorem byte_of {f : FuncId} {p : Nat → Bool} (h : chkB f p = true) (c : UInt8) : callL T11 f [.int .u8 c.toNat] [] = some (.bool (p c.toNat), []) := by
  unfold chkB at h
  rw [List.all_eq_true] at h
  have h1 := h c.toNat (List.mem_range.2 c.toNat_lt)
  split at h1
  · rename_i b hb
    have : b = p c.toNat := by simpa using h1
    rw [← this]; exact callL_of hb
  · simp at h1
def letterN (n : Nat) : Bool := decide ((97 ≤ n ∧ n ≤ 122) ∨ (65 ≤ n ∧ n ≤ 90))
def partN (n : Nat) : Bool := decide ((48 ≤ n ∧ n ≤ 57) ∨ (97 ≤ n ∧ n ≤ 122) ∨ (65 ≤ n ∧ n ≤ 90) ∨ n = 95)
def labN (n : Nat) : Bool := decide (32 ≤ n ∧ n ≤ 126 ∧ n ≠ 34)
theorem q98 (c : UInt8) : callL T11 98 [.int .u8 c.toNat] [] = some (.bool (letterN c.toNat), []) := byte_of (by kernel_rfl) c
theorem q101 (c : UInt8) : callL T11 101 [.int .u8 c.toNat] [] = some (.bool (partN c.toNat), []) := byte_of (by kernel_rfl) c
theorem q117 (c : UInt8) : callL T11 117 [.int .u8 c.toNat] [] = some (.bool (labN c.toNat), []) := byte_of (by kernel_rfl) c
def isTrue : Option (AV × Mem) → Bool
  | some (.bool true, []) => true
  | _ => false
theorem isTrue_inv {r : Option (AV × Mem)} (h : isTrue r = true) : r = some (.bool true, []) := by
  unfold isTrue at h
  split at h
  · rfl
  · simp at h
/-- A label. -/
def labelOK (b : List UInt8) : Bool := decide (1 ≤ b.length ∧ b.length ≤ 40) && b.all (fun c => labN c.toNat) && !(b.head? == some 32) && !(b.getLast? == some 32)
end Go.Vm.Ch11
