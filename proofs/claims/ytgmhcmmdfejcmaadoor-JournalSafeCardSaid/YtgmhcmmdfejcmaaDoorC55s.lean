/- Chapter 55: what its functions compute. -/
import Derived.Test.YtgmhcmmdfejcmaaDoorC55r
namespace Go.Vm.Ch55
open _root_.Ch55 (T55 c49 c34 c36 c37 c38 c40)
set_option maxRecDepth 10000
set_option maxHeartbeats 8000000
/-! ### journals -/
/-- Where the record n ends. -/
def endN (R : List (List UInt8)) (n : Nat) : Nat := (frs zero16 (R.take (n + 1))).length
def ends (R : List (List UInt8)) : List Int := (List.range R.length).map fun n => ((endN R n : Nat) : Int)
abbrev jO (k : Nat) (R : List (List UInt8)) (h : List UInt8) : Option LObj := some (.cells false [.ptr (.mem k) 0, ov 1 AV.str R, ov 1 (AV.int .i64) (ends R), .str h])
theorem endN_snoc {R : List (List UInt8)} {r : List UInt8} {n : Nat} (h : n < R.length) : endN (R ++ [r]) n = endN R n := by
  unfold endN; rw [List.take_append_of_le_length (by omega)]
theorem ends_snoc (R : List (List UInt8)) (r : List UInt8) : ends (R ++ [r]) = ends R ++ [((frs zero16 (R ++ [r])).length : Int)] := by
  unfold ends
  simp only [List.length_append, List.length_singleton, List.range_succ, List.map_append, List.map_cons, List.map_nil]
  congr 1
  · refine List.map_congr_left fun n hn => ?_
    rw [endN_snoc (List.mem_range.1 hn)]
  · have : (R ++ [r]).take (R.length + 1) = R ++ [r] := List.take_of_length_le (by simp)
    simp [endN, this]
theorem ends_len (R : List (List UInt8)) : (ends R).length = R.length := by simp [ends]
theorem ends_get (R : List (List UInt8)) {n : Nat} (h : n < (ends R).length) : (ends R)[n] = ((endN R n : Nat) : Int) := by simp [ends]
/-- The state while a journal is opened. -/
def opM (m : Mem) (k : Nat) (R : List (List UInt8)) : Mem := m ++ [jO k R (chn R), cel (AV.int IntKind.i64 (frs zero16 R).length)]
theorem q49 (m : Mem) (k : Nat) (R : List (List UInt8)) (hR : R.length ≤ 100000) (r : List UInt8) (u : Nat) (h : List UInt8) (hu : u = (frs zero16 (R ++ [r])).length) (hh : h = chn (R ++ [r])) :
    callL T55 49 [.str r, AV.int IntKind.i64 u, .str h, .vptr [.ptr (.mem m.length) 0] 0, .ptr (.mem (m.length + 1)) 0] (opM m k R) = some (.bool true, opM m k (R ++ [r])) := by
  have he := ends_snoc R r
  have hl := ends_len R
  unfold opM jO
  rw [← hu, ← hh]
  rw [← hu] at he
  generalize chn R = C at *
  generalize (frs zero16 R).length = F at *
  generalize ends (R ++ [r]) = E2 at *
  generalize ends R = E at *
  apply callL_body (vf := c49) rfl rfl
  simp [c49, objCells, ov_snoc, he]
  omega
end Go.Vm.Ch55
