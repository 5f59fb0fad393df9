/- Chapter 10: what its functions compute. -/
import Derived.Test.YtmncbcgcahfdcaaGreatDoorC10xd
namespace Go.Vm.Ch10.Aw
open _root_.Ch10 (T10 c9)
set_option maxRecDepth 100000
set_option maxHeartbeats 16000000
theorem o4 : m2[4]? = some (some (LObj.cells false [(.vec none true [(.agg [(.int .i64 1), (.str [115, 116, 111, 110, 101]), (.int .i64 0), (.int .i64 3)]), (.agg [(.int .i64 1), (.str [97]), (.int .i64 0), (.int .i64 9)]), (.agg [(.int .i64 2), (.str []), (.int .i64 100), (.int .i64 11)])]), (.bool false), (.vec none false []), (.int .i64 2), (.vec none true [(.agg [(.int .i64 1), (.str [115, 116, 111, 110, 101]), (.int .i64 0), (.int .i64 3)]), (.agg [(.int .i64 1), (.str [98]), (.int .i64 0), (.int .i64 9)]), (.agg [(.int .i64 2), (.str []), (.int .i64 120), (.int .i64 11)])]), (.bool false), (.vec none false []), (.int .i64 3)])) := rfl
theorem o5 : m2[5]? = some (some (LObj.cells false [(.vec none true [(.agg [(.int .i64 1), (.str [119, 97, 108, 108]), (.int .i64 0), (.int .i64 1)]), (.agg [(.int .i64 1), (.str [115, 111, 117, 116, 104]), (.int .i64 0), (.int .i64 6)])]), (.bool true), (.row (.mem 4) 0 2), (.int .i64 1), (.vec none true [(.agg [(.int .i64 1), (.str [110, 111, 116, 101]), (.int .i64 0), (.int .i64 1)])]), (.bool false), (.vec none false []), (.int .i64 4)])) := rfl
theorem awake10 : callL T10 9 [] [] = some (.bool true, m10) := by
  have g1 := h1
  have g2 := h2
  simp only [src1, v1] at g1
  simp only [src2, v2] at g2
  have g3 := h3
  have g4 := h4
  have g5 := h5
  have g6 := h6
  have g7 := h7
  have g8 := h8
  have g9 := h9
  have g10 := h10
  have g11 := h11
  have g12 := h12
  simp only [kv, v3, ln] at g3 g4 g5 g6 g7 g8 g9 g10 g11 g12
  simp only [v4, v5, v6, v7, v8, v9, v10] at g4 g5 g6 g7 g8 g9 g10
  apply callL_body (vf := c9) rfl rfl
  simp [c9, g1, g2, o4, o5, g3, g4, g5, g6, g7, g8, g9, g10, g11, g12, memO, objCells, -et_def]
theorem awake : ∃ m, callL T10 9 [] [] = some (.bool true, m) := ⟨_, awake10⟩
theorem awake0 : ∃ m, 0 < m.length ∧ callL T10 9 [] [] = some (.bool true, m) := ⟨_, by decide, awake10⟩
end Go.Vm.Ch10.Aw
