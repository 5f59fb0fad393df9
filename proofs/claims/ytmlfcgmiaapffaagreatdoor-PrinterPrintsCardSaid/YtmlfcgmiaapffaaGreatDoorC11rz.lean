/- Chapter 11: what its functions compute. -/
import Derived.Test.YtmlfcgmiaapffaaGreatDoorC11ry
namespace Go.Vm.Ch11.Aw
open _root_.Ch11 (T11 c22 c11)
set_option maxRecDepth 100000
set_option maxHeartbeats 16000000
theorem h22 : callL T11 22 [.str src1] [] = some (v22, m22) := by
  have g1 := h1
  have g2 := h2
  have g3 := h3
  have g4 := h4
  simp only [v1, v2, v3, v4, kv1, src1, st2, st3] at g1 g2 g3 g4
  apply callL_body (vf := c22) rfl rfl
  simp [c22, src1, g1, g2, g3, g4, objCells, v22, m22]
theorem awake11 : callL T11 11 [] [] = some (.bool true, m13) := by
  have g22 := h22
  have g5 := h5
  have g6 := h6
  have g6b := h6b
  have g7 := h7
  have g8 := h8
  have g9 := h9
  have g10 := h10
  have g11 := h11
  have g12 := h12
  have g13 := h13
  have g14 := h14
  have g15 := h15
  have g16 := h16
  simp only [ss, List.map_cons, List.map_nil] at g5 g6 g6b g11 g16
  simp only [src1, v22, show m22 = m4 from rfl] at g22
  simp only [v5, v6, v7, v8, v9, v10, v13, kv7, nv, d5] at g5 g6 g6b g7 g8 g9 g10 g11 g12 g13 g14 g15 g16
  apply callL_body (vf := c11) rfl rfl
  simp [c11, g22, g5, g6, g6b, g7, g8, g9, g10, g11, g12, g13, g14, g15, g16, objCells]
theorem awake : ∃ m, callL T11 11 [] [] = some (.bool true, m) := ⟨_, awake11⟩
end Go.Vm.Ch11.Aw
