/- Chapter 27: what its functions compute. -/
import Derived.Test.YtjlbiebejodecaaDoorC27rd
namespace Go.Vm.Ch27
open _root_.Ch27 (T27 c5)
set_option maxRecDepth 10000
set_option maxHeartbeats 8000000
theorem law5 (P : List Prt) (nn a b : Bool) (w h kf : Int) (pl : List Plc) (lf : List Int) (hlen : (P.length : Int) ≤ 9223372036854775807) (hpl : (pl.length : Int) ≤ 9223372036854775807) (hlf : (lf.length : Int) ≤ 9223372036854775807) :
    ∃ m, callL T27 5 [pv nn P, AV.int IntKind.i64 w, AV.int IntKind.i64 h, AV.int IntKind.i64 kf, lay a b pl lf] [] = some (.bool true, m) := by
  obtain ⟨m0, haw⟩ := awake
  have h13 := q13' P nn 80 hlen []
  by_cases hs : (P.length : Int) ≤ 80 ∧ ∀ b ∈ P, b.name.length ≤ 60
  rotate_left
  · refine ⟨m0, ?_⟩
    rw [decide_eq_false hs] at h13
    apply callL_body (vf := c5) rfl rfl
    simp [c5, haw, h13]
  have hsm := sml_of (n := 80) (by omega) hs
  have hl := hsm.len
  rw [decide_eq_true hs] at h13
  by_cases k1 : 100 < pl.length
  · have k1' : (100 : Int) < pl.length := by omega
    refine ⟨m0, ?_⟩
    apply callL_body (vf := c5) rfl rfl
    simp [c5, haw, h13, k1']
  have k1' : ¬ (100 : Int) < pl.length := by omega
  by_cases k2 : 100 < lf.length
  · have k2' : (100 : Int) < lf.length := by omega
    refine ⟨m0, ?_⟩
    apply callL_body (vf := c5) rfl rfl
    simp [c5, haw, h13, k1', k2']
  have k2' : ¬ (100 : Int) < lf.length := by omega
  have h15 := q15 P nn (by omega) []
  have h25 := q25 a b pl lf (by omega) []
  have h16 := q16 P nn w h kf hsm []
  obtain ⟨m1, h24⟩ := q24 P true (!pl.isEmpty) b w h kf pl lf hsm (by omega) (by omega) m0
  refine ⟨m1, ?_⟩
  by_cases hc : chk P w h kf = 0
  · obtain ⟨g1, g2, g3, g4, g5⟩ := chk_inv hc
    have h26 := q26 P nn a b w h kf pl lf hl g2 g3 g4 g5 (by omega) (by omega) []
    have hV : validB P w h kf pl lf = (useB P.length [] (ksL pl lf) && fullB (ksL pl lf) P.length && chB P w h kf none pl) := by unfold validB; rw [decide_eq_true hc, Bool.true_and]
    rw [hV] at h24
    rw [hc] at h16
    generalize (useB P.length [] (ksL pl lf) && fullB (ksL pl lf) P.length && chB P w h kf none pl) = U at *
    apply callL_body (vf := c5) rfl rfl
    simp [c5, haw, h13, k1', k2', h15, h25, h24, h16, h26]
  · have hV : validB P w h kf pl lf = false := by unfold validB; rw [decide_eq_false hc]; rfl
    rw [hV] at h24
    apply callL_body (vf := c5) rfl rfl
    simp [c5, haw, h13, k1', k2', h15, h25, h24, h16, hc]
end Go.Vm.Ch27
