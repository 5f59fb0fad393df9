/- Chapter 27: what its functions compute. -/
import Derived.Test.YtjlbiebejodecaaDoorC27f
namespace Go.Vm.Ch27
open _root_.Ch27 (T27 c3)
set_option maxRecDepth 10000
set_option maxHeartbeats 4000000
theorem sml_of {P : List Prt} {n : Nat} (hn : n ≤ 80) (h : ((P.length : Int) ≤ n ∧ ∀ b ∈ P, b.name.length ≤ 60)) : Sml P := ⟨by omega, h.2⟩
theorem q13' (P : List Prt) (nn : Bool) (n : Int) (hlen : (P.length : Int) ≤ 9223372036854775807) (m : Mem) : callL T27 13 [pv nn P, AV.int IntKind.i64 n] m = some (.bool (decide ((P.length : Int) ≤ n ∧ ∀ b ∈ P, b.name.length ≤ 60)), m) := q13 P nn n hlen m
theorem law3 (P : List Prt) (nn : Bool) (w h kf : Int) (hlen : (P.length : Int) ≤ 9223372036854775807) : ∃ m, callL T27 3 [pv nn P, AV.int IntKind.i64 w, AV.int IntKind.i64 h, AV.int IntKind.i64 kf] [] = some (.bool true, m) := by
  obtain ⟨m0, haw⟩ := awake
  have h13 := q13' P nn 80 hlen []
  by_cases hs : (P.length : Int) ≤ 80 ∧ ∀ b ∈ P, b.name.length ≤ 60
  rotate_left
  · refine ⟨m0, ?_⟩
    rw [decide_eq_false hs] at h13
    apply callL_body (vf := c3) rfl rfl
    simp [c3, haw, h13]
  have hsm := sml_of (n := 80) (by omega) hs
  have hl := hsm.len
  rw [decide_eq_true hs] at h13
  have h15 := q15 P nn (by omega) []
  have h14 := q14 P true w h kf hsm []
  have h16 := q16 P nn w h kf hsm []
  have h18 := q18 P true (by omega) m0
  have h19 := q19 P nn (by omega) []
  have hsl := ordV_sl P m0
  have h17 := q17 (ys := ord P) (nn := true) hsl (by rw [ord_len]; omega)
  refine ⟨ordM P m0, ?_⟩
  apply callL_body (vf := c3) rfl rfl
  simp [c3, haw, h13, h15, h14, h16, h18, h19, h17, hsl.view, hsl.nl]
end Go.Vm.Ch27
