/- Chapter 55: what its functions compute. -/
import Derived.Test.YtgmhcmmdfejcmaaDoorC55n
namespace Go.Vm.Ch55
open _root_.Ch55 (T55 c4)
set_option maxRecDepth 10000
set_option maxHeartbeats 16000000
theorem law4 (h r : List UInt8) (P : List (List UInt8)) (nn : Bool) (d : List UInt8) (hl : inL P.length) (hlh : inL h.length) (hlr : inL r.length) (hld : inL d.length) : ∃ m, callL T55 4 [.str h, .str r, sv nn P, .str d] [] = some (.bool true, m) := by
  obtain ⟨m0, hw⟩ := awake
  have h21 := q21 P nn 40 hl []
  unfold inL at hlh hlr hld
  refine callL_ex (vf := c4) rfl rfl ?_
  by_cases a1 : (60 : Int) < h.length
  · simp [c4, hw, a1]
  by_cases a2 : (5000 : Int) < r.length
  · simp [c4, hw, a1, a2]
  by_cases a3 : smlS P 40 = true
  rotate_left
  · rw [Bool.not_eq_true] at a3
    rw [a3] at h21
    simp [c4, hw, a1, a2, h21]
  rw [a3] at h21
  by_cases a4 : (5000 : Int) < d.length
  · simp [c4, hw, a1, a2, h21, a4]
  have hP : P.length ≤ (40 : Int) ∧ sumS P ≤ 5000 := by simpa [smlS] using a3
  have hPr : ∀ x ∈ P, x.length ≤ 100000 := fun x hx => by have := sumS_mem hx; omega
  have h22 := q22 h r (by omega) []
  have h25 := q25 d (by omega) m0
  have h26 := q26 d (by omega) []
  have h27 := q27 P nn (by omega) hPr
  have h28 := q28 P nn (by omega) hPr []
  have hs := scanA_small d
  have h29 := q29 _ _ [] _ _ (StrSl.vec (!(recs (scanA d)).isEmpty) [] (recs (scanA d))) (StrSl.vec true [] (recs (scanA d))) (by simp [recs]; omega)
  have h30 := q30 d h (by omega)
  have h31 := q31 d h (by omega) []
  rw [decide_eq_true rfl] at h29
  generalize scM m0 (recs (scanA d)) (used d) (hed d) = m1 at *
  generalize recs (scanA d) = R at *
  generalize used d = U at *
  generalize hed d = H at *
  generalize ext d h = X at *
  by_cases b1 : h.length = 16
  rotate_left
  · have b1' : ¬ (h.length : Int) = 16 := by omega
    rw [if_neg b1] at h22
    simp [c4, hw, a1, a2, h21, a4, h22, b1', h25, h26, h27, h28, h29, h30, h31]
  rw [if_pos b1] at h22
  have b1' : (h.length : Int) = 16 := by omega
  by_cases b2 : r.length ≤ 1000
  rotate_left
  · have b2' : (1000 : Int) < r.length := by omega
    rw [if_neg b2] at h22
    simp [c4, hw, a2, h21, a4, h22, b1', b2', h25, h26, h27, h28, h29, h30, h31]
  rw [if_pos b2] at h22
  have b2' : ¬ (1000 : Int) < r.length := by omega
  have h23 := q23 h r (by omega) b2 []
  have h24 := q24 h r (by omega) []
  generalize frm h r = F at *
  generalize nxt h r = N at *
  simp [c4, hw, a2, h21, a4, h22, b1', b2', h23, h24, h25, h26, h27, h28, h29, h30, h31]
end Go.Vm.Ch55
