/- Chapter 51: what its functions compute. -/
import Derived.Test.YtdodnhbegabbpaaC51d
namespace Go.Vm.Ch51
open _root_.Ch51 (T51 c3 c7 c11)
set_option maxRecDepth 10000
set_option maxHeartbeats 4000000
theorem law3 (xs ys : List Int) (nx ny : Bool) (t mn x y z : Int) : ∃ g, callL T51 3 [rv nx ny xs ys, AV.int IntKind.i64 t, AV.int IntKind.i64 mn, .agg [AV.int IntKind.i64 x, AV.int IntKind.i64 y, AV.int IntKind.i64 z]] [] = some (.bool true, g) := by
  obtain ⟨g, haw⟩ := awake
  refine ⟨g, ?_⟩
  by_cases hs : xs.length ≤ 20 ∧ ys.length ≤ 20
  rotate_left
  · apply callL_body (vf := c3) rfl rfl
    simp [c3, haw, q12, hs]
  have h17 := fun m => q17 xs ys nx ny hs.1 hs.2 m
  have h13 := fun m => q13 xs ys nx ny hs.1 hs.2 m
  obtain ⟨v, h18, h19⟩ := stone_same x y z []
  have h14 := q14 xs ys nx ny t (chk xs ys) [] (h17 []) good_of
  have h16 := q16 xs ys nx ny mn (chk xs ys) [] (h17 []) good_of
  by_cases he : chk xs ys = 0
  rotate_left
  · simp only [he, if_false] at h14 h16
    apply callL_body (vf := c3) rfl rfl
    simp [c3, haw, q12, hs, h17, h13, h18, h19, h14, h16, q15, he]
  have hg := good_of he
  have h21 := q21 xs ys nx ny t hg
  have h22 := q22 xs ys nx ny mn hg []
  simp only [he, if_true] at h14 h16
  by_cases hm : 0 ≤ mn ∧ mn ≤ 1000000000
  · have hm1 : ¬ mn < 0 := by omega
    have hm2 : ¬ 1000000000 < mn := by omega
    simp only [hm, and_self, if_true] at h16
    by_cases h1 : tm xs ys 1 ≤ mn
    · simp only [h1, if_true] at h16 h22
      have hb : ¬ bs (fun n => decide (tm xs ys n ≤ mn)) 1 1000000 = 0 := by have := bs_ge (fun n => decide (tm xs ys n ≤ mn)) 1 1000000; omega
      generalize bs (fun n => decide (tm xs ys n ≤ mn)) 1 1000000 = B at *
      by_cases ht : 1 ≤ t ∧ t ≤ 1000000
      · have h21' := h21 ht []
        simp only [ht, and_self, if_true] at h14
        apply callL_body (vf := c3) rfl rfl
        simp [c3, haw, q12, hs, h17, h13, h18, h19, h14, h16, q15, he, q20, ht, h21', hm1, hm2, h22, hb]
      · simp only [ht, if_false] at h14
        apply callL_body (vf := c3) rfl rfl
        simp [c3, haw, q12, hs, h17, h13, h18, h19, h14, h16, q15, he, q20, ht, hm1, hm2, h22, hb]
    · simp only [h1, if_false] at h16 h22
      by_cases ht : 1 ≤ t ∧ t ≤ 1000000
      · have h21' := h21 ht []
        simp only [ht, and_self, if_true] at h14
        apply callL_body (vf := c3) rfl rfl
        simp [c3, haw, q12, hs, h17, h13, h18, h19, h14, h16, q15, he, q20, ht, h21', hm1, hm2, h22]
      · simp only [ht, if_false] at h14
        apply callL_body (vf := c3) rfl rfl
        simp [c3, haw, q12, hs, h17, h13, h18, h19, h14, h16, q15, he, q20, ht, hm1, hm2, h22]
  · simp only [hm, if_false] at h16
    have hm12 : mn < 0 ∨ 1000000000 < mn := by omega
    by_cases ht : 1 ≤ t ∧ t ≤ 1000000
    · have h21' := h21 ht []
      simp only [ht, and_self, if_true] at h14
      apply callL_body (vf := c3) rfl rfl
      by_cases hm1 : mn < 0
      · simp [c3, haw, q12, hs, h17, h13, h18, h19, h14, h16, q15, he, q20, ht, h21', hm1]
      · have hm2 : 1000000000 < mn := by omega
        simp [c3, haw, q12, hs, h17, h13, h18, h19, h14, h16, q15, he, q20, ht, h21', hm1, hm2]
    · simp only [ht, if_false] at h14
      apply callL_body (vf := c3) rfl rfl
      by_cases hm1 : mn < 0
      · simp [c3, haw, q12, hs, h17, h13, h18, h19, h14, h16, q15, he, q20, ht, hm1]
      · have hm2 : 1000000000 < mn := by omega
        simp [c3, haw, q12, hs, h17, h13, h18, h19, h14, h16, q15, he, q20, ht, hm1, hm2]
end Go.Vm.Ch51
