/- Chapter 12: what its functions compute. -/
import Derived.Test.YtmncbcgcahfdcaaDoorC12j
namespace Go.Vm.Ch12
open _root_.Ch12 (T12)
set_option maxRecDepth 10000
set_option maxHeartbeats 8000000
/-! ### the reference's token -/
/-- The reference's test of a number is the program's. -/
theorem bad_iff {x : List UInt8} (h1 : (nd x).length ≠ 0) : ∃ y, (x.drop (sgn x)).head? = some y ∧
    (numBad x = true ↔ (partAt x (nE x) = true ∨ (y = 48 ∧ (1 < (nd x).length ∨ sgn x = 1)))) := by
  obtain ⟨y, hy⟩ : ∃ y, (x.drop (sgn x)).head? = some y := by
    cases hq : x.drop (sgn x) with
    | nil => exact absurd (by unfold nd; rw [hq]; rfl) h1
    | cons y r => exact ⟨y, rfl⟩
  refine ⟨y, hy, ?_⟩
  unfold numBad
  rw [hy, num_text]
  have hnd : ∃ D, nd x = y :: D := by
    have e : nd x = (x.drop (sgn x)).takeWhile dg := rfl
    cases hq : x.drop (sgn x) with
    | nil => rw [hq] at hy; simp at hy
    | cons z r =>
      rw [hq] at hy e
      simp only [List.head?_cons, Option.some.injEq] at hy
      subst hy
      rw [List.takeWhile_cons] at e
      split at e
      · exact ⟨_, e⟩
      · rw [e] at h1; exact absurd rfl h1
  obtain ⟨D, hD⟩ := hnd
  have hl : (nd x).length = D.length + 1 := by rw [hD]; rfl
  rcases sgn_text x with ⟨s1, s2, r, s3⟩ | ⟨s1, s2⟩
  · rw [s2, s1, hD]
    simp only [Bool.or_eq_true, decide_eq_true_eq, Bool.and_eq_true, Option.some.injEq, List.cons_append, List.nil_append, List.cons.injEq, true_and, List.length_cons]
    constructor
    · rintro (((h | h) | h) | h)
      · omega
      · exact .inl h
      · exact .inr ⟨h.2, .inl h.1⟩
      · exact .inr ⟨h.1, .inr trivial⟩
    · rintro (h | ⟨h, h2 | h2⟩)
      · exact .inl (.inl (.inr h))
      · exact .inl (.inr ⟨h2, h⟩)
      · by_cases hD0 : D = []
        · exact .inr ⟨h, hD0⟩
        · exact .inl (.inr ⟨by have := List.length_pos_iff.2 hD0; omega, h⟩)
  · rw [s2, s1, hD]
    simp only [Bool.or_eq_true, decide_eq_true_eq, Bool.and_eq_true, Option.some.injEq, List.nil_append, List.cons.injEq, List.length_cons]
    constructor
    · rintro (((h | h) | h) | h)
      · omega
      · exact .inl h
      · exact .inr ⟨h.2, .inl h.1⟩
      · have hy45 : y = 45 := h.1
        have hdg := nd_dig x y (by rw [hD]; simp)
        rw [hy45] at hdg
        exact absurd hdg (by decide)
    · rintro (h | ⟨h, h2 | h2⟩)
      · exact .inl (.inl (.inr h))
      · exact .inl (.inr ⟨h2, h⟩)
      · omega
end Go.Vm.Ch12
