/- Chapter 51: what its functions compute. -/
import Derived.Test.YtdodnhbegabbpaaC51d
namespace Go.Vm.Ch51
theorem mid_range {a b c d n : Int} (h1 : a < b) (h2 : c ≤ d) (h3 : a ≤ n) (h4 : n ≤ b) :
    0 ≤ ((n - a) * (d - c) + (b - a) - 1).tdiv (b - a) ∧ ((n - a) * (d - c) + (b - a) - 1).tdiv (b - a) ≤ d - c := by
  have p0 : 0 ≤ (n - a) * (d - c) := Int.mul_nonneg (by omega) (by omega)
  have p1 : (n - a) * (d - c) ≤ (b - a) * (d - c) := Int.mul_le_mul_of_nonneg_right (by omega) (by omega)
  refine ⟨Int.tdiv_nonneg (by omega) (by omega), ?_⟩
  rw [Int.tdiv_eq_ediv_of_nonneg (by omega)]
  have h5 : (n - a) * (d - c) + (b - a) - 1 < (d - c + 1) * (b - a) := by
    have : (d - c + 1) * (b - a) = (b - a) * (d - c) + (b - a) := by rw [Int.add_mul, Int.one_mul, Int.mul_comm]
    omega
  have := Int.ediv_lt_of_lt_mul (by omega : (0 : Int) < b - a) h5
  omega
theorem mid_mono {a b c d n n' : Int} (h1 : a < b) (h2 : c ≤ d) (h3 : a ≤ n) (h4 : n ≤ n') :
    ((n - a) * (d - c) + (b - a) - 1).tdiv (b - a) ≤ ((n' - a) * (d - c) + (b - a) - 1).tdiv (b - a) := by
  have p0 : 0 ≤ (n - a) * (d - c) := Int.mul_nonneg (by omega) (by omega)
  have p1 : (n - a) * (d - c) ≤ (n' - a) * (d - c) := Int.mul_le_mul_of_nonneg_right (by omega) (by omega)
  rw [Int.tdiv_eq_ediv_of_nonneg (by omega), Int.tdiv_eq_ediv_of_nonneg (by omega)]
  exact Int.ediv_le_ediv (by omega) (by omega)
theorem mid_end {a b c d : Int} (h1 : a < b) (h2 : c ≤ d) : ((b - a) * (d - c) + (b - a) - 1).tdiv (b - a) = d - c := by
  have p0 : 0 ≤ (b - a) * (d - c) := Int.mul_nonneg (by omega) (by omega)
  rw [Int.tdiv_eq_ediv_of_nonneg (by omega)]
  have e : (b - a) * (d - c) + (b - a) - 1 = (b - a - 1) + (b - a) * (d - c) := by omega
  rw [e, Int.add_mul_ediv_left _ _ (by omega), Int.ediv_eq_zero_of_lt (by omega) (by omega)]
  omega

/-- The time, without asking whether a point is met. -/
theorem tm_eq {xs ys : List Int} (hg : Good xs ys) (n : Int) : tm xs ys n = if lb xs n = 0 then gi ys 0 else if lb xs n = xs.length then gi ys (xs.length - 1 : Nat) else mid xs ys (lb xs n) n := by
  obtain ⟨k1, k2, k3⟩ := lb_spec hg.inc n
  have hone := hg.one
  have hsame := hg.same
  unfold tm
  split
  · rename_i h
    obtain ⟨hl, he⟩ := List.getElem?_eq_some_iff.1 h
    by_cases h0 : lb xs n = 0
    · simp [h0]
    · have hne : ¬ lb xs n = xs.length := by omega
      rw [if_neg h0, if_neg hne]
      obtain ⟨j, hj⟩ : ∃ j, lb xs n = j + 1 := ⟨lb xs n - 1, by omega⟩
      have g1 : gi xs ((lb xs n : Int) - 1) = xs[j] := by rw [hj, show ((j + 1 : Nat) : Int) - 1 = (j : Nat) by omega]; exact gi_nat (by omega)
      have g2 : gi ys ((lb xs n : Int) - 1) = ys[j]'(by omega) := by rw [hj, show ((j + 1 : Nat) : Int) - 1 = (j : Nat) by omega]; exact gi_nat (by omega)
      have g3 : gi xs (lb xs n : Int) = n := by rw [gi_nat hl]; exact he
      have g4 : gi ys (lb xs n : Int) = ys[j + 1]'(by omega) := by rw [hj]; exact gi_nat (by omega)
      have b5 := k2 j (by omega) (by omega)
      have b6 := hg.mono j (j + 1) (by omega) (by omega)
      simp only [mid, g1, g2, g3, g4]
      rw [mid_end b5 b6]; omega
  · by_cases h0 : lb xs n = 0
    · simp [h0]
    · rw [if_neg h0, if_neg h0]
      by_cases hl : lb xs n = xs.length
      · rw [if_pos hl, if_pos hl, hl]
        congr 1; omega
      · rw [if_neg hl, if_neg hl]

/-- Between which points the time lies. -/
theorem tm_between {xs ys : List Int} (hg : Good xs ys) (n : Int) : (∀ j (h : j < ys.length), j < lb xs n → ys[j] ≤ tm xs ys n) ∧ (∀ j (h : j < ys.length), lb xs n ≤ j → tm xs ys n ≤ ys[j]) ∧
    ys[0]'(by have := hg.one; have := hg.same; omega) ≤ tm xs ys n ∧ tm xs ys n ≤ ys[ys.length - 1]'(by have := hg.one; have := hg.same; omega) := by
  obtain ⟨k1, k2, k3⟩ := lb_spec hg.inc n
  have hone := hg.one
  have hsame := hg.same
  rw [tm_eq hg n]
  have e0 : gi ys 0 = ys[0] := gi_nat (i := 0) (by omega)
  by_cases h0 : lb xs n = 0
  · rw [if_pos h0, e0]
    exact ⟨fun j h hj => by omega, fun j h _ => hg.mono 0 j h (by omega), Int.le_refl _, hg.mono 0 _ (by omega) (by omega)⟩
  · rw [if_neg h0]
    by_cases hl : lb xs n = xs.length
    · rw [if_pos hl, gi_nat (by omega : xs.length - 1 < ys.length)]
      refine ⟨fun j h hj => hg.mono j _ (by omega) (by omega), fun j h hj => by omega, hg.mono 0 _ (by omega) (by omega), hg.mono _ _ (by omega) (by omega)⟩
    · rw [if_neg hl]
      obtain ⟨j, hj⟩ : ∃ j, lb xs n = j + 1 := ⟨lb xs n - 1, by omega⟩
      have g1 : gi xs ((lb xs n : Int) - 1) = xs[j] := by rw [hj, show ((j + 1 : Nat) : Int) - 1 = (j : Nat) by omega]; exact gi_nat (by omega)
      have g2 : gi ys ((lb xs n : Int) - 1) = ys[j]'(by omega) := by rw [hj, show ((j + 1 : Nat) : Int) - 1 = (j : Nat) by omega]; exact gi_nat (by omega)
      have g3 : gi xs (lb xs n : Int) = xs[j + 1]'(by omega) := by rw [hj]; exact gi_nat (by omega)
      have g4 : gi ys (lb xs n : Int) = ys[j + 1]'(by omega) := by rw [hj]; exact gi_nat (by omega)
      have b5 := hg.inc j (j + 1) (by omega) (by omega)
      have b6 := hg.mono j (j + 1) (by omega) (by omega)
      have b7 := k2 j (by omega) (by omega)
      have b8 := k3 (j + 1) (by omega) (by omega)
      obtain ⟨r1, r2⟩ := mid_range b5 b6 (Int.le_of_lt b7) b8
      simp only [mid, g1, g2, g3, g4]
      have m1 := hg.mono 0 j (by omega) (by omega)
      have m2 := hg.mono (j + 1) (ys.length - 1) (by omega) (by omega)
      refine ⟨fun i h hi => ?_, fun i h hi => ?_, by omega, by omega⟩
      · have := hg.mono i j (by omega) (by omega); omega
      · have := hg.mono (j + 1) i (by omega) (by omega); omega

theorem lb_mono {xs : List Int} (hs : Incr xs) {a b : Int} (h : a ≤ b) : lb xs a ≤ lb xs b := by
  obtain ⟨k1, k2, k3⟩ := lb_spec hs a
  obtain ⟨l1, l2, l3⟩ := lb_spec hs b
  refine Nat.le_of_not_lt fun hlt => ?_
  have h1 := k2 (lb xs b) (by omega) hlt
  have h2 := l3 (lb xs b) (by omega) (Nat.le_refl _)
  omega

theorem tm_mono {xs ys : List Int} (hg : Good xs ys) {a b : Int} (h : a ≤ b) : tm xs ys a ≤ tm xs ys b := by
  have hone := hg.one
  have hsame := hg.same
  have hm := lb_mono hg.inc h
  obtain ⟨k1, k2, k3⟩ := lb_spec hg.inc a
  obtain ⟨l1, l2, l3⟩ := lb_spec hg.inc b
  by_cases he : lb xs a = lb xs b
  · rw [tm_eq hg a, tm_eq hg b, he]
    by_cases h0 : lb xs b = 0
    · simp [h0]
    · rw [if_neg h0, if_neg h0]
      by_cases hl : lb xs b = xs.length
      · simp [hl]
      · rw [if_neg hl, if_neg hl]
        obtain ⟨j, hj⟩ : ∃ j, lb xs b = j + 1 := ⟨lb xs b - 1, by omega⟩
        have g1 : gi xs ((lb xs b : Int) - 1) = xs[j] := by rw [hj, show ((j + 1 : Nat) : Int) - 1 = (j : Nat) by omega]; exact gi_nat (by omega)
        have g2 : gi ys ((lb xs b : Int) - 1) = ys[j]'(by omega) := by rw [hj, show ((j + 1 : Nat) : Int) - 1 = (j : Nat) by omega]; exact gi_nat (by omega)
        have g3 : gi xs (lb xs b : Int) = xs[j + 1]'(by omega) := by rw [hj]; exact gi_nat (by omega)
        have g4 : gi ys (lb xs b : Int) = ys[j + 1]'(by omega) := by rw [hj]; exact gi_nat (by omega)
        have b5 := hg.inc j (j + 1) (by omega) (by omega)
        have b6 := hg.mono j (j + 1) (by omega) (by omega)
        have b7 := k2 j (by omega) (by omega)
        have := mid_mono b5 b6 (Int.le_of_lt b7) h
        simp only [mid, g1, g2, g3, g4]
        omega
  · have h1 := (tm_between hg a).2.1 (lb xs a) (by omega) (Nat.le_refl _)
    have h2 := (tm_between hg b).1 (lb xs a) (by omega) (by omega)
    omega

theorem bs_spec (p : Int → Bool) (top : Int) : ∀ (n : Nat) (lo hi : Int), (hi - lo).toNat = n → lo ≤ hi → hi ≤ top → p lo = true → (hi = top ∨ p (hi + 1) = false) → bs p lo hi ≤ top ∧ p (bs p lo hi) = true ∧ (bs p lo hi = top ∨ p (bs p lo hi + 1) = false) := by
  intro n
  induction n using Nat.strongRecOn with
  | ind n ih =>
    intro lo hi hn hlh ht hp hq
    rw [bs]
    split
    · rename_i hlt
      cases hpm : p ((lo + hi + 1) / 2) with
      | true =>
        simp only [if_true]
        exact ih _ (by omega) ((lo + hi + 1) / 2) hi rfl (by omega) ht hpm hq
      | false =>
        simp only [Bool.false_eq_true, if_false]
        exact ih _ (by omega) lo ((lo + hi + 1) / 2 - 1) rfl (by omega) (by omega) hp (.inr (by rw [show (lo + hi + 1) / 2 - 1 + 1 = (lo + hi + 1) / 2 by omega]; exact hpm))
    · have : hi = lo := by omega
      subst this
      exact ⟨ht, hp, hq⟩
end Go.Vm.Ch51
