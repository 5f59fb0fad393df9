/- Chapter 11: what its functions compute. -/
import Derived.Test.YtmlfcgmiaapffaaGreatDoorC11j
namespace Go.Vm.Ch11
open _root_.Ch11 (T11 c69)
set_option maxRecDepth 10000
set_option maxHeartbeats 8000000
theorem bad_iff {x : List UInt8} (h1 : (nd x).length ≠ 0) : ∃ y, (x.drop (sgn x)).head? = some y ∧
    (numBad x = true ↔ (partAt x (nE x) = true ∨ (y = 48 ∧ (1 < (nd x).length ∨ sgn x = 1)))) := by
  obtain ⟨y, hy⟩ : ∃ y, (x.drop (sgn x)).head? = some y := by
    cases hq : x.drop (sgn x) with
    | nil => exact absurd (by unfold nd; rw [hq]; rfl) h1
    | cons y r => exact ⟨y, rfl⟩
  refine ⟨y, hy, ?_⟩
  unfold numBad
  rw [hy, num_text]
  have hnd : ∃ D, nd x = y :: D := by
    have e : nd x = (x.drop (sgn x)).takeWhile dg := rfl
    cases hq : x.drop (sgn x) with
    | nil => rw [hq] at hy; simp at hy
    | cons z r =>
      rw [hq] at hy e
      simp only [List.head?_cons, Option.some.injEq] at hy
      subst hy
      rw [List.takeWhile_cons] at e
      split at e
      · exact ⟨_, e⟩
      · rw [e] at h1; exact absurd rfl h1
  obtain ⟨D, hD⟩ := hnd
  have hl : (nd x).length = D.length + 1 := by rw [hD]; rfl
  rcases sgn_text x with ⟨s1, s2, r, s3⟩ | ⟨s1, s2⟩
  · rw [s2, s1, hD]
    simp only [Bool.or_eq_true, decide_eq_true_eq, Bool.and_eq_true, Option.some.injEq, List.cons_append, List.nil_append, List.cons.injEq, true_and, List.length_cons]
    constructor
    · rintro (((h | h) | h) | h)
      · omega
      · exact .inl h
      · exact .inr ⟨h.2, .inl h.1⟩
      · exact .inr ⟨h.1, .inr trivial⟩
    · rintro (h | ⟨h, h2 | h2⟩)
      · exact .inl (.inl (.inr h))
      · exact .inl (.inr ⟨h2, h⟩)
      · by_cases hD0 : D = []
        · exact .inr ⟨h, hD0⟩
        · exact .inl (.inr ⟨by have := List.length_pos_iff.2 hD0; omega, h⟩)
  · rw [s2, s1, hD]
    simp only [Bool.or_eq_true, decide_eq_true_eq, Bool.and_eq_true, Option.some.injEq, List.nil_append, List.cons.injEq, List.length_cons]
    constructor
    · rintro (((h | h) | h) | h)
      · omega
      · exact .inl h
      · exact .inr ⟨h.2, .inl h.1⟩
      · have hy45 : y = 45 := h.1
        have hdg := nd_dig x y (by rw [hD]; simp)
        rw [hy45] at hdg
        exact absurd hdg (by decide)
    · rintro (h | ⟨h, h2 | h2⟩)
      · exact .inl (.inl (.inr h))
      · exact .inl (.inr ⟨h2, h⟩)
      · omega
def RefTok (s : List UInt8) (i : Nat) (m : Mem) : Prop := ∃ (k : Int) (t : List UInt8) (n a e' : Int), callL T11 69 [.str s, AV.int .i64 i] m = some (.tup [.agg [AV.int .i64 k, .str t, AV.int .i64 n, AV.int .i64 a], AV.int .i64 e', AV.int .i64 (lexT (s.drop i)).e], m) ∧
  ((lexT (s.drop i)).e = 0 → k = (lexT (s.drop i)).k ∧ t = (lexT (s.drop i)).t ∧ n = (lexT (s.drop i)).n ∧ a = ((i + 1 : Nat) : Int) ∧ e' = ((i + (lexT (s.drop i)).l : Nat) : Int))
theorem q28_word (s : List UInt8) (hl : s.length ≤ 1000000) (i : Nat) (hi : i < s.length) (m : Mem) (hL : letterN s[i].toNat = true) : RefTok s i m := by
  have hd : s.drop i = s[i] :: s.drop (i + 1) := by simp
  have h32 := q98 s[i]
  rw [hL] at h32
  have h40 := q99 s true (by omega) i (by omega) []
  rw [pw_t, hd] at h40
  have w1 : W64 ((i : Int) + 1) ((i + 1 : Nat) : Int) := .mkI rfl (by omega) (by omega)
  have htt : (s.drop i).take ((s[i] :: s.drop (i + 1)).takeWhile pd).length = (s[i] :: s.drop (i + 1)).takeWhile pd := by
    rw [← hd]; exact (List.prefix_iff_eq_take.1 (List.takeWhile_prefix _)).symm
  have hle : ((s[i] :: s.drop (i + 1)).takeWhile pd).length ≤ s.length - i := by
    have := (List.takeWhile_prefix pd (l := s[i] :: s.drop (i + 1))).length_le
    simp at this; simp; omega
  unfold RefTok
  rw [hd]
  simp only [lexT]
  rw [if_pos hL]
  generalize (s[i] :: s.drop (i + 1)).takeWhile pd = W at *
  have hsub : (s.take (i + W.length)).drop i = W := by
    rw [List.drop_take, Nat.add_sub_cancel_left]; exact htt
  by_cases h40' : 40 < W.length
  · have hi40 : (40 : Int) < W.length := by omega
    rw [if_pos h40']
    refine ⟨1, W, 0, ((i + 1 : Nat) : Int), ((i + W.length : Nat) : Int), ?_, fun h => by cases h⟩
    apply callL_body (vf := c69) rfl rfl
    simp [c69, hi, h32, h40, w1.eq, hsub, hi40, objCells, lxE, -Int.natCast_add]
    omega
  · have hi40 : ¬ (40 : Int) < W.length := by omega
    rw [if_neg h40']
    refine ⟨1, W, 0, ((i + 1 : Nat) : Int), ((i + W.length : Nat) : Int), ?_, fun h => ⟨rfl, rfl, rfl, rfl, rfl⟩⟩
    apply callL_body (vf := c69) rfl rfl
    simp [c69, hi, h32, h40, w1.eq, hsub, hi40, objCells, -Int.natCast_add]
    omega
end Go.Vm.Ch11
