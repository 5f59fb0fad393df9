/- Chapter 11: what its functions compute. -/
import Derived.Test.YtmlfcgmiaapffaaGreatDoorC11pa
import Derived.Test.YtmlfcgmiaapffaaGreatDoorL11
import Derived.Test.YtmlfcgmiaapffaaGreatDoorVF
import Derived.Test.YtmlfcgmiaapffaaGreatDoorVJ
namespace Go.Vm.Ch11
open _root_.Ch11 (T11 c26 c27 c29 c31 c33)
set_option maxRecDepth 10000
set_option maxHeartbeats 16000000
/-! ### lists of rows and of edits -/
abbrev sv (nn : Bool) (P : List Rw) : AV := vv none nn AV.str P
def ed (e : Ed) : AV := .agg [AV.int IntKind.i64 e.1, .str e.2]
abbrev ev (nn : Bool) (es : List Ed) : AV := vv none nn (fun e : Ed => AV.agg [AV.int IntKind.i64 e.1, .str e.2]) es
instance : Inhabited Ed := ⟨(0, [])⟩
def sumR (P : List Rw) : Nat := (P.map List.length).sum
theorem sumR_succ {P : List Rw} {i : Nat} (h : i < P.length) : sumR (P.take (i + 1)) = sumR (P.take i) + P[i].length := by
  unfold sumR
  rw [List.take_succ_eq_append_getElem h, List.map_append, List.sum_append]; simp
theorem sumR_le (P : List Rw) (i : Nat) : sumR (P.take i) ≤ sumR P := by
  have h : sumR P = sumR (P.take i) + sumR (P.drop i) := by
    unfold sumR
    rw [← List.sum_append, ← List.map_append, List.take_append_drop]
  omega
def shortS (P : List Rw) (k : Int) : Bool := decide ((P.length : Int) ≤ k ∧ sumR P ≤ 5000)
theorem q27 (P : List Rw) (nn : Bool) (k : Int) (hk : k ≤ 1000) (m : Mem) : callL T11 27 [sv nn P, AV.int IntKind.i64 k] m = some (.bool (shortS P k), m) := by
  apply callL_body (vf := c27) rfl rfl
  by_cases h1 : k < (P.length : Int)
  · simp [c27, h1, shortS]
    omega
  simp [c27, h1]
  refine wp_loop (fun w s => ∃ i : Nat, w = P.length - i ∧ i ≤ P.length ∧ s.get 0 = sv nn P ∧ s.get 5 = AV.int IntKind.i64 (5000 - sumR (P.take i) : Int) ∧ sumR (P.take i) ≤ 5000 ∧ s.get 6 = AV.int IntKind.i64 i ∧ s.mem = m) ?_ P.length _ ?_
  rotate_left
  · exact ⟨0, by simp [sumR]⟩
  rintro w s ⟨i, hn, hi, e0, e5, hs, e6, em⟩
  by_cases hlt : i < P.length
  · have hsu := sumR_succ hlt
    by_cases hb : (5000 - sumR (P.take i) : Int) < P[i].length
    · have hle := sumR_le P (i + 1)
      simp [e0, e5, e6, em, hlt, gi_nat hlt, hb, shortS]
      omega
    · have w1 : W64 ((i : Int) + 1) ((i + 1 : Nat) : Int) := .mkI rfl (by omega) (by omega)
      have w2 : W64 (5000 - (sumR (P.take i) : Int) - P[i].length) (5000 - (sumR (P.take (i + 1)) : Int)) := .mkI (by omega) (by omega) (by omega)
      simp [e0, e5, e6, em, hlt, gi_nat hlt, hb, w1.eq, w2.eq, -Int.natCast_add]
      exact ⟨P.length - (i + 1), by omega, i + 1, rfl, by omega, rfl, by omega, rfl⟩
  · have hi' : i = P.length := by omega
    subst hi'
    rw [List.take_length] at hs
    simp [e0, e6, em, shortS, hs]
    omega
theorem q31 (P : List Ed) (nn : Bool) (k : Int) (hk : k ≤ 1000) (m : Mem) : callL T11 31 [ev nn P, AV.int IntKind.i64 k] m = some (.bool (shortS (P.map (·.2)) k), m) := by
  apply callL_body (vf := c31) rfl rfl
  by_cases h1 : k < (P.length : Int)
  · simp [c31, h1, shortS]
    omega
  simp [c31, h1]
  refine wp_loop (fun w s => ∃ i : Nat, w = P.length - i ∧ i ≤ P.length ∧ s.get 0 = ev nn P ∧ s.get 5 = AV.int IntKind.i64 (5000 - sumR ((P.map (·.2)).take i) : Int) ∧ sumR ((P.map (·.2)).take i) ≤ 5000 ∧ s.get 6 = AV.int IntKind.i64 i ∧ s.mem = m) ?_ P.length _ ?_
  rotate_left
  · exact ⟨0, by simp [sumR]⟩
  rintro w s ⟨i, hn, hi, e0, e5, hs, e6, em⟩
  by_cases hlt : i < P.length
  · have hlt' : i < (P.map (·.2)).length := by simpa using hlt
    have hsu := sumR_succ hlt'
    have hg : (P.map (·.2))[i] = P[i].2 := by simp
    rw [hg] at hsu
    obtain ⟨S, hS⟩ : ∃ S, sumR ((P.map (·.2)).take i) = S := ⟨_, rfl⟩
    obtain ⟨S', hS'⟩ : ∃ S, sumR ((P.map (·.2)).take (i + 1)) = S := ⟨_, rfl⟩
    have hle := sumR_le (P.map (·.2)) (i + 1)
    rw [hS] at e5 hs hsu
    rw [hS'] at hsu hle
    by_cases hb : (5000 - S : Int) < P[i].2.length
    · simp [e0, e5, e6, em, hlt, gi_nat hlt, hb, shortS]
      omega
    · have w1 : W64 ((i : Int) + 1) ((i + 1 : Nat) : Int) := .mkI rfl (by omega) (by omega)
      have w2 : W64 (5000 - (S : Int) - P[i].2.length) (5000 - (S' : Int)) := .mkI (by omega) (by omega) (by omega)
      simp [e0, e5, e6, em, hlt, gi_nat hlt, hb, w1.eq, w2.eq, -Int.natCast_add]
      exact ⟨P.length - (i + 1), by omega, i + 1, rfl, by omega, by rw [hS'], by omega, rfl⟩
  · have hi' : i = P.length := by omega
    subst hi'
    rw [show (P.map (·.2)).take P.length = P.map (·.2) from by rw [← List.length_map (f := fun x : Ed => x.2)]; exact List.take_length] at hs
    simp [e0, e6, em, shortS, hs]
    omega
/-- Two lists of rows are the same. -/
theorem q26 (A B : List Rw) (na nb : Bool) (hl : (A.length : Int) < 4611686018427387904) (m : Mem) : callL T11 26 [sv na A, sv nb B] m = some (.bool (decide (A = B)), m) := by
  apply callL_body (vf := c26) rfl rfl
  by_cases h1 : A.length = B.length
  rotate_left
  · have h1' : ¬ (A.length : Int) = B.length := by omega
    have : A ≠ B := fun h => h1 (by rw [h])
    simp [c26, h1', this]
  simp [c26, h1]
  refine wp_loop (fun w s => ∃ i : Nat, w = A.length - i ∧ i ≤ A.length ∧ s.get 0 = sv na A ∧ s.get 1 = sv nb B ∧ s.get 5 = AV.int IntKind.i64 i ∧ s.mem = m ∧ A.take i = B.take i) ?_ A.length _ ?_
  rotate_left
  · exact ⟨0, by simp⟩
  rintro w s ⟨i, hn, hi, e0, e1, e5, em, hbef⟩
  by_cases hlt : i < A.length
  · have hlt2 : i < B.length := by omega
    by_cases hb : A[i] = B[i]
    · have w1 : W64 ((i : Int) + 1) ((i + 1 : Nat) : Int) := .mkI rfl (by omega) (by omega)
      simp [e0, e1, e5, em, hlt, hlt2, gi_nat hlt, gi_nat hlt2, hb, w1.eq, -Int.natCast_add]
      refine ⟨A.length - (i + 1), by omega, i + 1, rfl, by omega, rfl, ?_⟩
      rw [List.take_succ_eq_append_getElem hlt, List.take_succ_eq_append_getElem hlt2, hbef, hb]
    · have hne : A ≠ B := by
        intro h; subst h; exact hb rfl
      simp [e0, e1, e5, em, hlt, hlt2, gi_nat hlt, gi_nat hlt2, hb, hne]
  · have hi' : i = A.length := by omega
    subst hi'
    rw [List.take_length, h1, List.take_length] at hbef
    simp [e0, e5, em, hbef]
/-- Two lists of edits are the same. -/
theorem q29 (A B : List Ed) (na nb : Bool) (hl : (A.length : Int) < 4611686018427387904) (m : Mem) : callL T11 29 [ev na A, ev nb B] m = some (.bool (decide (A = B)), m) := by
  apply callL_body (vf := c29) rfl rfl
  by_cases h1 : A.length = B.length
  rotate_left
  · have h1' : ¬ (A.length : Int) = B.length := by omega
    have : A ≠ B := fun h => h1 (by rw [h])
    simp [c29, h1', this]
  simp [c29, h1]
  refine wp_loop (fun w s => ∃ i : Nat, w = A.length - i ∧ i ≤ A.length ∧ s.get 0 = ev na A ∧ s.get 1 = ev nb B ∧ s.get 5 = AV.int IntKind.i64 i ∧ s.mem = m ∧ A.take i = B.take i) ?_ A.length _ ?_
  rotate_left
  · exact ⟨0, by simp⟩
  rintro w s ⟨i, hn, hi, e0, e1, e5, em, hbef⟩
  by_cases hlt : i < A.length
  · have hlt2 : i < B.length := by omega
    have hpe : A[i] = B[i] ↔ A[i].1 = B[i].1 ∧ A[i].2 = B[i].2 := Prod.ext_iff
    have hne : A[i] ≠ B[i] → A ≠ B := by
      intro h h2; subst h2; exact h rfl
    by_cases hb1 : A[i].1 = B[i].1
    · by_cases hb : A[i].2 = B[i].2
      · have w1 : W64 ((i : Int) + 1) ((i + 1 : Nat) : Int) := .mkI rfl (by omega) (by omega)
        simp [e0, e1, e5, em, hlt, hlt2, gi_nat hlt, gi_nat hlt2, hb, hb1, w1.eq, -Int.natCast_add]
        refine ⟨A.length - (i + 1), by omega, i + 1, rfl, by omega, rfl, ?_⟩
        rw [List.take_succ_eq_append_getElem hlt, List.take_succ_eq_append_getElem hlt2, hbef, hpe.2 ⟨hb1, hb⟩]
      · have hne := hne (fun h => hb (hpe.1 h).2)
        simp [e0, e1, e5, em, hlt, hlt2, gi_nat hlt, gi_nat hlt2, hb, hb1, hne]
    · have hne := hne (fun h => hb1 (hpe.1 h).1)
      simp [e0, e1, e5, em, hlt, hlt2, gi_nat hlt, gi_nat hlt2, hb1, hne]
  · have hi' : i = A.length := by omega
    subst hi'
    rw [List.take_length, h1, List.take_length] at hbef
    simp [e0, e5, em, hbef]
/-- Edits of the program. -/
theorem q33 (P : List Ed) (nn : Bool) (hl : P.length ≤ 1000) (m : Mem) : callL T11 33 [ev nn P] m = some (ev true P, m) := by
  apply callL_body (vf := c33) rfl rfl
  simp [c33]
  refine wp_loop (fun w s => ∃ i : Nat, w = P.length - i ∧ i ≤ P.length ∧ s.get 0 = ev nn P ∧ s.get 3 = vv (some 2) true (fun e : Ed => AV.agg [AV.int IntKind.i64 e.1, .str e.2]) (P.take i) ∧ s.get 4 = AV.int IntKind.i64 i ∧ s.mem = m) ?_ P.length _ ?_
  rotate_left
  · exact ⟨0, by simp [vv]⟩
  rintro w s ⟨i, hn, hi, e0, e3, e4, em⟩
  by_cases hlt : i < P.length
  · have w1 : W64 ((i : Int) + 1) ((i + 1 : Nat) : Int) := .mkI rfl (by omega) (by omega)
    have hts := List.take_succ_eq_append_getElem hlt
    have hZl : (P.take i).length = i := by simp; omega
    obtain ⟨Z, hZ⟩ : ∃ Z, P.take i = Z := ⟨_, rfl⟩
    rw [hZ] at e3 hts hZl
    have hla : (Z.length + 1) * 24 ≤ 140737488355328 := by omega
    simp [e0, e3, e4, em, hlt, gi_nat hlt, w1.eq, hla, -Int.natCast_add]
    refine ⟨P.length - (i + 1), by omega, i + 1, rfl, by omega, ?_, rfl⟩
    simp [vv, hts]
  · have hi' : i = P.length := by omega
    subst hi'
    rw [List.take_length] at e3
    simp [e0, e3, e4, em]
end Go.Vm.Ch11
