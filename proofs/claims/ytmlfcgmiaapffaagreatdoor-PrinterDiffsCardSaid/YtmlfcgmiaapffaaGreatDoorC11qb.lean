/- Chapter 11: what its functions compute. -/
import Derived.Test.YtmlfcgmiaapffaaGreatDoorC11qa
namespace Go.Vm.Ch11
open _root_.Ch11 (T11 c35 c36 c53)
set_option maxRecDepth 10000
set_option maxHeartbeats 16000000
theorem invE_map {es : List Ed} {i : Nat} (h : i < es.length) : (es.take (i + 1)).map invE = (es.take i).map invE ++ [invE es[i]] := by
  rw [List.take_succ_eq_append_getElem h, List.map_append]; rfl
theorem q35 (P : List Ed) (nn : Bool) (hl : P.length ≤ 1000) (m : Mem) : callL T11 35 [ev nn P] m = some (ev (!P.isEmpty) (P.map invE), m) := by
  apply callL_body (vf := c35) rfl rfl
  simp [c35]
  refine wp_loop (fun w s => ∃ i : Nat, w = P.length - i ∧ i ≤ P.length ∧ s.get 6 = ev nn P ∧ s.get 7 = AV.int IntKind.i64 P.length ∧ s.get 3 = ov 2 (fun e : Ed => AV.agg [AV.int IntKind.i64 e.1, .str e.2]) ((P.take i).map invE) ∧ s.get 8 = AV.int IntKind.i64 i ∧ s.mem = m) ?_ P.length _ ?_
  rotate_left
  · exact ⟨0, by simp [ov]⟩
  rintro w s ⟨i, hn, hi, e6, e7, e3, e8, em⟩
  by_cases hlt : i < P.length
  · have w1 : W64 ((i : Int) + 1) ((i + 1 : Nat) : Int) := .mkI rfl (by omega) (by omega)
    have hts := invE_map hlt
    have hZl : ((P.take i).map invE).length = i := by simp; omega
    obtain ⟨Z, hZ⟩ : ∃ Z, (P.take i).map invE = Z := ⟨_, rfl⟩
    rw [hZ] at e3 hts hZl
    have hla : (Z.length + 1) * 24 ≤ 140737488355328 := by omega
    have hfin : ∀ k : Int, invE P[i] = (k, P[i].2) → ∃ n, n < w ∧ ∃ i2 : Nat, n = P.length - i2 ∧ i2 ≤ P.length ∧ AV.vec (some 2) true (Z.map (fun e : Ed => AV.agg [AV.int IntKind.i64 e.1, .str e.2]) ++ [AV.agg [AV.int IntKind.i64 k, .str P[i].2]]) = ov 2 (fun e : Ed => AV.agg [AV.int IntKind.i64 e.1, .str e.2]) ((P.take i2).map invE) ∧ ((i + 1 : Nat) : Int) = i2 := by
      intro k hk
      refine ⟨P.length - (i + 1), by omega, i + 1, rfl, by omega, ?_, rfl⟩
      rw [hts, hk]
      exact ov_snoc (e := fun e : Ed => AV.agg [AV.int IntKind.i64 e.1, .str e.2]) (x := (k, P[i].2))
    by_cases k1 : P[i].1 = 1
    · have := hfin 2 (by simp [invE, k1])
      simp [e6, e7, e3, e8, em, hlt, gi_nat hlt, w1.eq, hla, k1, objCells, -Int.natCast_add]
      simpa using this
    · by_cases k2 : P[i].1 = 2
      · have := hfin 1 (by simp [invE, k2])
        simp [e6, e7, e3, e8, em, hlt, gi_nat hlt, w1.eq, hla, k2, objCells, -Int.natCast_add]
        simpa using this
      · have := hfin P[i].1 (by simp [invE, k1, k2])
        simp [e6, e7, e3, e8, em, hlt, gi_nat hlt, w1.eq, hla, k1, k2, objCells, -Int.natCast_add]
        simpa using this
  · have hi' : i = P.length := by omega
    subst hi'
    rw [List.take_length] at e3
    simp [e6, e7, e3, e8, em, ovn]
theorem q36 (P : List Ed) (nn : Bool) (hl : P.length ≤ 1000) (m : Mem) : callL T11 36 [ev nn P] m = some (ev true (P.map invE), m) := by
  apply callL_body (vf := c36) rfl rfl
  simp [c36]
  refine wp_loop (fun w s => ∃ i : Nat, w = P.length - i ∧ i ≤ P.length ∧ s.get 0 = ev nn P ∧ s.get 3 = vv (some 2) true (fun e : Ed => AV.agg [AV.int IntKind.i64 e.1, .str e.2]) ((P.take i).map invE) ∧ s.get 4 = AV.int IntKind.i64 i ∧ s.mem = m) ?_ P.length _ ?_
  rotate_left
  · exact ⟨0, by simp [vv]⟩
  rintro w s ⟨i, hn, hi, e0, e3, e4, em⟩
  by_cases hlt : i < P.length
  · have w1 : W64 ((i : Int) + 1) ((i + 1 : Nat) : Int) := .mkI rfl (by omega) (by omega)
    have hts := invE_map hlt
    have hZl : ((P.take i).map invE).length = i := by simp; omega
    obtain ⟨Z, hZ⟩ : ∃ Z, (P.take i).map invE = Z := ⟨_, rfl⟩
    rw [hZ] at e3 hts hZl
    have hla : (Z.length + 1) * 24 ≤ 140737488355328 := by omega
    have hfin : ∀ k : Int, invE P[i] = (k, P[i].2) → ∃ n, n < w ∧ ∃ i2 : Nat, n = P.length - i2 ∧ i2 ≤ P.length ∧ AV.vec (some 2) true (Z.map (fun e : Ed => AV.agg [AV.int IntKind.i64 e.1, .str e.2]) ++ [AV.agg [AV.int IntKind.i64 k, .str P[i].2]]) = vv (some 2) true (fun e : Ed => AV.agg [AV.int IntKind.i64 e.1, .str e.2]) ((P.take i2).map invE) ∧ ((i + 1 : Nat) : Int) = i2 := by
      intro k hk
      refine ⟨P.length - (i + 1), by omega, i + 1, rfl, by omega, ?_, rfl⟩
      rw [hts, hk]
      simp [vv]
    by_cases k1 : P[i].1 = 1
    · have := hfin 2 (by simp [invE, k1])
      simp [e0, e3, e4, em, hlt, gi_nat hlt, w1.eq, hla, k1, objCells, -Int.natCast_add]
      simpa using this
    · by_cases k2 : P[i].1 = 2
      · have := hfin 1 (by simp [invE, k2])
        simp [e0, e3, e4, em, hlt, gi_nat hlt, w1.eq, hla, k2, objCells, -Int.natCast_add]
        simpa using this
      · have := hfin P[i].1 (by simp [invE, k1, k2])
        simp [e0, e3, e4, em, hlt, gi_nat hlt, w1.eq, hla, k1, k2, objCells, -Int.natCast_add]
        simpa using this
  · have hi' : i = P.length := by omega
    subst hi'
    rw [List.take_length] at e3
    simp [e0, e3, e4, em]
/-! ### applying edits -/
def badE (e : Ed) : Bool := decide (e.1 < 0 ∨ 2 < e.1)
theorem q53 (e : Ed) : callL T11 53 [.agg [AV.int IntKind.i64 e.1, .str e.2]] [] = some (.bool (badE e), []) := by
  apply callL_body (vf := c53) rfl rfl
  by_cases h1 : e.1 < 0
  · simp [c53, h1, badE, objCells]
  · by_cases h2 : 2 < e.1
    · simp [c53, h1, h2, badE, objCells]
    · simp [c53, h1, h2, badE, objCells]
theorem q52 (P : List Ed) (nn : Bool) (hl : P.length ≤ 1000) (m : Mem) : callL T11 52 [ev nn P, .fn (.func 53) []] m = some (.bool (P.any badE), m) :=
  contains_vec (T := T11) (k := 79) (n := 2) rfl rfl (fun e : Ed => [AV.int IntKind.i64 e.1, .str e.2]) (fun _ => rfl) P nn 53 [] badE (fun z _ => q53 z) (by omega) m
end Go.Vm.Ch11
