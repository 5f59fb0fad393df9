/- Chapter 11: what its functions compute. -/
import Derived.Test.YtmlfcgmiaapffaaGreatDoorC11qf
namespace Go.Vm.Ch11
open _root_.Ch11 (T11 c28 c30)
set_option maxRecDepth 10000
set_option maxHeartbeats 16000000
theorem osv (out : List Ed) (e : Ed) : AV.vec (some 2) true (out.map (fun e : Ed => AV.agg [AV.int IntKind.i64 e.1, .str e.2]) ++ [AV.agg [AV.int IntKind.i64 e.1, .str e.2]]) = vv (some 2) true (fun e : Ed => AV.agg [AV.int IntKind.i64 e.1, .str e.2]) (out ++ [e]) := by simp [vv]
theorem q28b (o n : List Rw) (na nb : Bool) (h : 500 < o.length ∨ 500 < n.length) (m : Mem) : callL T11 28 [sv na o, sv nb n] m = some (.tup [.vec none false [], AV.int IntKind.i64 7], m) := by
  apply callL_body (vf := c28) rfl rfl
  by_cases b1 : (500 : Int) < o.length
  · simp [c28, b1]
  · have b2 : (500 : Int) < n.length := by omega
    simp [c28, b1, b2]
theorem q30 (o n : List Rw) (na nb : Bool) (ho : o.length ≤ 500) (hn : n.length ≤ 500) (m : Mem) : callL T11 30 [sv na o, sv nb n] m = some (ev true (diffL o n), tabM m o n 0) := by
  have h50 := q51 o n na nb ho hn m
  apply callL_body (vf := c30) rfl rfl
  have b1 : ¬ (500 : Int) < o.length := by omega
  have b2 : ¬ (500 : Int) < n.length := by omega
  have mo := tabM_out m o n 0
  have mr : ∀ j, j ≤ o.length → (tabM m o n 0)[m.length + 1 + (o.length - j)]? = some (some (.cells false (levC o n j 0))) := fun j h => tabM_row h (Nat.zero_le _)
  have hO : ∀ j, j ≤ o.length → (outC m.length o.length n.length 0)[j]? = some (.row (.mem (m.length + 1 + (o.length - j))) 0 (n.length + 1)) := fun j h => outC_get h (Nat.zero_le _)
  have hC : ∀ j k, k ≤ n.length → (levC o n j 0)[k]? = some (AV.int IntKind.i64 (lev (o.drop j) (n.drop k) : Nat)) := fun j k h => levC_get h (Nat.zero_le _)
  have hOl := outC_len m.length o.length n.length 0
  have hCl : ∀ j, (levC o n j 0).length = n.length + 1 := fun j => levC_len o n j 0
  obtain ⟨TB, hTB⟩ : ∃ X, tabM m o n 0 = X := ⟨_, rfl⟩
  rw [hTB] at h50 mo mr ⊢
  obtain ⟨OU, hOU⟩ : ∃ X, outC m.length o.length n.length 0 = X := ⟨_, rfl⟩
  rw [hOU] at mo hO hOl
  simp [c30, h50]
  refine wp_loop (fun w s => ∃ (i k : Nat) (out : List Ed), w = (o.length - i) + (n.length - k) ∧ i ≤ o.length ∧ k ≤ n.length ∧ s.get 0 = sv na o ∧ s.get 1 = sv nb n ∧ s.get 5 = .row (.mem m.length) 0 (o.length + 1) ∧ s.get 6 = vv (some 2) true (fun e : Ed => AV.agg [AV.int IntKind.i64 e.1, .str e.2]) out ∧ s.get 7 = AV.int IntKind.i64 i ∧ s.get 8 = AV.int IntKind.i64 k ∧ s.mem = TB ∧ out.length ≤ i + k ∧ ∃ f, (o.length - i) + (n.length - k) ≤ f ∧ diffL o n = out ++ diffF f (o.drop i) (n.drop k)) ?_ (o.length + n.length) _ ?_
  rotate_left
  · exact ⟨0, 0, [], by simp, by simp, by simp, by simp, by simp, by simp, by simp [vv], by simp, by simp, by simp, by simp, o.length + n.length, by simp, by simp [diffL]⟩
  rintro w s ⟨i, k, out, hw, hi, hk, e0, e1, e6, e7, e8, e9, em, hol, f, hf, hd⟩
  have hla : (out.length + 1) * 24 ≤ 140737488355328 := by omega
  have w1 : W64 ((i : Int) + 1) ((i + 1 : Nat) : Int) := .mkI rfl (by omega) (by omega)
  have w2 : W64 ((k : Int) + 1) ((k + 1 : Nat) : Int) := .mkI rfl (by omega) (by omega)
  by_cases hil : i < o.length
  · have hO0 := hO i hi
    have hO1 := hO (i + 1) (by omega)
    have mr0 := mr i hi
    have mr1 := mr (i + 1) (by omega)
    have hC0 := hC i k hk
    have hC1 := hC (i + 1) k hk
    have hl0 := hCl i
    have hl1 := hCl (i + 1)
    have b3 : (i : Int) < o.length + 1 := by omega
    have b4 : ((i + 1 : Nat) : Int) < o.length + 1 := by omega
    have b5 : (k : Int) < n.length + 1 := by omega
    obtain ⟨C0, hc0⟩ : ∃ X, levC o n i 0 = X := ⟨_, rfl⟩
    obtain ⟨C1, hc1⟩ : ∃ X, levC o n (i + 1) 0 = X := ⟨_, rfl⟩
    rw [hc0] at mr0 hC0 hl0
    rw [hc1] at mr1 hC1 hl1
    have hle1 : lev (o.drop (i + 1)) (n.drop k) ≤ 1000 := by have := lev_le (o.drop (i + 1)) (n.drop k); simp at this; omega
    obtain ⟨f, rfl⟩ : ∃ g, f = g + 1 := ⟨f - 1, by omega⟩
    have snoc : ∀ (e : Ed) (X : List Ed), out ++ e :: X = (out ++ [e]) ++ X := fun e X => by simp
    obtain ⟨x, hx⟩ : ∃ x, lev (o.drop i) (n.drop k) = x := ⟨_, rfl⟩
    obtain ⟨y, hy⟩ : ∃ y, lev (o.drop (i + 1)) (n.drop k) = y := ⟨_, rfl⟩
    rw [hx] at hC0; rw [hy] at hC1 hle1
    have w3 : W64 (1 + (y : Int)) ((1 + y : Nat) : Int) := .mkI (by omega) (by omega) (by omega)
    have g0 := getE hO0
    have g1 := getE hO1
    have g2 := getE hC0
    have g3 := getE hC1
    by_cases hkl : k < n.length
    · by_cases heq : o[i] = n[k]
      · rw [diff_keep hil hkl heq, snoc] at hd
        simp [e0, e1, e6, e7, e8, e9, em, hil, hkl, gi_nat hil, gi_nat hkl, heq, w1.eq, w2.eq, hla, -Int.natCast_add]
        rw [heq] at hd
        exact ⟨(o.length - (i + 1)) + (n.length - (k + 1)), by omega, i + 1, k + 1, rfl, by omega, by omega, out ++ [(0, n[k])], osv out (0, n[k]), rfl, rfl, by simp; omega, f, by omega, hd⟩
      · by_cases hl : x = 1 + y
        · rw [diff_del hil hkl heq (by rw [hx, hy, hl]), snoc] at hd
          subst hl
          simp [e0, e1, e6, e7, e8, e9, em, hil, hkl, gi_nat hil, gi_nat hkl, heq, w1.eq, w3.eq, hla, mo, hO0, mr0, mr1, hC0, hC1, g1, objCells, hOl, -Int.natCast_add]
          repeat (refine And.intro (by omega) ?_)
          exact ⟨(o.length - (i + 1)) + (n.length - k), by omega, i + 1, k, rfl, by omega, by omega, out ++ [(1, o[i])], osv out (1, o[i]), rfl, rfl, by simp; omega, f, by omega, hd⟩
        · rw [diff_ins hil hkl heq (by rw [hx, hy]; exact hl), snoc] at hd
          have hl' : ¬ (x : Int) = ((1 + y : Nat) : Int) := by omega
          simp [e0, e1, e6, e7, e8, e9, em, hil, hkl, gi_nat hil, gi_nat hkl, heq, w1.eq, w2.eq, w3.eq, hla, mo, hO0, mr0, mr1, hC0, hC1, g1, objCells, hOl, hl', -Int.natCast_add]
          repeat (refine And.intro (by omega) ?_)
          exact ⟨(o.length - i) + (n.length - (k + 1)), by omega, i, k + 1, rfl, by omega, by omega, out ++ [(2, n[k])], osv out (2, n[k]), rfl, rfl, by simp; omega, f, by omega, hd⟩
    · have hke : k = n.length := by omega
      subst hke
      rw [diff_dele hil, snoc] at hd
      have hl : x = 1 + y := by
        rw [← hx, ← hy, List.drop_length, lev_nil2, lev_nil2, List.length_drop, List.length_drop]; omega
      subst hl
      simp [e0, e1, e6, e7, e8, e9, em, hil, gi_nat hil, w1.eq, w3.eq, hla, mo, hO0, mr0, mr1, g1, g2, g3, objCells, hOl, hl0, hl1, -Int.natCast_add]
      repeat (refine And.intro (by omega) ?_)
      exact ⟨(o.length - (i + 1)) + (n.length - n.length), by omega, i + 1, n.length, rfl, by omega, by omega, out ++ [(1, o[i])], osv out (1, o[i]), rfl, rfl, by simp; omega, f, by omega, hd⟩
  · have hie : i = o.length := by omega
    subst hie
    by_cases hkl : k < n.length
    · obtain ⟨f, rfl⟩ : ∃ g, f = g + 1 := ⟨f - 1, by omega⟩
      have snoc : ∀ (e : Ed) (X : List Ed), out ++ e :: X = (out ++ [e]) ++ X := fun e X => by simp
      rw [diff_inse hkl, snoc] at hd
      simp [e0, e1, e6, e7, e8, e9, em, hkl, gi_nat hkl, w2.eq, hla, -Int.natCast_add]
      exact ⟨(o.length - o.length) + (n.length - (k + 1)), by omega, o.length, k + 1, rfl, by omega, by omega, out ++ [(2, n[k])], osv out (2, n[k]), rfl, rfl, by simp; omega, f, by omega, hd⟩
    · have hke : k = n.length := by omega
      subst hke
      have hd2 : diffL o n = out := by
        rw [hd, List.drop_length, List.drop_length]; cases f <;> simp [diffF]
      simp [e0, e1, e7, e8, e9, em, hd2]
end Go.Vm.Ch11
