/- Chapter 11: what its functions compute. -/
import Derived.Test.YtmlfcgmiaapffaaGreatDoorC11wl
import Derived.Test.YtmlfcgmiaapffaaGreatDoorC11u
namespace Go.Vm.Ch11
open _root_.Ch11 (T11 c12 c38)
set_option maxRecDepth 10000
set_option maxHeartbeats 16000000
mutual
def leftL : List Ln → Int → Nat → Int
  | [], n, _ => n
  | x :: r, n, d => if n < 0 then n else leftL r (leftN x n d) d
def leftN : Ln → Int → Nat → Int
  | .mk T _ K _, n, d => if d = 0 ∨ n < T.length then -1 else if T.any (fun p => decide (200 < p.t.length)) then -1 else leftL K (n - 1 - T.length) (d - 1)
end
mutual
theorem leftL_neg : ∀ (K : List Ln) (n : Int) (d : Nat), n < 0 → leftL K n d = n
  | [], n, d, h => rfl
  | x :: r, n, d, h => by rw [leftL, if_pos h]
end
mutual
theorem leftL_le : ∀ (K : List Ln) (n : Int) (d : Nat), 0 ≤ leftL K n d → leftL K n d + szL K ≤ n
  | [], n, d, h => by simp [leftL, szL]
  | x :: r, n, d, h => by
    rw [leftL] at h ⊢
    split
    · rename_i hn; rw [if_pos hn] at h; omega
    · rename_i hn
      rw [if_neg hn] at h
      have h1 := leftL_le r (leftN x n d) d h
      have h2 : 0 ≤ leftN x n d := by omega
      have h3 := leftN_le x n d h2
      rw [szL]; omega
theorem leftN_le : ∀ (x : Ln) (n : Int) (d : Nat), 0 ≤ leftN x n d → leftN x n d + szN x ≤ n
  | .mk T h K a, n, d, h0 => by
    rw [leftN] at h0 ⊢
    split
    · rename_i hn; rw [if_pos hn] at h0; omega
    · rename_i hn
      rw [if_neg hn] at h0
      split
      · rename_i hp; rw [if_pos hp] at h0; omega
      · rename_i hp
        rw [if_neg hp] at h0
        have := leftL_le K (n - 1 - T.length) (d - 1) h0
        rw [szN]; omega
end
mutual
theorem leftL_ge : ∀ (K : List Ln) (n : Int) (d : Nat), -1 ≤ n → -1 ≤ leftL K n d ∧ leftL K n d ≤ n
  | [], n, d, h => ⟨h, Int.le_refl _⟩
  | x :: r, n, d, h => by
    rw [leftL]
    split
    · exact ⟨h, Int.le_refl _⟩
    · rename_i hn
      have h1 := leftN_ge x n d (by omega)
      have h2 := leftL_ge r (leftN x n d) d h1.1
      omega
theorem leftN_ge : ∀ (x : Ln) (n : Int) (d : Nat), 0 ≤ n → -1 ≤ leftN x n d ∧ leftN x n d < n
  | .mk T h K a, n, d, hn => by
    rw [leftN]
    split
    · omega
    · rename_i h1
      split
      · omega
      · have := leftL_ge K (n - 1 - T.length) (d - 1) (by omega)
        omega
end
theorem q38 : ∀ (N : Nat) (K : List Ln) (v : AV) (n : Int) (d : Nat), -1 ≤ n → n < N → N ≤ 1000 → d ≤ 12 → TV [] 0 0 K v → callL T11 38 [v, AV.int .i64 n, AV.int .i64 (d : Nat)] [] = some (AV.int .i64 (leftL K n d), []) := by
  intro N
  induction N with
  | zero =>
    intro K v n d h1 h2 h3 h4 hv
    obtain rfl : n = -1 := by omega
    obtain ⟨⟨es, he, hl, -⟩⟩ := hv.at
    apply callL_body (vf := c38) rfl rfl
    simp [c38]
    refine wp_loop (fun k t => k = 0 ∧ t.get 0 = v ∧ t.get 1 = AV.int .i64 (-1) ∧ t.get 7 = AV.int .i64 0 ∧ t.mem = []) ?_ 0 _ (by simp)
    rintro k t ⟨rfl, e0, e1, e7, hm⟩
    rw [leftL_neg K (-1) d (by omega)]
    by_cases h0 : (0 : Int) < es.length
    · simp [e0, e1, e7, hm, he.view, he.len]
    · simp [e0, e1, e7, hm, he.view, he.len]
  | succ N ih =>
    intro K v n d h1 h2 h3 h4 hv
    obtain ⟨⟨es, he, hl, hes⟩⟩ := hv.at
    apply callL_body (vf := c38) rfl rfl
    simp [c38]
    refine wp_loop (fun k t => ∃ (j : Nat) (n' : Int), k = K.length - j ∧ j ≤ K.length ∧ t.get 0 = v ∧ t.get 1 = AV.int .i64 n' ∧ t.get 2 = AV.int .i64 (d : Nat) ∧ t.get 7 = AV.int .i64 (j : Nat) ∧ t.mem = [] ∧ -1 ≤ n' ∧ n' + j ≤ n ∧ leftL (K.drop j) n' d = leftL K n d) ?_ K.length _ ?_
    rotate_left
    · exact ⟨0, n, by simp; omega⟩
    rintro k t ⟨j, n', hk, hj, e0, e1, e2, e7, hm, hn1, hn2, hE⟩
    by_cases hlt : j < K.length
    rotate_left
    · have hli : ¬ (j : Int) < es.length := by omega
      rw [List.drop_eq_nil_of_le (by omega)] at hE
      simp only [leftL] at hE
      simp [e0, e1, e2, e7, hm, he.view, he.len, hli, ← hE]
    have hli : (j : Int) < es.length := by omega
    by_cases hng : n' < 0
    · rw [leftL_neg _ _ _ hng] at hE
      have hng' : ¬ 0 ≤ n' := by omega
      simp [e0, e1, e2, e7, hm, he.view, he.len, hli, hng', ← hE]
    have hge : 0 ≤ n' := by omega
    have hd : K.drop j = gi K (j : Int) :: K.drop (j + 1) := by rw [gi_nat hlt]; simp
    obtain ⟨nt, kv, hx, hkv⟩ := hes j (by omega)
    obtain ⟨pa, pa1, pa2, pa3, pa4, pa5, hfa⟩ := he.adr j (by omega)
    rw [hx] at hfa
    obtain ⟨b0, b01, b02, b03, b04⟩ := hfa 0 _ rfl
    obtain ⟨b2, b21, b22, b23, b24⟩ := hfa 2 _ rfl
    rw [hd] at hE
    generalize gi K (j : Int) = x at *
    obtain ⟨T, h, K', a⟩ := x
    simp only [Ln.toks, Ln.head, Ln.kids, Ln.at_] at *
    simp only [leftL, if_neg hng, leftN] at hE
    have w1 : W64 ((j : Int) + 1) ((j + 1 : Nat) : Int) := .mkI rfl (by omega) (by omega)
    by_cases hd0 : d = 0
    · rw [if_pos (.inl hd0), leftL_neg _ _ _ (by omega)] at hE
      subst hd0
      simp [e0, e1, e2, e7, hm, he.view, he.len, hli, hge, ← hE]
    by_cases hT : n' < T.length
    · rw [if_pos (.inr hT), leftL_neg _ _ _ (by omega)] at hE
      simp [e0, e1, e2, e7, hm, he.view, he.len, hli, hge, hd0, pa1, b01, b02, hT, ← hE]
    rw [if_neg (fun h => h.elim hd0 hT)] at hE
    simp [e0, e1, e2, e7, hm, he.view, he.len, hli, hge, hd0, pa1, b01, b02, hT]
    refine wp_loop (fun k u => ∃ i : Nat, k = T.length - i ∧ i ≤ T.length ∧ u.get 0 = v ∧ u.get 1 = AV.int .i64 n' ∧ u.get 2 = AV.int .i64 (d : Nat) ∧ u.get 7 = AV.int .i64 (j : Nat) ∧ u.get 8 = AV.int .i64 (i : Nat) ∧ u.mem = [] ∧ (T.drop i).any (fun p => decide (200 < p.t.length)) = T.any (fun p => decide (200 < p.t.length))) ?_ T.length _ ?_
    rotate_left
    · exact ⟨0, by simp [e0, e1, e2, e7, hm]⟩
    rintro k' u ⟨i, hk', hi, u0, u1, u2, u7, u8, um, hA⟩
    by_cases hit : i < T.length
    rotate_left
    · have hiti : ¬ (i : Int) < T.length := by omega
      rw [List.drop_eq_nil_of_le (by omega)] at hA
      rw [← hA] at hE
      simp only [List.any_nil, Bool.false_eq_true, if_false] at hE
      have hrec := ih K' kv.view (n' - 1 - T.length) (d - 1) (by omega) (by omega) (by omega) (by omega) hkv
      obtain ⟨⟨ek, hek, -⟩⟩ := hkv.at
      have hge2 := leftL_ge K' (n' - 1 - T.length) (d - 1) (by omega)
      have w2 : W64 (n' - 1) (n' - 1) := .mkI rfl (by omega) (by omega)
      have w3 : W64 (n' - 1 - (T.length : Int)) (n' - 1 - T.length) := .mkI rfl (by omega) (by omega)
      have w4 : W64 ((d : Int) - 1) ((d - 1 : Nat) : Int) := .mkI (by omega) (by omega) (by omega)
      simp [u0, u1, u2, u7, u8, um, he.view, pa1, b01, b02, b21, b22, hiti, w1.eq, w2.eq, w3.eq, w4.eq, hrec, hek.nl, hek.view, -Int.natCast_add]
      exact ⟨K.length - (j + 1), by omega, j + 1, rfl, by omega, rfl, hge2.1, by omega, hE⟩
    have hiti : (i : Int) < T.length := by omega
    have hgt : gi T (i : Int) = T[i] := gi_nat hit
    have hdt : T.drop i = T[i] :: T.drop (i + 1) := by simp
    rw [hdt] at hA
    simp only [List.any_cons] at hA
    have w5 : W64 ((i : Int) + 1) ((i + 1 : Nat) : Int) := .mkI rfl (by omega) (by omega)
    generalize T[i] = p at *
    obtain ⟨pk, pt, pn, pa'⟩ := p
    by_cases hlong : 200 < pt.length
    · have hli2 : (200 : Int) < pt.length := by omega
      have hAny : T.any (fun p => decide (200 < p.t.length)) = true := by rw [← hA]; simp [hlong]
      rw [if_pos hAny, leftL_neg _ _ _ (by omega)] at hE
      simp [u0, u1, u2, u7, u8, um, he.view, pa1, b01, b02, hiti, hgt, et, hli2, ← hE, -et_def]
    · have hli2 : ¬ (200 : Int) < pt.length := by omega
      simp only [hlong, decide_false, Bool.false_or] at hA
      simp [u0, u1, u2, u7, u8, um, he.view, pa1, b01, b02, hiti, hgt, et, hli2, w5.eq, -et_def, -Int.natCast_add]
      exact ⟨T.length - (i + 1), by omega, i + 1, rfl, by omega, rfl, hA⟩
theorem q12 (K : List Ln) (v : AV) (hv : TV [] 0 0 K v) : callL T11 12 [v, AV.int .i64 300] [] = some (.bool (decide (0 ≤ leftL K 300 12)), []) := by
  have h : callL T11 38 [v, AV.int .i64 300, AV.int .i64 12] [] = _ := q38 301 K v 300 12 (by omega) (by omega) (by omega) (by omega) hv
  obtain ⟨⟨es, he, -⟩⟩ := hv.at
  apply callL_body (vf := c12) rfl rfl
  simp [c12, h, he.view, he.nl]
end Go.Vm.Ch11
