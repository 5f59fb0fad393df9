/- Chapter 10: what its functions compute. -/
import Derived.Test.YtmncbcgcahfdcaaGreatDoorC10xf
namespace Go.Vm.Ch10
open _root_.Ch10 (T10)
set_option maxRecDepth 10000
set_option maxHeartbeats 16000000
/-! ### how large a tree is -/
mutual
theorem szL_pre (b : Nat) : ∀ K : List Ln, szL K = ((pre b K).map fun x => 1 + x.2.toks.length).sum
  | [] => rfl
  | x :: r => by
    rw [szL, pre, List.map_append, List.sum_append, ← szL_pre b r, ← szN_pre b x]
theorem szN_pre (b : Nat) : ∀ x : Ln, szN x = ((preN b x).map fun x => 1 + x.2.toks.length).sum
  | .mk T h K a => by
    rw [szN, preN, List.map_cons, List.sum_cons, ← szL_pre (b + 1) K]
end
theorem sum_le {α : Type} {f : α → Nat} {k : Nat} : ∀ {l : List α}, (∀ x ∈ l, f x ≤ k) → (l.map f).sum ≤ k * l.length
  | [], _ => Nat.zero_le _
  | x :: l, h => by
    have h1 := h x (by simp)
    have h2 := sum_le (f := f) (l := l) (k := k) fun y hy => h y (List.mem_cons_of_mem _ hy)
    rw [List.map_cons, List.sum_cons, List.length_cons, Nat.mul_add]
    omega
/-- What Parse finds is a tree in pre-order. -/
theorem par_ok : ∀ (rows : List (List UInt8)) (i : Nat) (c : Chain) (acc : List (Nat × L0)), parF rows i (pre 0 (Tc c)) = .ok acc → ∃ c', acc = pre 0 (Tc c') ∧ acc.length ≤ (pre 0 (Tc c)).length + rows.length ∧ ((∀ x ∈ pre 0 (Tc c), x.2.toks.length ≤ 64) → ∀ x ∈ acc, x.2.toks.length ≤ 64)
  | [], i, c, acc, h => by
    simp only [parF, Par.ok.injEq] at h
    exact ⟨c, h.symm, by rw [← h]; simp, by rw [← h]; exact fun h => h⟩
  | row :: rows, i, c, acc, h => by
    simp only [parF] at h
    cases hsc : scanS row with
    | fault e l => rw [hsc] at h; cases h
    | ok ind T hd cm =>
      rw [hsc] at h
      have hT := scan_len hsc
      obtain ⟨d, rfl, hd6⟩ := scan_ind hsc
      cases T with
      | nil =>
        obtain ⟨c', h1, h2, h3⟩ := par_ok rows (i + 1) c acc h
        exact ⟨c', h1, by rw [List.length_cons]; omega, h3⟩
      | cons x T =>
        simp only at h
        by_cases hc : (mostF (pre 0 (Tc c)) : Int) < d
        · rw [if_pos hc] at h; cases h
        · rw [if_neg hc] at h
          have hmc := most_ch c
          have hdc : d ≤ c.length := by split at hmc <;> omega
          have e := pre_ins ⟨x :: T, hd, (i + 1 : Nat)⟩ d 0 c hdc
          rw [Nat.zero_add] at e
          simp only [Int.toNat_natCast] at h
          rw [← e] at h
          obtain ⟨c', h1, h2, h3⟩ := par_ok rows (i + 1) _ acc h
          refine ⟨c', h1, ?_, fun ha => h3 ?_⟩
          · rw [e, List.length_append, List.length_singleton] at h2
            rw [List.length_cons]; omega
          · rw [e]
            intro y hy
            rcases List.mem_append.1 hy with hy | hy
            · exact ha y hy
            · rw [List.mem_singleton] at hy
              subst hy; exact hT
theorem parR_ok {s : List UInt8} {acc : List (Nat × L0)} (h : parR s = .ok acc) : ∃ c, acc = pre 0 (Tc c) ∧ treeF (acc.length + 1) 0 acc = Tc c ∧ szL (Tc c) ≤ 65 * (s.length + 1) ∧ s.length ≤ 65536 := by
  unfold parR at h
  split at h
  · cases h
  · rename_i h1
    obtain ⟨c, h2, h3, h4⟩ := par_ok (linesL s) 0 [] acc h
    refine ⟨c, h2, by rw [h2]; exact tree_pre 0 _ _ (Nat.le_succ _), ?_, by omega⟩
    have h5 := h4 (by simp [Tc, pre])
    have h6 := linesL_len s
    rw [szL_pre 0, ← h2]
    refine Nat.le_trans (sum_le (k := 65) fun x hx => by have := h5 x hx; omega) ?_
    simp only [Tc, pre, List.length_nil] at h3
    exact Nat.mul_le_mul_left _ (by omega)
theorem TV_lns {m : Mem} {lo hi : Nat} : ∀ (n : Nat) (K : List Ln), szL K < n → TV m lo hi K (lnsV K)
  | 0, _, h => absurd h (Nat.not_lt_zero _)
  | n + 1, K, h => by
    refine .mk K _ (fun j => !(gi K (j : Int)).toks.isEmpty) (fun j => lnsV (gi K (j : Int)).kids) (.inl ⟨!K.isEmpty, ?_, fun h => ?_⟩) (fun j hj h => by simpa using h) fun j hj => ?_
    · rw [lnsV_eq]
      simp only [ovn, vv]
      congr 1
      apply List.ext_getElem
      · simp
      · intro j h1 h2
        have hj : j < K.length := by simpa using h1
        simp only [List.getElem_map, List.getElem_range, gi_nat hj]
        cases K[j] with
        | mk T h K a => rfl
    · simp at h; simp [h]
    · have h1 := szL_get K j hj
      rw [← gi_nat hj] at h1
      cases hg : gi K (j : Int) with
      | mk T hd K' a =>
        rw [hg, szN] at h1
        simp only [Ln.kids]
        have e : (lnsV K').view = lnsV K' := by rw [lnsV_eq]; rfl
        rw [e]
        exact TV_lns n K' (by omega)
end Go.Vm.Ch10
