/- Chapter 10: what its functions compute. -/
import Derived.Test.YtmncbcgcahfdcaaGreatDoorC10xe
namespace Go.Vm.Ch10
open _root_.Ch10 (T10 c3)
set_option maxRecDepth 10000
set_option maxHeartbeats 16000000
/-! ### how large a tree is -/
mutual
theorem szL_pre (b : Nat) : ∀ K : List Ln, szL K = ((pre b K).map fun x => 1 + x.2.toks.length).sum
  | [] => rfl
  | x :: r => by
    rw [szL, pre, List.map_append, List.sum_append, ← szL_pre b r, ← szN_pre b x]
theorem szN_pre (b : Nat) : ∀ x : Ln, szN x = ((preN b x).map fun x => 1 + x.2.toks.length).sum
  | .mk T h K a => by
    rw [szN, preN, List.map_cons, List.sum_cons, ← szL_pre (b + 1) K]
end
theorem sum_le {α : Type} {f : α → Nat} {k : Nat} : ∀ {l : List α}, (∀ x ∈ l, f x ≤ k) → (l.map f).sum ≤ k * l.length
  | [], _ => Nat.zero_le _
  | x :: l, h => by
    have h1 := h x (by simp)
    have h2 := sum_le (f := f) (l := l) (k := k) fun y hy => h y (List.mem_cons_of_mem _ hy)
    rw [List.map_cons, List.sum_cons, List.length_cons, Nat.mul_add]
    omega
/-- What Parse finds is a tree in pre-order. -/
theorem par_ok : ∀ (rows : List (List UInt8)) (i : Nat) (c : Chain) (acc : List (Nat × L0)), parF rows i (pre 0 (Tc c)) = .ok acc → ∃ c', acc = pre 0 (Tc c') ∧ acc.length ≤ (pre 0 (Tc c)).length + rows.length ∧ ((∀ x ∈ pre 0 (Tc c), x.2.toks.length ≤ 64) → ∀ x ∈ acc, x.2.toks.length ≤ 64)
  | [], i, c, acc, h => by
    simp only [parF, Par.ok.injEq] at h
    exact ⟨c, h.symm, by rw [← h]; simp, by rw [← h]; exact fun h => h⟩
  | row :: rows, i, c, acc, h => by
    simp only [parF] at h
    cases hsc : scanS row with
    | fault e l => rw [hsc] at h; cases h
    | ok ind T hd cm =>
      rw [hsc] at h
      have hT := scan_len hsc
      obtain ⟨d, rfl, hd6⟩ := scan_ind hsc
      cases T with
      | nil =>
        obtain ⟨c', h1, h2, h3⟩ := par_ok rows (i + 1) c acc h
        exact ⟨c', h1, by rw [List.length_cons]; omega, h3⟩
      | cons x T =>
        simp only at h
        by_cases hc : (mostF (pre 0 (Tc c)) : Int) < d
        · rw [if_pos hc] at h; cases h
        · rw [if_neg hc] at h
          have hmc := most_ch c
          have hdc : d ≤ c.length := by split at hmc <;> omega
          have e := pre_ins ⟨x :: T, hd, (i + 1 : Nat)⟩ d 0 c hdc
          rw [Nat.zero_add] at e
          simp only [Int.toNat_natCast] at h
          rw [← e] at h
          obtain ⟨c', h1, h2, h3⟩ := par_ok rows (i + 1) _ acc h
          refine ⟨c', h1, ?_, fun ha => h3 ?_⟩
          · rw [e, List.length_append, List.length_singleton] at h2
            rw [List.length_cons]; omega
          · rw [e]
            intro y hy
            rcases List.mem_append.1 hy with hy | hy
            · exact ha y hy
            · rw [List.mem_singleton] at hy
              subst hy; exact hT
theorem parR_ok {s : List UInt8} {acc : List (Nat × L0)} (h : parR s = .ok acc) : ∃ c, acc = pre 0 (Tc c) ∧ treeF (acc.length + 1) 0 acc = Tc c ∧ szL (Tc c) ≤ 65 * (s.length + 1) ∧ s.length ≤ 65536 := by
  unfold parR at h
  split at h
  · cases h
  · rename_i h1
    obtain ⟨c, h2, h3, h4⟩ := par_ok (linesL s) 0 [] acc h
    refine ⟨c, h2, by rw [h2]; exact tree_pre 0 _ _ (Nat.le_succ _), ?_, by omega⟩
    have h5 := h4 (by simp [Tc, pre])
    have h6 := linesL_len s
    rw [szL_pre 0, ← h2]
    refine Nat.le_trans (sum_le (k := 65) fun x hx => by have := h5 x hx; omega) ?_
    simp only [Tc, pre, List.length_nil] at h3
    exact Nat.mul_le_mul_left _ (by omega)
theorem TV_lns {m : Mem} {lo hi : Nat} : ∀ (n : Nat) (K : List Ln), szL K < n → TV m lo hi K (lnsV K)
  | 0, _, h => absurd h (Nat.not_lt_zero _)
  | n + 1, K, h => by
    refine .mk K _ (fun j => !(gi K (j : Int)).toks.isEmpty) (fun j => lnsV (gi K (j : Int)).kids) (.inl ⟨!K.isEmpty, ?_, fun h => ?_⟩) (fun j hj h => by simpa using h) fun j hj => ?_
    · rw [lnsV_eq]
      simp only [ovn, vv]
      congr 1
      apply List.ext_getElem
      · simp
      · intro j h1 h2
        have hj : j < K.length := by simpa using h1
        simp only [List.getElem_map, List.getElem_range, gi_nat hj]
        cases K[j] with
        | mk T h K a => rfl
    · simp at h; simp [h]
    · have h1 := szL_get K j hj
      rw [← gi_nat hj] at h1
      cases hg : gi K (j : Int) with
      | mk T hd K' a =>
        rw [hg, szN] at h1
        simp only [Ln.kids]
        have e : (lnsV K').view = lnsV K' := by rw [lnsV_eq]; rfl
        rw [e]
        exact TV_lns n K' (by omega)
theorem toksEq_refl (p : Bool) : ∀ T, toksEq p T T = true
  | [] => rfl
  | x :: r => by simp [toksEq, tkEq, toksEq_refl p r]
mutual
theorem eqL_refl (p : Bool) : ∀ K, eqL p K K = true
  | [] => rfl
  | x :: r => by rw [eqL, eqL_refl p r, eqN_refl p x]; rfl
theorem eqN_refl (p : Bool) : ∀ x, eqN p x x = true
  | .mk T h K a => by simp [eqN, eqL_refl p K, toksEq_refl]
end
theorem callL_ex3 {T : FuncId → Option VF} {f : FuncId} {vf : VF} {args : List AV} {m : Mem} {v : AV} (hT : T f = some vf) (hl : args.length = vf.nparams)
    (h : wp T vf.body (St.init args m) (retK vf.results fun u _ => u = v)) : ∃ m', callL T f args m = some (v, m') := by
  obtain ⟨u, m', h1, h2⟩ := callL_exP hT hl h
  exact ⟨m', by rw [h1, h2]⟩
theorem q3 (s : List UInt8) : ∃ m', callL T10 3 [.str s] [] = some (.bool true, m') := by
  obtain ⟨m, ha⟩ := Aw.awake
  apply callL_ex3 (vf := c3) rfl rfl
  by_cases a1 : 1500 < s.length ∧ s.length ≤ 65536
  · have b1 : (1500 : Int) < s.length := by omega
    have b2 : (s.length : Int) ≤ 65536 := by omega
    simp [c3, ha, b1, b2]
  by_cases a2 : 100000 < s.length
  · have b1 : (1500 : Int) < s.length := by omega
    have b2 : ¬ (s.length : Int) ≤ 65536 := by omega
    have b3 : (100000 : Int) < s.length := by omega
    simp [c3, ha, b1, b2, b3]
  have b3 : ¬ (100000 : Int) < s.length := by omega
  have hgo : (¬ (1500 : Int) < s.length) ∨ (1500 : Int) < s.length ∧ ¬ (s.length : Int) ≤ 65536 := by omega
  obtain ⟨v, m', h10, -, hml, hmf, hp⟩ := q10 s m
  have h11 := q11 s
  cases hr : parR s with
  | fault e l c =>
    rw [hr] at hp h11
    subst hp
    simp only [parV] at h11
    have h12 : callL T10 12 [.vec none false [], .vec none false [], .bool true] m' = some (.bool true, m') := q12 1 true [] [] _ _ m' 0 0 0 0 (by simp [szL]) (by omega) .nil .nil
    rcases hgo with b1 | ⟨b1, b2⟩
    · simp [c3, ha, b1, b3, h10, h11, h12, objCells]
    · simp [c3, ha, b1, b2, b3, h10, h11, h12, objCells]
  | ok acc =>
    rw [hr] at hp h11
    obtain ⟨kv, rfl, hkv, -⟩ := hp
    obtain ⟨c, hc1, hc2, hc3, hc4⟩ := parR_ok hr
    simp only [parV] at h11
    rw [hc2] at hkv h11
    have h12 := q12 (szL (Tc c) + 1) true (Tc c) (Tc c) kv (lnsV (Tc c)) m' _ _ 0 0 (Nat.lt_succ_self _) (by omega) hkv (TV_lns _ _ (Nat.lt_succ_self _))
    have b1 : ¬ (1500 : Int) < s.length := by omega
    obtain ⟨⟨es, hes, -⟩⟩ := hkv.at
    rw [eqL_refl, lnsV_eq] at h12
    rw [lnsV_eq] at h11
    simp [c3, ha, b1, b3, h10, h11, h12, hes.tk, hes.view, hes.nl, objCells]
end Go.Vm.Ch10
