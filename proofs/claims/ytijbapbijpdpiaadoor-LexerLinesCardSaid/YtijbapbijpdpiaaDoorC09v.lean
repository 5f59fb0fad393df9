/- Chapter 09: what its functions compute. -/
import Derived.Test.YtijbapbijpdpiaaDoorC09t
namespace Go.Vm.Ch09
set_option maxRecDepth 10000
set_option maxHeartbeats 8000000
/-! ### what is scanned is spelled so, without a program -/
theorem pum_err (M : Nat) (r : List UInt8) : ∀ (l : List UInt8) (acc : Nat), (∀ u, Lib.parseUintM M acc l ≠ .ok u) → ∀ u, Lib.parseUintM M acc (l ++ r) ≠ .ok u
  | [], acc, h, u => absurd rfl (h acc)
  | c :: l, acc, h, u => by
    rw [List.cons_append, Lib.parseUintM]
    rw [Lib.parseUintM] at h
    split
    · rename_i hc
      rw [if_pos hc] at h
      split
      · simp
      · rename_i h1
        rw [if_neg h1] at h
        split
        · simp
        · rename_i h2
          rw [if_neg h2] at h
          exact pum_err M r l _ h u
    · simp
theorem dec_of (M : Nat) : ∀ (k : Nat) (D : List UInt8), D.length = k → D ≠ [] → (∀ c ∈ D, dg c = true) → (D.head? = some 48 → D.length = 1) → ∀ u, Lib.parseUintM M 0 D = .ok u → Lib.decDigits u = D := by
  intro k
  induction k with
  | zero => intro D hl hne; exact absurd (List.length_eq_zero_iff.1 hl) hne
  | succ k ih =>
    intro D hl hne hd h0 u hu
    obtain ⟨D', d, rfl⟩ : ∃ D' d, D = D' ++ [d] := ⟨D.dropLast, D.getLast hne, (List.dropLast_concat_getLast hne).symm⟩
    have hdd : 48 ≤ d.toNat ∧ d.toNat ≤ 57 := of_decide_eq_true (hd d (by simp))
    have hd8 : UInt8.ofNat (48 + (d.toNat - 48)) = d := by
      apply UInt8.toNat_inj.1
      rw [of_dig (by omega)]; omega
    by_cases hD : D' = []
    · subst hD
      rw [List.nil_append] at hu ⊢
      rw [Lib.parseUintM, if_pos hdd] at hu
      split at hu
      · cases hu
      · split at hu
        · cases hu
        · simp only [Lib.parseUintM, Lib.NumEnd.ok.injEq] at hu
          subst hu
          rw [Lib.decDigits, dif_pos (by omega)]
          rw [show 0 * 10 + (d.toNat - 48) = d.toNat - 48 by omega, hd8]
    · have hex : ∃ a, Lib.parseUintM M 0 D' = .ok a := Classical.byContradiction fun hn => pum_err M [d] D' 0 (fun a ha => hn ⟨a, ha⟩) u hu
      obtain ⟨a, ha⟩ := hex
      rw [pum_app M [d] D' 0 a ha] at hu
      have hpos : 0 < D'.length := List.length_pos_iff.2 hD
      have hhd : (D' ++ [d]).head? = D'.head? := by
        cases D' with
        | nil => exact absurd rfl hD
        | cons => rfl
      have hn48 : D'.head? ≠ some 48 := fun h => by
        have := h0 (by rw [hhd]; exact h)
        rw [List.length_append, List.length_singleton] at this; omega
      have hdec := ih D' (by simp at hl; omega) hD (fun c hc => hd c (by simp [hc])) (fun h => absurd h hn48) a ha
      rw [Lib.parseUintM, if_pos hdd] at hu
      split at hu
      · cases hu
      · split at hu
        · cases hu
        · simp only [Lib.parseUintM, Lib.NumEnd.ok.injEq] at hu
          subst hu
          have ha0 : a ≠ 0 := by
            intro e
            subst e
            rw [Lib.decDigits, dif_pos (by decide)] at hdec
            rw [← hdec] at hn48
            exact hn48 rfl
          rw [Lib.decDigits, dif_neg (by omega)]
          rw [show (a * 10 + (d.toNat - 48)) / 10 = a by omega, show (a * 10 + (d.toNat - 48)) % 10 = d.toNat - 48 by omega, hdec, hd8]
/-- The text of a number is its spelling. -/
theorem num_canon {x : List UInt8} (h : numE x = 0) : Lib.itoa (prs (x.take (nE x))).1 = x.take (nE x) := by
  obtain ⟨hb, he, g1, g2⟩ := numE_0 h
  have hb' := hb
  unfold numBad at hb'
  simp only [Bool.or_eq_false_iff, decide_eq_false_iff_not, Bool.and_eq_false_iff] at hb'
  obtain ⟨⟨⟨h1, h2⟩, h3⟩, h4⟩ := hb'
  have hdig := nd_dig x
  have hne : nd x ≠ [] := fun e => h1 (by rw [e]; rfl)
  have hhd : (nd x).head? = (x.drop (sgn x)).head? := by
    unfold nd
    cases hq : x.drop (sgn x) with
    | nil => rfl
    | cons z r =>
      have : nd x = (z :: r).takeWhile dg := by unfold nd; rw [hq]
      rw [List.takeWhile_cons] at this ⊢
      split at this
      · rename_i hz; rw [if_pos hz]; rfl
      · exact absurd this hne
  have h0 : (nd x).head? = some 48 → (nd x).length = 1 := fun hh => by
    rcases h3 with h3 | h3
    · have := List.length_pos_iff.2 hne; omega
    · exact absurd (by rw [← hhd]; exact hh) h3
  rw [num_text] at he g1 g2 h4 ⊢
  unfold prs at he ⊢
  rcases sgn_text x with ⟨s1, s2, r, s3⟩ | ⟨s1, s2⟩
  · rw [s2] at he h4 ⊢
    unfold Lib.parseIntB at he ⊢
    simp only [List.cons_append, List.nil_append] at he h4 ⊢
    rw [if_pos (by decide)] at he ⊢
    unfold Lib.parseUintB at he ⊢
    rw [if_neg hne] at he ⊢
    cases hp : Lib.parseUintM (2 ^ 64 - 1) 0 (nd x) with
    | «syntax» => rw [hp] at he; cases he
    | range => rw [hp] at he; cases he
    | ok u =>
      rw [hp] at he
      simp only at he ⊢
      have hdec := dec_of _ _ _ rfl hne hdig h0 u hp
      rw [if_neg (fun h => h.1 (by decide))] at he ⊢
      by_cases hu : 2 ^ 63 < u
      · rw [if_pos ⟨by decide, hu⟩] at he; cases he
      · rw [if_neg (fun h => hu h.2), if_pos (by decide)]
        simp only
        have hu0 : u ≠ 0 := by
          intro e
          subst e
          rw [Lib.decDigits, dif_pos (by decide)] at hdec
          rw [← hdec] at h4
          exact h4 rfl
        unfold Lib.itoa
        rw [if_pos (by omega)]
        have : (-(u : Int)).natAbs = u := by omega
        rw [this, hdec]
  · rw [s2, List.nil_append] at he ⊢
    obtain ⟨y, D, hD⟩ : ∃ y D, nd x = y :: D := by
      cases hq : nd x with
      | nil => exact absurd hq hne
      | cons y D => exact ⟨y, D, rfl⟩
    have hy : 48 ≤ y.toNat ∧ y.toNat ≤ 57 := of_decide_eq_true (hdig y (by rw [hD]; simp))
    rw [hD] at he hdig h0 hne ⊢
    unfold Lib.parseIntB at he ⊢
    simp only at he ⊢
    rw [if_neg (by omega)] at he ⊢
    unfold Lib.parseUintB at he ⊢
    rw [if_neg hne] at he ⊢
    cases hp : Lib.parseUintM (2 ^ 64 - 1) 0 (y :: D) with
    | «syntax» => rw [hp] at he; cases he
    | range => rw [hp] at he; cases he
    | ok u =>
      rw [hp] at he
      simp only at he ⊢
      have hdec := dec_of _ _ _ rfl hne hdig h0 u hp
      by_cases hu : 2 ^ 63 ≤ u
      · rw [if_pos ⟨by omega, hu⟩] at he; cases he
      · rw [if_neg (fun h => hu h.2), if_neg (fun h => by have := h.1; omega), if_neg (by omega)]
        simp only
        unfold Lib.itoa
        rw [if_neg (by omega)]
        simpa using hdec
theorem tw_idem {p : UInt8 → Bool} (l : List UInt8) : (l.takeWhile p).takeWhile p = l.takeWhile p := by
  induction l with
  | nil => rfl
  | cons x r ih =>
    rw [List.takeWhile_cons]
    split
    · rename_i h; rw [List.takeWhile_cons, if_pos h, ih]
    · rfl
/-- A token that is read is valid, and stands there as it is spelled. -/
theorem lex_valid {c : UInt8} {r : List UInt8} (h : (lexT (c :: r)).e = 0) :
    valP (lexT (c :: r)).k (lexT (c :: r)).t (lexT (c :: r)).n = true ∧ (c :: r).take (lexT (c :: r)).l = spl (lexT (c :: r)).k (lexT (c :: r)).t (lexT (c :: r)).n := by
  obtain ⟨X, hX⟩ : ∃ X, lexT (c :: r) = X := ⟨_, rfl⟩
  rw [hX] at h ⊢
  simp only [lexT] at hX
  by_cases hL : letterN c.toNat = true
  · rw [if_pos hL] at hX
    by_cases h40 : 40 < ((c :: r).takeWhile pd).length
    · rw [if_pos h40] at hX; subst hX; cases h
    · rw [if_neg h40] at hX
      subst hX
      have hp : pd c = true := by
        have key : ∀ n : Fin 256, letterN n.val = true → partN n.val = true := by decide +kernel
        exact key ⟨c.toNat, c.toNat_lt⟩ hL
      simp only
      refine ⟨?_, ?_⟩
      · unfold valP
        rw [if_pos rfl, tw_idem]
        have hh : ((c :: r).takeWhile pd).head? = some c := by rw [List.takeWhile_cons, if_pos hp]; rfl
        rw [hh]
        simp only [hL, Bool.and_eq_true, decide_eq_true_eq, and_true, true_and, decide_true]
        exact ⟨by rw [List.takeWhile_cons, if_pos hp]; simp, by omega⟩
      · unfold spl
        rw [if_neg (by decide), if_neg (by decide)]
        exact (List.prefix_iff_eq_take.1 (List.takeWhile_prefix _)).symm
  rw [if_neg hL] at hX
  by_cases hN : dg c = true ∨ c.toNat = 45
  · rw [if_pos hN] at hX
    subst hX
    simp only at h ⊢
    obtain ⟨-, -, g1, g2⟩ := numE_0 h
    rw [if_pos h, if_pos h]
    refine ⟨?_, ?_⟩
    · unfold valP
      rw [if_neg (by decide), if_pos rfl]
      simp only [Bool.and_eq_true, decide_eq_true_eq]
      exact ⟨trivial, by omega, by omega⟩
    · unfold spl
      rw [if_pos rfl, num_canon h]
  rw [if_neg hN] at hX
  by_cases hQ : c.toNat = 34
  · rw [if_pos hQ] at hX
    by_cases h1 : (upto 34 r).length < r.length
    · rw [if_pos h1] at hX
      by_cases h2 : labelOK (upto 34 r) = true
      · rw [if_pos h2] at hX
        subst hX
        simp only
        refine ⟨?_, ?_⟩
        · unfold valP
          rw [if_neg (by decide), if_neg (by decide), if_pos rfl]
          simp [h2]
        · unfold spl
          rw [if_neg (by decide), if_pos rfl]
          have hc : c = 34 := UInt8.toNat_inj.1 (by show c.toNat = 34; omega)
          have hnext : r[(upto 34 r).length]'h1 = 34 := by
            have key : ∀ (l : List UInt8) (h : (upto 34 l).length < l.length), l[(upto 34 l).length] = 34 := by
              intro l
              induction l with
              | nil => intro h; simp at h
              | cons x y ih =>
                intro h
                unfold upto at h ih ⊢
                by_cases hx : x = 34
                · simp [hx]
                · have hb : (!(x == 34)) = true := by simp [hx]
                  simp only [List.takeWhile_cons, hb, if_true, List.length_cons] at h ⊢
                  simpa using ih (by omega)
            exact key r h1
          rw [hc, List.take_succ_cons, List.take_succ_eq_append_getElem h1, hnext, upto_take]
      · rw [if_neg h2] at hX; subst hX; cases h
    · rw [if_neg h1] at hX; subst hX; cases h
  rw [if_neg hQ] at hX
  by_cases hS : sgB c = true
  · rw [if_pos hS] at hX
    subst hX
    simp only
    refine ⟨?_, ?_⟩
    · unfold valP
      rw [if_neg (by decide), if_neg (by decide), if_neg (by decide), if_pos rfl]
      simp [hS]
    · unfold spl
      rw [if_neg (by decide), if_neg (by decide)]
      simp
  · rw [if_neg hS] at hX; subst hX; cases h
end Go.Vm.Ch09
