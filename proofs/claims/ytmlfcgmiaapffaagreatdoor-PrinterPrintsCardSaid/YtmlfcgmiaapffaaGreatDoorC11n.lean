/- Chapter 11: what its functions compute. -/
import Derived.Test.YtmlfcgmiaapffaaGreatDoorC11l
import Derived.Test.YtmlfcgmiaapffaaGreatDoorC11m
namespace Go.Vm.Ch11
open _root_.Ch11 (T11 c69)
set_option maxRecDepth 10000
set_option maxHeartbeats 16000000
theorem q28_rest (s : List UInt8) (hl : s.length ≤ 1000000) (i : Nat) (hi : i < s.length) (m : Mem) (hL : letterN s[i].toNat = false) (hdg : dg s[i] = false) (h45 : s[i].toNat ≠ 45) (hQ : s[i].toNat ≠ 34) : RefTok s i m := by
  have hd : s.drop i = s[i] :: s.drop (i + 1) := by simp
  have h32 := q98 s[i]
  have h41 := q100 s[i]
  have h43 := q104 s[i]
  rw [hL] at h32
  rw [hdg] at h41
  have h45i : ¬ (s[i].toNat : Int) = 45 := by omega
  have hQi : ¬ (s[i].toNat : Int) = 34 := by omega
  have w1 : W64 ((i : Int) + 1) ((i + 1 : Nat) : Int) := .mkI rfl (by omega) (by omega)
  have hLn : ¬ letterN s[i].toNat = true := by rw [hL]; decide
  have hNn : ¬ (dg s[i] = true ∨ s[i].toNat = 45) := by rw [hdg]; simp [h45]
  have hsub : (s.take (i + 1)).drop i = [s[i]] := by
    rw [List.drop_take, hd, Nat.add_sub_cancel_left]; rfl
  unfold RefTok
  rw [hd]
  simp only [lexT]
  rw [if_neg hLn, if_neg hNn, if_neg hQ]
  cases hS : sgB s[i] with
  | true =>
    rw [hS] at h43
    rw [if_pos rfl]
    refine ⟨4, [s[i]], 0, ((i + 1 : Nat) : Int), ((i + 1 : Nat) : Int), ?_, fun _ => ⟨rfl, rfl, rfl, rfl, rfl⟩⟩
    apply callL_body (vf := c69) rfl rfl
    simp [c69, hi, h32, h41, h43, h45i, hQi, w1.eq, hsub, objCells, -Int.natCast_add]
    omega
  | false =>
    rw [hS] at h43
    rw [if_neg (by decide)]
    refine ⟨0, [], 0, ((i + 1 : Nat) : Int), ((i + 1 : Nat) : Int), ?_, fun h => by cases h⟩
    apply callL_body (vf := c69) rfl rfl
    simp [c69, hi, h32, h41, h43, h45i, hQi, w1.eq, hsub, objCells, lxE, -Int.natCast_add]
theorem q28_text (s : List UInt8) (hl : s.length ≤ 1000000) (i : Nat) (hi : i < s.length) (m : Mem) (hQ : s[i].toNat = 34) : RefTok s i m := by
  have hd : s.drop i = s[i] :: s.drop (i + 1) := by simp
  have hQi : (s[i].toNat : Int) = 34 := by omega
  have hL : letterN s[i].toNat = false := by unfold letterN; rw [decide_eq_false_iff_not]; omega
  have hdg : dg s[i] = false := by unfold dg; rw [decide_eq_false_iff_not]; omega
  have h32 := q98 s[i]
  have h41 := q100 s[i]
  rw [hL] at h32
  rw [hdg] at h41
  rw [hQi] at h32 h41
  have w1 : W64 ((i : Int) + 1) ((i + 1 : Nat) : Int) := .mkI rfl (by omega) (by omega)
  have hLn : ¬ letterN s[i].toNat = true := by rw [hL]; decide
  have hNn : ¬ (dg s[i] = true ∨ s[i].toNat = 45) := by rw [hdg]; simp [hQ]
  obtain ⟨U, hU⟩ : ∃ U, upto 34 (s.drop (i + 1)) = U := ⟨_, rfl⟩
  have hUl : U.length ≤ s.length - (i + 1) := by rw [← hU]; have := upto_le 34 (s.drop (i + 1)); simpa using this
  have hUt : (s.drop (i + 1)).take U.length = U := by rw [← hU]; exact upto_take _ _
  have hsub : (s.take (i + 1 + U.length)).drop (i + 1) = U := by
    rw [List.drop_take, Nat.add_sub_cancel_left]; exact hUt
  have h16 := q103 U (by omega) []
  unfold RefTok
  rw [hd]
  simp only [lexT]
  rw [if_neg hLn, if_neg hNn, if_pos hQ, hU]
  obtain ⟨E, hE⟩ : ∃ E, i + 1 + U.length = E := ⟨_, rfl⟩
  rw [hE] at hsub
  have hdl : (s.drop (i + 1)).length = s.length - (i + 1) := by simp
  have w2 : W64 ((E : Int) + 1) ((E + 1 : Nat) : Int) := .mkI rfl (by omega) (by omega)
  -- the loop
  have loop : ∀ (Q : VExit → St → Prop) (t : St), t.get 0 = .str s → t.get 14 = AV.int .i64 ((i + 1 : Nat) : Int) → (∀ t', t'.get 0 = .str s → t'.get 1 = t.get 1 → t'.get 4 = t.get 4 → t'.get 7 = t.get 7 → t'.get 14 = AV.int .i64 E → t'.loc = t.loc → t'.mem = t.mem → Q (.exit 1) t') →
      wp T11 (.loop (.seq (.seq (.region [⟨(.some 121), (.move (.t 14)), .none⟩, ⟨(.some 122), (.move (.t 0)), .none⟩, ⟨(.some 123), (.lenStr (.t 122)), .none⟩, ⟨(.some 124), (.bin .lss (.t 121) (.t 123)), .none⟩, ⟨(.some 125), (.move (.t 124)), .none⟩, ⟨(.some 126), (.move (.t 0)), (.some (125, .true))⟩, ⟨(.some 127), (.move (.t 14)), (.some (125, .true))⟩, ⟨(.some 128), (.idxStr (.t 126) (.t 127)), (.some (125, .true))⟩, ⟨(.some 129), (.bin .neq (.t 128) (.k (.int .u8 34))), (.some (125, .true))⟩, ⟨(.some 130), (.pick (.t 125) (.t 129) (.k (.bool .false))), .none⟩]) (.cond (.t 130) .skip (.exit 1))) (.block 2 (.region [⟨(.some 131), (.move (.t 14)), .none⟩, ⟨(.some 132), (.bin .add (.t 131) (.k (.int .i64 1))), .none⟩, ⟨(.some 14), (.assign (.t 132)), .none⟩])))) t Q := by
    intro Q t e0 e14 hQ
    refine wp_loop (fun n u => ∃ j : Nat, n = s.length - j ∧ j ≤ s.length ∧ u.get 0 = .str s ∧ u.get 1 = t.get 1 ∧ u.get 4 = t.get 4 ∧ u.get 7 = t.get 7 ∧ u.get 14 = AV.int .i64 (j : Int) ∧ u.loc = t.loc ∧ u.mem = t.mem ∧ j + (upto 34 (s.drop j)).length = E) ?_ _ t ⟨i + 1, rfl, by omega, e0, rfl, rfl, rfl, e14, rfl, rfl, by rw [hU]; exact hE⟩
    rintro n u ⟨j, hn, hj, f0, f1, f4, f7, f14, fl, fm, hjE⟩
    by_cases hlt : j < s.length
    · have hdj : s.drop j = s[j] :: s.drop (j + 1) := by simp
      have wj : W64 ((j : Int) + 1) ((j + 1 : Nat) : Int) := .mkI rfl (by omega) (by omega)
      rw [hdj] at hjE
      unfold upto at hjE
      by_cases h34 : (s[j].toNat : Int) = 34
      · have hb : (s[j] == 34) = true := by rw [beq_iff_eq]; exact UInt8.toNat_inj.1 (by show s[j].toNat = 34; omega)
        rw [List.takeWhile_cons, hb] at hjE
        simp only [Bool.not_true, Bool.false_eq_true, if_false, List.length_nil, Nat.add_zero] at hjE
        subst hjE
        simp [f0, f14, hlt, h34]
        exact hQ _ (by simp [f0]) (by simp [f1]) (by simp [f4]) (by simp [f7]) (by simp [f14]) (by simp [fl]) (by simp [fm])
      · have hb : (s[j] == 34) = false := by rw [Bool.eq_false_iff]; intro h; rw [beq_iff_eq] at h; rw [h] at h34; exact h34 rfl
        rw [List.takeWhile_cons, hb] at hjE
        simp only [Bool.not_false, if_true, List.length_cons] at hjE
        simp [f0, f14, hlt, h34, wj.eq, -Int.natCast_add]
        exact ⟨s.length - (j + 1), by omega, j + 1, rfl, by omega, f1, f4, f7, rfl, fl, fm, by unfold upto; omega⟩
    · have hje : j = E := by
        rw [List.drop_eq_nil_of_le (by omega)] at hjE
        simpa [upto] using hjE
      subst hje
      simp [f0, f14, hlt]
      exact hQ _ (by simp [f0]) (by simp [f1]) (by simp [f4]) (by simp [f7]) (by simp [f14]) (by simp [fl]) (by simp [fm])
  by_cases hf : U.length < (s.drop (i + 1)).length
  · rw [if_pos hf]
    have hEl : ¬ (E : Int) = s.length := by omega
    cases hlab : labelOK U with
    | true =>
      rw [if_pos rfl]
      rw [hlab] at h16
      refine ⟨3, U, 0, ((i + 1 : Nat) : Int), ((E + 1 : Nat) : Int), ?_, fun _ => ⟨rfl, rfl, rfl, rfl, by simp only; omega⟩⟩
      apply callL_body (vf := c69) rfl rfl
      simp [c69, hi, h32, h41, hQi, w1.eq, objCells, -Int.natCast_add]
      refine loop _ _ (by simp) (by simp) ?_
      intro t' f0 f1 f4 f7 f14 fl fm
      simp at f1 f4 f7 fl fm
      simp [f0, f1, f4, f7, f14, fl, fm, hEl, w1.eq, w2.eq, hsub, h16, objCells, -Int.natCast_add]
      omega
    | false =>
      rw [if_neg (by decide)]
      rw [hlab] at h16
      refine ⟨3, U, 0, ((i + 1 : Nat) : Int), ((E + 1 : Nat) : Int), ?_, fun h => by cases h⟩
      apply callL_body (vf := c69) rfl rfl
      simp [c69, hi, h32, h41, hQi, w1.eq, objCells, -Int.natCast_add]
      refine loop _ _ (by simp) (by simp) ?_
      intro t' f0 f1 f4 f7 f14 fl fm
      simp at f1 f4 f7 fl fm
      simp [f0, f1, f4, f7, f14, fl, fm, hEl, w1.eq, w2.eq, hsub, h16, objCells, lxE, -Int.natCast_add]
      omega
  · rw [if_neg hf]
    have hEl : (E : Int) = s.length := by omega
    refine ⟨0, [], 0, ((i + 1 : Nat) : Int), (E : Int), ?_, fun h => by cases h⟩
    apply callL_body (vf := c69) rfl rfl
    simp [c69, hi, h32, h41, hQi, w1.eq, objCells, -Int.natCast_add]
    refine loop _ _ (by simp) (by simp) ?_
    intro t' f0 f1 f4 f7 f14 fl fm
    simp at f1 f4 f7 fl fm
    simp [f0, f1, f4, f7, f14, fl, fm, hEl, w1.eq, objCells, lxE, -Int.natCast_add]
    rfl
theorem q69 (s : List UInt8) (hl : s.length ≤ 1000000) (i : Nat) (hi : i < s.length) (m : Mem) : RefTok s i m := by
  cases hL : letterN s[i].toNat with
  | true => exact q28_word s hl i hi m hL
  | false =>
    cases hdg : dg s[i] with
    | true => exact q28_dig s hl i hi m hdg
    | false =>
      by_cases h45 : s[i].toNat = 45
      · exact q28_neg s hl i hi m h45
      · by_cases hQ : s[i].toNat = 34
        · exact q28_text s hl i hi m hQ
        · exact q28_rest s hl i hi m hL hdg h45 hQ
end Go.Vm.Ch11
