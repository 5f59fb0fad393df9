/- Chapter 11: what its functions compute. -/
import Derived.Test.YtmlfcgmiaapffaaGreatDoorT11a
namespace Go.Vm.Ch11
open _root_.Ch11 (T11 c5 c6 c9 c10)
set_option maxRecDepth 10000
set_option maxHeartbeats 16000000
theorem diff_kinds : ∀ (f : Nat) (o n : List Rw), ∀ e ∈ diffF f o n, e.1 = 0 ∨ e.1 = 1 ∨ e.1 = 2
  | 0, _, _, e, h => by simp [diffF] at h
  | f + 1, [], [], e, h => by simp [diffF] at h
  | f + 1, [], b :: n, e, h => by
    simp only [diffF, List.mem_cons] at h
    rcases h with rfl | h
    · simp
    · exact diff_kinds f [] n e h
  | f + 1, a :: o, [], e, h => by
    simp only [diffF, List.mem_cons] at h
    rcases h with rfl | h
    · simp
    · exact diff_kinds f o [] e h
  | f + 1, a :: o, b :: n, e, h => by
    simp only [diffF] at h
    split at h
    · rcases List.mem_cons.1 h with rfl | h
      · simp
      · exact diff_kinds f o n e h
    · split at h
      · rcases List.mem_cons.1 h with rfl | h
        · simp
        · exact diff_kinds f o (b :: n) e h
      · rcases List.mem_cons.1 h with rfl | h
        · simp
        · exact diff_kinds f (a :: o) n e h
theorem diff_good (o n : List Rw) : (diffL o n).any badE = false := by
  rw [List.any_eq_false]
  intro e he
  have := diff_kinds _ o n e he
  simp [badE]; omega
theorem inv_good (o n : List Rw) : ((diffL o n).map invE).any badE = false := by
  rw [List.any_eq_false]
  intro e he
  obtain ⟨x, hx, rfl⟩ := List.mem_map.1 he
  have := diff_kinds _ o n x hx
  rcases this with h | h | h <;> simp [badE, invE, h]
theorem law9 (o n : List Rw) (na nb : Bool) : ∃ m, callL T11 9 [sv na o, sv nb n] [] = some (.bool true, m) := by
  obtain ⟨mA, hw⟩ := Aw.awake
  have h27o := q27 o na 40 (by omega) []
  have h27n := q27 n nb 40 (by omega) []
  refine callL_ex3 (vf := c9) rfl rfl ?_
  by_cases s1 : shortS o 40 = true
  rotate_left
  · rw [Bool.not_eq_true] at s1
    rw [s1] at h27o
    simp [c9, hw, h27o]
  rw [s1] at h27o
  by_cases s2 : shortS n 40 = true
  rotate_left
  · rw [Bool.not_eq_true] at s2
    rw [s2] at h27n
    simp [c9, hw, h27o, h27n]
  rw [s2] at h27n
  have ho : o.length ≤ 40 := by unfold shortS at s1; simp at s1; omega
  have hn : n.length ≤ 40 := by unfold shortS at s2; simp at s2; omega
  have hdl := diffF_len (o.length + n.length) o n
  have hdl : (diffL o n).length ≤ 80 := by unfold diffL; omega
  have h28 := q28 o n na nb (by omega) (by omega) mA
  have h32 := q32 o (diffL o n) na (!(diffL o n).isEmpty) (by omega) (by omega) []
  unfold apR at h32
  rw [if_neg (by rw [diff_good]; simp), show appF o (diffL o n) = some n from diff_apply _ o n (Nat.le_refl _)] at h32
  simp only at h32
  have h35 := q35 (diffL o n) (!(diffL o n).isEmpty) (by omega) []
  have h32b := q32 n ((diffL o n).map invE) nb (!(diffL o n).isEmpty) (by omega) (by simp; omega) []
  unfold apR at h32b
  rw [if_neg (by rw [inv_good]; simp), show appF n ((diffL o n).map invE) = some o from diff_back _ o n (Nat.le_refl _)] at h32b
  simp only at h32b
  have h28b := q28 o o na na (by omega) (by omega) (tabM mA o n 0)
  have hself : diffL o o = o.map fun a => ((0 : Int), a) := diff_self _ o (by omega)
  obtain ⟨D, hD⟩ : ∃ D, diffL o n = D := ⟨_, rfl⟩
  rw [hD] at h28 h32 h35 h32b
  obtain ⟨S, hS⟩ : ∃ S, diffL o o = S := ⟨_, rfl⟩
  rw [hS] at h28b hself
  have hSl : S.length = o.length := by rw [hself]; simp
  have hSk : ∀ i (h : i < S.length), S[i].1 = 0 := by intro i h; subst hself; simp
  have h26a := q26n n (!n.isEmpty) nb (by omega) []
  have h26b := q26n o (!o.isEmpty) na (by omega) []
  simp [c9, hw, h27o, h27n, h28, h32, h35, h32b, h28b, h26a, h26b, hSl]
  refine wp_loop (fun w s => ∃ i : Nat, w = S.length - i ∧ i ≤ S.length ∧ s.get 11 = ev (!S.isEmpty) S ∧ s.get 13 = AV.int IntKind.i64 i) ?_ S.length _ ?_
  rotate_left
  · exact ⟨0, by simp⟩
  rintro w s ⟨i, hw, hi, e11, e13⟩
  by_cases hlt : i < S.length
  · have w1 : W64 ((i : Int) + 1) ((i + 1 : Nat) : Int) := .mkI rfl (by omega) (by omega)
    have hk := hSk i hlt
    simp [e11, e13, hlt, gi_nat hlt, hk, w1.eq, -Int.natCast_add]
    exact ⟨S.length - (i + 1), by omega, i + 1, rfl, by omega, rfl⟩
  · simp [e11, e13, hlt]
theorem costE_succ {es : List Ed} {i : Nat} (h : i < es.length) : costE (es.take (i + 1)) = costE (es.take i) + (if es[i].1 = 0 then 0 else 1) := by
  have ha : ∀ a b : List Ed, costE (a ++ b) = costE a + costE b := by
    intro a b
    induction a with
    | nil => simp [costE]
    | cons x a ih => simp only [List.cons_append, costE, ih]; omega
  rw [List.take_succ_eq_append_getElem h, ha]; simp [costE]
theorem costE_le (es : List Ed) : costE es ≤ es.length := by
  induction es with
  | nil => simp [costE]
  | cons x a ih => simp only [costE, List.length_cons]; split <;> omega
theorem costE_take (es : List Ed) (i : Nat) : costE (es.take i) ≤ es.length := by
  have := costE_le (es.take i)
  simp at this; omega
theorem law10 (o : List Rw) (es : List Ed) (na nb : Bool) : ∃ m, callL T11 10 [sv na o, ev nb es] [] = some (.bool true, m) := by
  obtain ⟨mA, hw⟩ := Aw.awake
  have h27o := q27 o na 40 (by omega) []
  have h31 := q31 es nb 80 (by omega) []
  refine callL_ex3 (vf := c10) rfl rfl ?_
  by_cases s1 : shortS o 40 = true
  rotate_left
  · rw [Bool.not_eq_true] at s1
    rw [s1] at h27o
    simp [c10, hw, h27o]
  rw [s1] at h27o
  by_cases s2 : shortS (es.map (·.2)) 80 = true
  rotate_left
  · rw [Bool.not_eq_true] at s2
    rw [s2] at h31
    simp [c10, hw, h27o, h31]
  rw [s2] at h31
  have ho : o.length ≤ 40 := by unfold shortS at s1; simp at s1; omega
  have he : es.length ≤ 80 := by unfold shortS at s2; simp at s2; omega
  have h33 := q33 es nb (by omega) []
  have h32 := q32 o es na true (by omega) (by omega) []
  unfold apR at h32
  by_cases hb : es.any badE = true
  · rw [if_pos hb] at h32
    simp [c10, hw, h27o, h31, h33, h32]
  rw [if_neg hb] at h32
  cases hap : appF o es with
  | none =>
    rw [hap] at h32
    simp only at h32
    simp [c10, hw, h27o, h31, h33, h32]
  | some r =>
  rw [hap] at h32
  simp only at h32
  have hrl := app_len es o r hap
  have h28 := q28 o r na (!r.isEmpty) (by omega) (by omega) mA
  have hle := diff_least o r es hap
  have hdl := diffF_len (o.length + r.length) o r
  have hdl : (diffL o r).length ≤ 120 := by unfold diffL; omega
  obtain ⟨D, hD⟩ : ∃ D, diffL o r = D := ⟨_, rfl⟩
  rw [hD] at h28 hle hdl
  simp [c10, hw, h27o, h31, h33, h32, h28]
  refine wp_loop (fun w s => ∃ i : Nat, w = es.length - i ∧ i ≤ es.length ∧ s.get 1 = ev nb es ∧ s.get 7 = ev (!D.isEmpty) D ∧ s.get 9 = AV.int IntKind.i64 (costE (es.take i)) ∧ s.get 10 = AV.int IntKind.i64 0 ∧ s.get 11 = AV.int IntKind.i64 i) ?_ es.length _ ?_
  rotate_left
  · exact ⟨0, by simp [costE]⟩
  rintro w s ⟨i, hw, hi, e1, e7, e9, e10, e11⟩
  have hct := costE_take es i
  by_cases hlt : i < es.length
  · have w1 : W64 ((i : Int) + 1) ((i + 1 : Nat) : Int) := .mkI rfl (by omega) (by omega)
    have hc := costE_succ hlt
    obtain ⟨C, hC⟩ : ∃ C, costE (es.take i) = C := ⟨_, rfl⟩
    rw [hC] at e9 hc hct
    have w2 : W64 ((C : Int) + 1) ((C + 1 : Nat) : Int) := .mkI rfl (by omega) (by omega)
    by_cases hk : es[i].1 = 0
    · rw [if_pos hk] at hc
      simp [e1, e7, e9, e10, e11, hlt, gi_nat hlt, hk, w1.eq, -Int.natCast_add]
      exact ⟨es.length - (i + 1), by omega, i + 1, rfl, by omega, by rw [hc, Nat.add_zero], rfl⟩
    · rw [if_neg hk] at hc
      simp [e1, e7, e9, e10, e11, hlt, gi_nat hlt, hk, w1.eq, w2.eq, -Int.natCast_add]
      exact ⟨es.length - (i + 1), by omega, i + 1, rfl, by omega, by rw [hc], rfl⟩
  have hi' : i = es.length := by omega
  subst hi'
  rw [List.take_length] at e9
  simp [e1, e11]
  refine wp_loop (fun w s => ∃ i : Nat, w = D.length - i ∧ i ≤ D.length ∧ s.get 7 = ev (!D.isEmpty) D ∧ s.get 9 = AV.int IntKind.i64 (costE es) ∧ s.get 10 = AV.int IntKind.i64 (costE (D.take i)) ∧ s.get 12 = AV.int IntKind.i64 i) ?_ D.length _ ?_
  rotate_left
  · exact ⟨0, by simp [costE, e7, e9, e10]⟩
  clear e1 e7 e9 e10 e11 hw
  rintro w s ⟨i, hw, hi, e7, e9, e10, e12⟩
  have hct := costE_take D i
  by_cases hlt : i < D.length
  · have w1 : W64 ((i : Int) + 1) ((i + 1 : Nat) : Int) := .mkI rfl (by omega) (by omega)
    have hc := costE_succ hlt
    obtain ⟨C, hC⟩ : ∃ C, costE (D.take i) = C := ⟨_, rfl⟩
    rw [hC] at e10 hc hct
    have w2 : W64 ((C : Int) + 1) ((C + 1 : Nat) : Int) := .mkI rfl (by omega) (by omega)
    by_cases hk : D[i].1 = 0
    · rw [if_pos hk] at hc
      simp [e7, e9, e10, e12, hlt, gi_nat hlt, hk, w1.eq, -Int.natCast_add]
      exact ⟨D.length - (i + 1), by omega, i + 1, rfl, by omega, by rw [hc, Nat.add_zero], rfl⟩
    · rw [if_neg hk] at hc
      simp [e7, e9, e10, e12, hlt, gi_nat hlt, hk, w1.eq, w2.eq, -Int.natCast_add]
      exact ⟨D.length - (i + 1), by omega, i + 1, rfl, by omega, by rw [hc], rfl⟩
  have hi' : i = D.length := by omega
  subst hi'
  rw [List.take_length] at e10
  simp [e7, e9, e10, e12]
  exact hle
/-! ### the arguments -/
abbrev editsS : Bool × List CK := (false, [.slice [.int .i64, .str] true])
theorem arg_edits {a : AV} (h : ArgHas false [.slice [.int .i64, .str] true] a) : ∃ nn xs, a = ev nn xs :=
  (ck_els (fun e : Ed => .agg [AV.int IntKind.i64 e.1, .str e.2]) (fun _ => True) (arg_one h) fun cs hl hc => by
    match cs, hl with
    | [c, d], _ =>
      obtain ⟨k, rfl, hk⟩ := pk_int (hc 0 _ c rfl rfl)
      obtain ⟨t, rfl, ht⟩ := pk_str (hc 1 _ d rfl rfl)
      exact ⟨(k, t), rfl, trivial⟩).elim fun nn ⟨xs, h, _⟩ => ⟨nn, xs, h⟩
theorem law5_args : ∀ as, ArgsHave [strsS, strsS] as → ∃ m, callL T11 5 as [] = some (.bool true, m) :=
  args2 fun a b ha hb => by
    obtain ⟨na, o, rfl, -⟩ := ck_strs (arg_one ha)
    obtain ⟨nb, n, rfl, -⟩ := ck_strs (arg_one hb)
    exact law5 o n na nb
theorem law9_args : ∀ as, ArgsHave [strsS, strsS] as → ∃ m, callL T11 9 as [] = some (.bool true, m) :=
  args2 fun a b ha hb => by
    obtain ⟨na, o, rfl, -⟩ := ck_strs (arg_one ha)
    obtain ⟨nb, n, rfl, -⟩ := ck_strs (arg_one hb)
    exact law9 o n na nb
theorem law6_args : ∀ as, ArgsHave [strsS, editsS] as → ∃ m, callL T11 6 as [] = some (.bool true, m) :=
  args2 fun a b ha hb => by
    obtain ⟨na, o, rfl, -⟩ := ck_strs (arg_one ha)
    obtain ⟨nb, es, rfl⟩ := arg_edits hb
    exact law6 o es na nb
theorem law10_args : ∀ as, ArgsHave [strsS, editsS] as → ∃ m, callL T11 10 as [] = some (.bool true, m) :=
  args2 fun a b ha hb => by
    obtain ⟨na, o, rfl, -⟩ := ck_strs (arg_one ha)
    obtain ⟨nb, es, rfl⟩ := arg_edits hb
    exact law10 o es na nb
end Go.Vm.Ch11
