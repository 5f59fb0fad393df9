/- Chapter 11: what its functions compute. -/
import Derived.Test.YtmlfcgmiaapffaaGreatDoorC11g
import Derived.Test.YtmlfcgmiaapffaaGreatDoorVJ
namespace Go.Vm.Ch11
open _root_.Ch11 (T11 c109 c99)
set_option maxRecDepth 10000
set_option maxHeartbeats 8000000
/-! ### numbers, without a program -/
theorem pum_dig (M : Nat) : ∀ (l : List UInt8) (acc : Nat), (∀ c ∈ l, dg c = true) → Lib.parseUintM M acc l ≠ .syntax
  | [], _, _ => by simp [Lib.parseUintM]
  | c :: r, acc, h => by
    have hc : 48 ≤ c.toNat ∧ c.toNat ≤ 57 := of_decide_eq_true (h c (by simp))
    rw [Lib.parseUintM, if_pos hc]
    split
    · simp
    · split
      · simp
      · exact pum_dig M r _ fun c hc => h c (by simp [hc])
theorem pum_ge (M : Nat) : ∀ (l : List UInt8) (acc u : Nat), Lib.parseUintM M acc l = .ok u → acc * 10 ^ l.length ≤ u
  | [], acc, u, h => by
    simp only [Lib.parseUintM, Lib.NumEnd.ok.injEq] at h
    subst h; simp
  | c :: r, acc, u, h => by
    rw [Lib.parseUintM] at h
    split at h
    · split at h
      · simp at h
      · split at h
        · simp at h
        · have ih := pum_ge M r _ u h
          refine Nat.le_trans ?_ ih
          rw [List.length_cons, Nat.pow_succ, Nat.mul_comm (10 ^ r.length) 10, ← Nat.mul_assoc]
          exact Nat.mul_le_mul_right _ (by omega)
    · simp at h
theorem pub_dig {l : List UInt8} (hne : l ≠ []) (h : ∀ c ∈ l, dg c = true) : Lib.parseUintB 64 l ≠ .syntax := by
  unfold Lib.parseUintB
  rw [if_neg hne]
  exact pum_dig _ _ _ h
theorem pub_big {c : UInt8} {r : List UInt8} {u : Nat} (h0 : c.toNat ≠ 48) (h : Lib.parseUintB 64 (c :: r) = .ok u) : 10 ^ r.length ≤ u := by
  unfold Lib.parseUintB at h
  rw [if_neg (by simp), Lib.parseUintM] at h
  split at h
  · split at h
    · simp at h
    · split at h
      · simp at h
      · have := pum_ge _ _ _ _ h
        refine Nat.le_trans ?_ this
        have : 1 ≤ 0 * 10 + (c.toNat - 48) := by omega
        calc 10 ^ r.length = 1 * 10 ^ r.length := by simp
          _ ≤ _ := Nat.mul_le_mul_right _ this
  · simp at h
/-- What the text of a number is. -/
theorem num_text (x : List UInt8) : x.take (nE x) = x.take (sgn x) ++ nd x := by
  unfold nE nd
  rw [List.take_add]
  congr 1
  exact (List.prefix_iff_eq_take.1 (List.takeWhile_prefix _)).symm
theorem nd_dig (x : List UInt8) : ∀ c ∈ nd x, dg c = true := by
  intro c hc
  unfold nd at hc
  have : ∀ l : List UInt8, c ∈ l.takeWhile dg → dg c = true := by
    intro l
    induction l with
    | nil => intro h; simp at h
    | cons y r ih =>
      intro h
      rw [List.takeWhile_cons] at h
      split at h
      · rcases List.mem_cons.1 h with rfl | h
        · assumption
        · exact ih h
      · simp at h
  exact this _ hc
theorem sgn_text (x : List UInt8) : (sgn x = 1 ∧ x.take (sgn x) = [45] ∧ ∃ r, x = 45 :: r) ∨ (sgn x = 0 ∧ x.take (sgn x) = []) := by
  unfold sgn
  cases x with
  | nil => right; simp
  | cons c r =>
    by_cases h : c = 45
    · left; subst h; simp
    · right; simp [h]
theorem prs_cases {x : List UInt8} (hb : numBad x = false) :
    (∃ v, prs (x.take (nE x)) = (v, false) ∧ (16 < (nd x).length → 1000000000000000 < v ∨ v < -1000000000000000)) ∨
    (∃ v, prs (x.take (nE x)) = (v, true) ∧ (1000000000000000 < v ∨ v < -1000000000000000)) := by
  unfold numBad at hb
  simp only [Bool.or_eq_false_iff, decide_eq_false_iff_not, Bool.and_eq_false_iff] at hb
  obtain ⟨⟨⟨h1, h2⟩, h3⟩, h4⟩ := hb
  have hdig := nd_dig x
  obtain ⟨y, D, hD⟩ : ∃ y D, nd x = y :: D := by
    cases hq : nd x with
    | nil => rw [hq] at h1; exact absurd rfl h1
    | cons y D => exact ⟨y, D, rfl⟩
  have hy : 48 ≤ y.toNat ∧ y.toNat ≤ 57 := of_decide_eq_true (hdig y (by rw [hD]; simp))
  have hhead : (x.drop (sgn x)).head? = some y := by
    have : nd x = (x.drop (sgn x)).takeWhile dg := rfl
    rw [hD] at this
    cases hq : x.drop (sgn x) with
    | nil => rw [hq] at this; simp at this
    | cons z r =>
      rw [hq, List.takeWhile_cons] at this
      split at this
      · simp at this; simp [this.1]
      · simp at this
  have hne : nd x ≠ [] := by rw [hD]; simp
  have hsyn := pub_dig hne hdig
  have hbig : ∀ u, Lib.parseUintB 64 (nd x) = .ok u → 16 < (nd x).length → 10000000000000000 ≤ u := by
    intro u hu hl
    rw [hD] at hu hl
    have h48 : y.toNat ≠ 48 := by
      intro e
      rcases h3 with h3 | h3
      · rw [hD] at h3; omega
      · apply h3
        rw [hhead]
        exact congrArg some (UInt8.toNat_inj.1 e)
    have := pub_big h48 hu
    refine Nat.le_trans ?_ this
    calc 10000000000000000 = 10 ^ 16 := by decide
      _ ≤ 10 ^ D.length := Nat.pow_le_pow_right (by decide) (by simp at hl; omega)
  rw [num_text]
  unfold prs
  rcases sgn_text x with ⟨s1, s2, r, s3⟩ | ⟨s1, s2⟩
  · rw [s2]
    have e : Lib.parseIntB 64 ([45] ++ nd x) = match Lib.parseUintB 64 (nd x) with
      | .syntax => .syntax
      | .range => .range
      | .ok u => if 2 ^ 63 < u then .range else .ok (-(u : Int)) := by
      show Lib.parseIntB 64 (45 :: nd x) = _
      unfold Lib.parseIntB
      simp only
      rw [if_pos (by decide)]
      cases Lib.parseUintB 64 (nd x) with
      | ok u =>
        simp only
        rw [if_neg (fun h => h.1 (by decide))]
        by_cases hu : 2 ^ 63 < u
        · rw [if_pos ⟨by decide, hu⟩, if_pos hu]
        · rw [if_neg (fun h => hu h.2), if_neg hu, if_pos (by decide)]
      | _ => rfl
    rw [e]
    cases hp : Lib.parseUintB 64 (nd x) with
    | «syntax» => exact absurd hp hsyn
    | range =>
      right
      exact ⟨_, rfl, .inr (by unfold Lib.intSat; simp)⟩
    | ok u =>
      simp only
      by_cases hu : 2 ^ 63 < u
      · rw [if_pos hu]; right
        exact ⟨_, rfl, .inr (by unfold Lib.intSat; simp)⟩
      · rw [if_neg hu]; left
        exact ⟨_, rfl, fun hl => .inr (by have := hbig u hp hl; omega)⟩
  · rw [s2, List.nil_append]
    have e : Lib.parseIntB 64 (nd x) = match Lib.parseUintB 64 (nd x) with
      | .syntax => .syntax
      | .range => .range
      | .ok u => if 2 ^ 63 ≤ u then .range else .ok (u : Int) := by
      rw [hD]
      unfold Lib.parseIntB
      simp only
      rw [if_neg (by omega)]
      cases Lib.parseUintB 64 (y :: D) with
      | ok u =>
        simp only
        by_cases hu : 2 ^ 63 ≤ u
        · rw [if_pos ⟨by omega, hu⟩, if_pos hu]
        · rw [if_neg (fun h => hu h.2), if_neg (by omega), if_neg (by omega), if_neg hu]
      | _ => rfl
    have hsat : 1000000000000000 < Lib.intSat 64 (nd x) := by
      unfold Lib.intSat
      rw [if_neg (by rw [hD]; simp; omega)]
      decide
    rw [e]
    cases hp : Lib.parseUintB 64 (nd x) with
    | «syntax» => exact absurd hp hsyn
    | range => right; exact ⟨_, rfl, .inl hsat⟩
    | ok u =>
      simp only
      by_cases hu : 2 ^ 63 ≤ u
      · rw [if_pos hu]; right; exact ⟨_, rfl, .inl hsat⟩
      · rw [if_neg hu]; left
        exact ⟨_, rfl, fun hl => .inl (by have := hbig u hp hl; omega)⟩
/-! ### the reference's helpers -/
theorem q100 (c : UInt8) : callL T11 100 [.int .u8 c.toNat] [] = some (.bool (dg c), []) := byte_of (p := fun n => decide (48 ≤ n ∧ n ≤ 57)) (by kernel_rfl) c
theorem q104 (c : UInt8) : callL T11 104 [.int .u8 c.toNat] [] = some (.bool (sgB c), []) := byte_of (p := fun n => decide (n ∈ [40, 41, 44, 61, 58, 60, 62, 43, 47])) (by kernel_rfl) c
def pw (w : Bool) (c : UInt8) : Bool := dg c || (w && pd c)
theorem pw_t : pw true = pd := by
  funext c
  have key : ∀ n : Fin 256, (decide (48 ≤ n.val ∧ n.val ≤ 57) || (true && partN n.val)) = partN n.val := by decide +kernel
  exact key ⟨c.toNat, c.toNat_lt⟩
theorem pw_f : pw false = dg := by funext c; simp [pw]
theorem q99 (s : List UInt8) (w : Bool) (hl : s.length ≤ 281474976710656) (i : Nat) (hi : i ≤ s.length) (m : Mem) : callL T11 99 [.str s, AV.int IntKind.i64 i, .bool w] m = some (AV.int IntKind.i64 ((i + ((s.drop i).takeWhile (pw w)).length : Nat)), m) := by
  apply callL_body (vf := c99) rfl rfl
  simp [c99, -Int.natCast_add]
  obtain ⟨E, hE⟩ : ∃ E, i + ((s.drop i).takeWhile (pw w)).length = E := ⟨_, rfl⟩
  rw [hE]
  refine wp_loop (fun n t => ∃ j : Nat, n = s.length - j ∧ j ≤ s.length ∧ t.get 0 = .str s ∧ t.get 1 = AV.int IntKind.i64 j ∧ t.get 2 = .bool w ∧ t.mem = m ∧ j + ((s.drop j).takeWhile (pw w)).length = E) ?_ (s.length - i) _ ?_
  rotate_left
  · exact ⟨i, by simp [hi, hE]⟩
  clear hE hi i
  rintro n t ⟨j, hn, hj, e0, e1, e2, hm, hE⟩
  by_cases hlt : j < s.length
  · have hd : s.drop j = s[j] :: s.drop (j + 1) := by simp
    rw [hd, List.takeWhile_cons] at hE
    have w1 : W64 ((j : Int) + 1) ((j + 1 : Nat) : Int) := .mkI rfl (by omega) (by omega)
    have h41 := q100 s[j]
    have h31 : callL T11 101 [.int .u8 s[j].toNat] [] = some (.bool (pd s[j]), []) := q101 s[j]
    have hpw : pw w s[j] = (dg s[j] || (w && pd s[j])) := rfl
    cases hd1 : dg s[j] with
    | true =>
      rw [hd1] at h41 hpw
      rw [hpw] at hE
      simp only [Bool.true_or, if_true, List.length_cons] at hE
      simp [e0, e1, e2, hm, hlt, h41, w1.eq, -Int.natCast_add]
      exact ⟨s.length - (j + 1), by omega, j + 1, rfl, by omega, rfl, by omega⟩
    | false =>
      rw [hd1] at h41 hpw
      cases hw : w with
      | false =>
        rw [hw] at hpw e2
        rw [hw, hpw] at hE
        simp at hE
        subst hE
        simp [e0, e1, e2, hm, hlt, h41, -Int.natCast_add]
      | true =>
        rw [hw] at hpw e2
        cases hp : pd s[j] with
        | true =>
          rw [hp] at h31 hpw
          rw [hw, hpw] at hE
          simp only [Bool.and_self, Bool.or_true, if_true, List.length_cons] at hE
          simp [e0, e1, e2, hm, hlt, h41, h31, w1.eq, -Int.natCast_add]
          exact ⟨s.length - (j + 1), by omega, j + 1, rfl, by omega, rfl, by omega⟩
        | false =>
          rw [hp] at h31 hpw
          rw [hw, hpw] at hE
          simp at hE
          subst hE
          simp [e0, e1, e2, hm, hlt, h41, h31, -Int.natCast_add]
  · have hd : s.drop j = [] := List.drop_eq_nil_of_le (by omega)
    rw [hd] at hE
    simp at hE
    subst hE
    simp [e0, e1, hm, hlt, -Int.natCast_add]
theorem q109 (e c : Int) (m : Mem) : callL T11 109 [AV.int IntKind.i64 e, AV.int IntKind.i64 c] m = some (.tup [.agg [AV.int IntKind.i64 0, .vec none false [], .bool false, .str []], .agg [AV.int IntKind.i64 e, AV.int IntKind.i64 0, AV.int IntKind.i64 c]], m) := by
  apply callL_body (vf := c109) rfl rfl
  simp [c109, objCells]
end Go.Vm.Ch11
