/- Chapter 11: what its functions compute. -/
import Derived.Test.YtmlfcgmiaapffaaGreatDoorC11zr
import Derived.Lib.ItoaLen
namespace Go.Vm.Ch11
open _root_.Ch11 (T11 c67 c45)
set_option maxRecDepth 10000
set_option maxHeartbeats 16000000
theorem ref_val {k : Int} {t : List UInt8} {n : Int} (h : refV k t n = true) : valP k t n = true := by
  unfold refV at h
  simp only [Bool.and_eq_true, decide_eq_true_eq] at h
  obtain ⟨he, hl, hk, ht, hn⟩ := h
  generalize hs : spl k t n = s at *
  cases s with
  | nil => simp [lexT, lxE] at he
  | cons c r =>
    obtain ⟨X, hX⟩ : ∃ X, lexT (c :: r) = X := ⟨_, rfl⟩
    rw [hX] at he hl hk ht hn
    simp only [lexT] at hX
    by_cases hL : letterN c.toNat = true
    · rw [if_pos hL] at hX
      by_cases h40 : 40 < ((c :: r).takeWhile pd).length
      · rw [if_pos h40] at hX; subst hX; cases he
      · rw [if_neg h40] at hX
        subst hX
        simp only at hl hk ht hn
        subst hk
        have hst : t = c :: r := by rw [← hs]; unfold spl; rw [if_neg (by decide), if_neg (by decide)]
        subst hst
        subst hn
        unfold valP
        rw [if_pos rfl]
        simp only [List.head?_cons, hL, hl, Bool.and_eq_true, decide_eq_true_eq, and_true, true_and, decide_true]
        exact ⟨by simp, by omega⟩
    rw [if_neg hL] at hX
    by_cases hN : dg c = true ∨ c.toNat = 45
    · rw [if_pos hN] at hX
      subst hX
      simp only at he hl hk ht hn
      subst hk
      subst ht
      rw [if_pos he] at hn
      obtain ⟨-, -, g1, g2⟩ := numE_0 he
      unfold valP
      rw [if_neg (by decide), if_pos rfl]
      simp only [Bool.and_eq_true, decide_eq_true_eq]
      exact ⟨trivial, by omega, by omega⟩
    rw [if_neg hN] at hX
    by_cases hQ : c.toNat = 34
    · rw [if_pos hQ] at hX
      by_cases h1 : (upto 34 r).length < r.length
      · rw [if_pos h1] at hX
        by_cases h2 : labelOK (upto 34 r) = true
        · rw [if_pos h2] at hX
          subst hX
          simp only at hk ht hn
          subst hk; subst ht; subst hn
          unfold valP
          rw [if_neg (by decide), if_neg (by decide), if_pos rfl]
          simp [h2]
        · rw [if_neg h2] at hX; subst hX; cases he
      · rw [if_neg h1] at hX; subst hX; cases he
    rw [if_neg hQ] at hX
    by_cases hS : sgB c = true
    · rw [if_pos hS] at hX
      subst hX
      simp only at hk ht hn
      subst hk; subst ht; subst hn
      unfold valP
      rw [if_neg (by decide), if_neg (by decide), if_neg (by decide), if_pos rfl]
      simp [hS]
    · rw [if_neg hS] at hX; subst hX; cases he
theorem val_ref (k : Int) (t : List UInt8) (n : Int) : refV k t n = valP k t n := by
  rw [Bool.eq_iff_iff]
  refine ⟨ref_val, fun h => ?_⟩
  have hb := lex_back h (z := []) (.inl rfl)
  rw [List.append_nil] at hb
  unfold refV
  rw [hb]
  simp
theorem itoa_small {n : Int} (hn : inI n) : (Lib.itoa n).length ≤ 21 := Lib.itoa_length_le n hn.1 hn.2
theorem q45 (k : Int) (t : List UInt8) (n a : Int) (hn : inI n) (ht : t.length ≤ 1000000) (m : Mem) : callL T11 45 [.agg [AV.int .i64 k, .str t, AV.int .i64 n, AV.int .i64 a]] m = some (.str (spl k t n), m) := by
  have h34 := q68 n hn.1 hn.2 []
  apply callL_body (vf := c45) rfl rfl
  unfold spl
  by_cases k2 : k = 2
  · subst k2
    simp [c45, h34, objCells]
  by_cases k3 : k = 3
  · subst k3
    simp [c45, objCells]
    omega
  · simp [c45, k2, k3, objCells]
theorem q67 (k : Int) (t : List UInt8) (n a : Int) (ht : t.length ≤ 1000000) (m : Mem) : callL T11 67 [.agg [AV.int .i64 k, .str t, AV.int .i64 n, AV.int .i64 a]] m = some (.bool (valP k t n), m) := by
  have h15 := q96 t (by omega) []
  have h23 := q80 t 95 pd (fun c _ => q95' c) (by omega) []
  apply callL_body (vf := c67) rfl rfl
  unfold valP
  by_cases k1 : k = 1
  · subst k1
    rw [if_pos rfl]
    by_cases n0 : n = 0
    rotate_left
    · simp [c67, n0, objCells]
    subst n0
    cases t with
    | nil => simp [c67, objCells]
    | cons c r =>
      have hc := c.toNat_lt
      have hc2 : (c.toNat : Int) < 256 := by omega
      have htb := tbl_get c.toNat hc
      have k1 := cls_1 c
      by_cases h40 : (c :: r).length ≤ 40
      rotate_left
      · have h40i : ¬ (((c :: r).length : Nat) : Int) ≤ 40 := by omega
        generalize hT : c :: r = T at *
        have hne : T ≠ [] := by rw [← hT]; simp
        simp [c67, h40i, hne, h40, objCells]
      have h40i : (((c :: r).length : Nat) : Int) ≤ 40 := by omega
      have hne : c :: r ≠ [] := by simp
      have hidx : (c :: r)[0]? = some c := rfl
      cases hL : letterN c.toNat with
      | false =>
        rw [hL] at k1
        have k1' := of_decide_eq_false k1
        simp only [List.head?_cons, hL]
        generalize hT : c :: r = T at *
        have hne : T ≠ [] := by rw [← hT]; simp
        have hi0 : T.length ≠ 0 := by rw [← hT]; simp
        have hg0 : ∀ h : 0 < T.length, T[0] = c := fun h => by subst hT; rfl
        have hp : 0 < T.length := by omega
        simp [c67, h40i, hne, q94, hg0, hp, hc2, htb, k1', objCells]
      | true =>
        rw [hL] at k1
        have k1' := of_decide_eq_true k1
        simp only [List.head?_cons, hL]
        generalize hT : c :: r = T at *
        have hne : T ≠ [] := by rw [← hT]; simp
        have hi0 : T.length ≠ 0 := by rw [← hT]; simp
        have hg0 : ∀ h : 0 < T.length, T[0] = c := fun h => by subst hT; rfl
        have hp : 0 < T.length := by omega
        by_cases hw : (T.takeWhile pd).length = T.length
        · have hwi : ((T.takeWhile pd).length : Int) = T.length := by omega
          simp [c67, h40i, h40, hne, q94, hg0, hp, hc2, htb, k1', h23, hw, objCells]
        · have hwi : ¬ ((T.takeWhile pd).length : Int) = T.length := by omega
          simp [c67, h40i, h40, hne, q94, hg0, hp, hc2, htb, k1', h23, hw, hwi, objCells]
  by_cases k2 : k = 2
  · subst k2
    rw [if_neg (by decide), if_pos rfl]
    by_cases t0 : t = []
    · by_cases g1 : -1000000000000000 ≤ n
      · by_cases g2 : n ≤ 1000000000000000
        · simp [c67, t0, g1, g2, objCells]
        · simp [c67, t0, g1, g2, objCells]
      · simp [c67, t0, g1, objCells]
    · simp [c67, t0, objCells]
  by_cases k3 : k = 3
  · subst k3
    rw [if_neg (by decide), if_neg (by decide), if_pos rfl]
    by_cases n0 : n = 0
    · cases hlab : labelOK t with
      | true => rw [hlab] at h15; simp [c67, n0, h15, objCells]
      | false => rw [hlab] at h15; simp [c67, n0, h15, objCells]
    · simp [c67, n0, objCells]
  by_cases k4 : k = 4
  · subst k4
    rw [if_neg (by decide), if_neg (by decide), if_neg (by decide), if_pos rfl]
    by_cases n0 : n = 0
    rotate_left
    · simp [c67, n0, objCells]
    by_cases l1 : t.length = 1
    rotate_left
    · have l1i : ¬ (t.length : Int) = 1 := by omega
      simp [c67, n0, l1, l1i, objCells]
    match t, l1 with
    | [c], _ =>
      have hc := c.toNat_lt
      have hc2 : (c.toNat : Int) < 256 := by omega
      have htb := tbl_get c.toNat hc
      have k4 := cls_4 c
      simp [c67, n0, q94, hc2, htb, ← k4, objCells]
      rw [Bool.eq_iff_iff]; simp
  · rw [if_neg k1, if_neg k2, if_neg k3, if_neg k4]
    simp [c67, k1, k2, k3, k4, objCells]
end Go.Vm.Ch11
