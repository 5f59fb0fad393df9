/- Chapter 09: what its functions compute. -/
import Derived.Test.YtijbapbijpdpiaaDoorC09r
import Derived.Lib.ItoaLen
namespace Go.Vm.Ch09
open _root_.Ch09 (T09 c5 c17 c18 c19 c20 c35)
set_option maxRecDepth 10000
set_option maxHeartbeats 16000000
theorem ref_val {k : Int} {t : List UInt8} {n : Int} (h : refV k t n = true) : valP k t n = true := by
  unfold refV at h
  simp only [Bool.and_eq_true, decide_eq_true_eq] at h
  obtain ⟨he, hl, hk, ht, hn⟩ := h
  generalize hs : spl k t n = s at *
  cases s with
  | nil => simp [lexT, lxE] at he
  | cons c r =>
    obtain ⟨X, hX⟩ : ∃ X, lexT (c :: r) = X := ⟨_, rfl⟩
    rw [hX] at he hl hk ht hn
    simp only [lexT] at hX
    by_cases hL : letterN c.toNat = true
    · rw [if_pos hL] at hX
      by_cases h40 : 40 < ((c :: r).takeWhile pd).length
      · rw [if_pos h40] at hX; subst hX; cases he
      · rw [if_neg h40] at hX
        subst hX
        simp only at hl hk ht hn
        subst hk
        have hst : t = c :: r := by rw [← hs]; unfold spl; rw [if_neg (by decide), if_neg (by decide)]
        subst hst
        subst hn
        unfold valP
        rw [if_pos rfl]
        simp only [List.head?_cons, hL, hl, Bool.and_eq_true, decide_eq_true_eq, and_true, true_and, decide_true]
        exact ⟨by simp, by omega⟩
    rw [if_neg hL] at hX
    by_cases hN : dg c = true ∨ c.toNat = 45
    · rw [if_pos hN] at hX
      subst hX
      simp only at he hl hk ht hn
      subst hk
      subst ht
      rw [if_pos he] at hn
      obtain ⟨-, -, g1, g2⟩ := numE_0 he
      unfold valP
      rw [if_neg (by decide), if_pos rfl]
      simp only [Bool.and_eq_true, decide_eq_true_eq]
      exact ⟨trivial, by omega, by omega⟩
    rw [if_neg hN] at hX
    by_cases hQ : c.toNat = 34
    · rw [if_pos hQ] at hX
      by_cases h1 : (upto 34 r).length < r.length
      · rw [if_pos h1] at hX
        by_cases h2 : labelOK (upto 34 r) = true
        · rw [if_pos h2] at hX
          subst hX
          simp only at hk ht hn
          subst hk; subst ht; subst hn
          unfold valP
          rw [if_neg (by decide), if_neg (by decide), if_pos rfl]
          simp [h2]
        · rw [if_neg h2] at hX; subst hX; cases he
      · rw [if_neg h1] at hX; subst hX; cases he
    rw [if_neg hQ] at hX
    by_cases hS : sgB c = true
    · rw [if_pos hS] at hX
      subst hX
      simp only at hk ht hn
      subst hk; subst ht; subst hn
      unfold valP
      rw [if_neg (by decide), if_neg (by decide), if_neg (by decide), if_pos rfl]
      simp [hS]
    · rw [if_neg hS] at hX; subst hX; cases he
theorem val_ref (k : Int) (t : List UInt8) (n : Int) : refV k t n = valP k t n := by
  rw [Bool.eq_iff_iff]
  refine ⟨ref_val, fun h => ?_⟩
  have hb := lex_back h (z := []) (.inl rfl)
  rw [List.append_nil] at hb
  unfold refV
  rw [hb]
  simp
/-! ### the walk -/
theorem itoa_small {n : Int} (hn : inI n) : (Lib.itoa n).length ≤ 21 := Lib.itoa_length_le n hn.1 hn.2
theorem q35 (k : Int) (t : List UInt8) (n a : Int) (hn : inI n) (ht : t.length ≤ 1000000) (m : Mem) : callL T09 35 [.agg [AV.int IntKind.i64 k, .str t, AV.int IntKind.i64 n, AV.int IntKind.i64 a]] m = some (.str (spl k t n), m) := by
  have h34 := q34 n hn.1 hn.2 []
  apply callL_body (vf := c35) rfl rfl
  unfold spl
  by_cases k2 : k = 2
  · subst k2
    simp [c35, h34, objCells]
  by_cases k3 : k = 3
  · subst k3
    simp [c35, objCells]
    omega
  · simp [c35, k2, k3, objCells]
theorem q19 (k : Int) (t : List UInt8) (n a : Int) (ht : t.length ≤ 1000000) (m : Mem) : callL T09 19 [.agg [AV.int IntKind.i64 k, .str t, AV.int IntKind.i64 n, AV.int IntKind.i64 a]] m = some (.bool (valP k t n), m) := by
  have h15 := q15 t (by omega) []
  have h23 := q23 t 30 pd (fun c _ => q30' c) (by omega) []
  apply callL_body (vf := c19) rfl rfl
  unfold valP
  by_cases k1 : k = 1
  · subst k1
    rw [if_pos rfl]
    by_cases n0 : n = 0
    rotate_left
    · simp [c19, n0, objCells]
    subst n0
    cases t with
    | nil => simp [c19, objCells]
    | cons c r =>
      have hc := c.toNat_lt
      have hc2 : (c.toNat : Int) < 256 := by omega
      have htb := tbl_get c.toNat hc
      have k1 := cls_1 c
      by_cases h40 : (c :: r).length ≤ 40
      rotate_left
      · have h40i : ¬ (((c :: r).length : Nat) : Int) ≤ 40 := by omega
        generalize hT : c :: r = T at *
        have hne : T ≠ [] := by rw [← hT]; simp
        simp [c19, h40i, hne, h40, objCells]
      have h40i : (((c :: r).length : Nat) : Int) ≤ 40 := by omega
      have hne : c :: r ≠ [] := by simp
      have hidx : (c :: r)[0]? = some c := rfl
      cases hL : letterN c.toNat with
      | false =>
        rw [hL] at k1
        have k1' := of_decide_eq_false k1
        simp only [List.head?_cons, hL]
        generalize hT : c :: r = T at *
        have hne : T ≠ [] := by rw [← hT]; simp
        have hi0 : T.length ≠ 0 := by rw [← hT]; simp
        have hg0 : ∀ h : 0 < T.length, T[0] = c := fun h => by subst hT; rfl
        have hp : 0 < T.length := by omega
        simp [c19, h40i, hne, q36, hg0, hp, hc2, htb, k1', objCells]
      | true =>
        rw [hL] at k1
        have k1' := of_decide_eq_true k1
        simp only [List.head?_cons, hL]
        generalize hT : c :: r = T at *
        have hne : T ≠ [] := by rw [← hT]; simp
        have hi0 : T.length ≠ 0 := by rw [← hT]; simp
        have hg0 : ∀ h : 0 < T.length, T[0] = c := fun h => by subst hT; rfl
        have hp : 0 < T.length := by omega
        by_cases hw : (T.takeWhile pd).length = T.length
        · have hwi : ((T.takeWhile pd).length : Int) = T.length := by omega
          simp [c19, h40i, h40, hne, q36, hg0, hp, hc2, htb, k1', h23, hw, objCells]
        · have hwi : ¬ ((T.takeWhile pd).length : Int) = T.length := by omega
          simp [c19, h40i, h40, hne, q36, hg0, hp, hc2, htb, k1', h23, hw, hwi, objCells]
  by_cases k2 : k = 2
  · subst k2
    rw [if_neg (by decide), if_pos rfl]
    by_cases t0 : t = []
    · by_cases g1 : -1000000000000000 ≤ n
      · by_cases g2 : n ≤ 1000000000000000
        · simp [c19, t0, g1, g2, objCells]
        · simp [c19, t0, g1, g2, objCells]
      · simp [c19, t0, g1, objCells]
    · simp [c19, t0, objCells]
  by_cases k3 : k = 3
  · subst k3
    rw [if_neg (by decide), if_neg (by decide), if_pos rfl]
    by_cases n0 : n = 0
    · cases hlab : labelOK t with
      | true => rw [hlab] at h15; simp [c19, n0, h15, objCells]
      | false => rw [hlab] at h15; simp [c19, n0, h15, objCells]
    · simp [c19, n0, objCells]
  by_cases k4 : k = 4
  · subst k4
    rw [if_neg (by decide), if_neg (by decide), if_neg (by decide), if_pos rfl]
    by_cases n0 : n = 0
    rotate_left
    · simp [c19, n0, objCells]
    by_cases l1 : t.length = 1
    rotate_left
    · have l1i : ¬ (t.length : Int) = 1 := by omega
      simp [c19, n0, l1, l1i, objCells]
    match t, l1 with
    | [c], _ =>
      have hc := c.toNat_lt
      have hc2 : (c.toNat : Int) < 256 := by omega
      have htb := tbl_get c.toNat hc
      have k4 := cls_4 c
      simp [c19, n0, q36, hc2, htb, ← k4, objCells]
      rw [Bool.eq_iff_iff]; simp
  · rw [if_neg k1, if_neg k2, if_neg k3, if_neg k4]
    simp [c19, k1, k2, k3, k4, objCells]
theorem q17 (k : Int) (t : List UInt8) (n a : Int) (hn : inI n) (ht : t.length ≤ 1000000) (m : Mem) :
    callL T09 17 [.agg [AV.int IntKind.i64 k, .str t, AV.int IntKind.i64 n, AV.int IntKind.i64 a]] m = some (if valP k t n then .tup [.str (spl k t n), AV.int IntKind.i64 0] else .tup [.str [], AV.int IntKind.i64 2], m) := by
  have h19 := q19 k t n a ht []
  have h34 := q34 n hn.1 hn.2 []
  apply callL_body (vf := c17) rfl rfl
  cases hv : valP k t n with
  | false =>
    rw [hv] at h19
    simp [c17, h19, objCells]
  | true =>
    rw [hv] at h19
    unfold spl
    by_cases k2 : k = 2
    · subst k2
      simp [c17, h19, h34, objCells]
    by_cases k3 : k = 3
    · subst k3
      simp [c17, h19, objCells]
      omega
    · simp [c17, h19, k2, k3, objCells]
theorem spl_len {k : Int} {t : List UInt8} {n : Int} (hn : inI n) (ht : t.length ≤ 100) : (spl k t n).length ≤ 102 := by
  unfold spl
  have := itoa_small hn
  split
  · omega
  · split
    · simp; omega
    · omega
theorem q20 (k : Int) (t : List UInt8) (n a : Int) (hn : inI n) (ht : t.length ≤ 100) (m : Mem) : callL T09 20 [.agg [AV.int IntKind.i64 k, .str t, AV.int IntKind.i64 n, AV.int IntKind.i64 a]] m = some (.bool (valP k t n), m) := by
  have h35 := q35 k t n a hn (by omega) []
  have hti : ¬ (100 : Int) < t.length := by omega
  have hsl := spl_len (k := k) hn ht
  have hvr := val_ref k t n
  unfold refV at hvr
  apply callL_body (vf := c20) rfl rfl
  generalize spl k t n = s at *
  cases s with
  | nil =>
    have hv : valP k t n = false := by rw [← hvr]; rfl
    rw [hv]
    simp [c20, hti, h35, objCells]
  | cons c r =>
    have h28 := q28 (c :: r) (by omega) 0 (by simp) []
    unfold RefTok at h28
    simp only [List.drop_zero] at h28
    obtain ⟨tk, tt, tn, ta, te, h28, hq⟩ := h28
    have h28' : callL T09 28 [.str (c :: r), AV.int IntKind.i64 0] [] = some (.tup [.agg [AV.int IntKind.i64 tk, .str tt, AV.int IntKind.i64 tn, AV.int IntKind.i64 ta], AV.int IntKind.i64 te, AV.int IntKind.i64 (lexT (c :: r)).e], []) := h28
    by_cases c32 : (c.toNat : Int) = 32
    · have hv : valP k t n = false := by
        rw [← hvr]
        have : (lexT (c :: r)).e = 2 := by
          have hm : c = 32 := UInt8.toNat_inj.1 (by show c.toNat = 32; omega)
          subst hm
          simp [lexT, lxE, letterN, dg, sgB]
        rw [this]; rfl
      rw [hv]
      simp [c20, hti, h35, c32, objCells]
    by_cases c35' : (c.toNat : Int) = 35
    · have hv : valP k t n = false := by
        rw [← hvr]
        have : (lexT (c :: r)).e = 2 := by
          have hm : c = 35 := UInt8.toNat_inj.1 (by show c.toNat = 35; omega)
          subst hm
          simp [lexT, lxE, letterN, dg, sgB]
        rw [this]; rfl
      rw [hv]
      simp [c20, hti, h35, c35', objCells]
    generalize lexT (c :: r) = X at *
    by_cases he : X.e = 0
    · obtain ⟨rfl, rfl, rfl, rfl, rfl⟩ := hq he
      rw [← hvr]
      by_cases hl : X.l = (c :: r).length
      · have hli : ((0 + X.l : Nat) : Int) = (((c :: r).length : Nat) : Int) := by omega
        by_cases e1 : X.k = k
        · by_cases e2 : X.t = t
          · by_cases e3 : X.n = n
            · simp [c20, hti, h35, c32, c35', h28', he, hl, e1, e2, e3, objCells]
            · have b3 : (X.n == n) = false := beq_false_of_ne e3
              simp [c20, hti, h35, c32, c35', h28', he, hl, e1, e2, b3, e3, objCells]
          · have b2 : (X.t == t) = false := beq_false_of_ne e2
            simp [c20, hti, h35, c32, c35', h28', he, hl, e1, b2, e2, objCells]
        · have b1 : (X.k == k) = false := beq_false_of_ne e1
          simp [c20, hti, h35, c32, c35', h28', he, hl, b1, e1, objCells]
      · have hli : ¬ ((X.l : Nat) : Int) = (((c :: r).length : Nat) : Int) := by omega
        have hl' : ¬ X.l = r.length + 1 := by simpa using hl
        have hli' : ¬ ((X.l : Nat) : Int) = (r.length : Int) + 1 := by omega
        simp [c20, hti, h35, c32, c35', h28', he, hl', hli', objCells]
    · rw [← hvr]
      simp [c20, hti, h35, c32, c35', h28', he, objCells]
theorem q18 (k : Int) (t : List UInt8) (n a : Int) (hn : inI n) (ht : t.length ≤ 100) (m : Mem) :
    callL T09 18 [.agg [AV.int IntKind.i64 k, .str t, AV.int IntKind.i64 n, AV.int IntKind.i64 a]] m = some (if valP k t n then .tup [.str (spl k t n), AV.int IntKind.i64 0] else .tup [.str [], AV.int IntKind.i64 2], m) := by
  have h20 := q20 k t n a hn ht []
  have h35 := q35 k t n a hn (by omega) []
  apply callL_body (vf := c18) rfl rfl
  cases hv : valP k t n with
  | false => rw [hv] at h20; simp [c18, h20, objCells]
  | true => rw [hv] at h20; simp [c18, h20, h35, objCells]
theorem law5 (k : Int) (t : List UInt8) (n a : Int) (hn : inI n) (_ : inL t.length) : callL T09 5 [.agg [AV.int IntKind.i64 k, .str t, AV.int IntKind.i64 n, AV.int IntKind.i64 a]] [] = some (.bool true, []) := by
  apply callL_body (vf := c5) rfl rfl
  have ha := awake
  by_cases h1 : 100 < t.length
  · have h1i : (100 : Int) < t.length := by omega
    simp [c5, ha, h1i, objCells]
  have h1i : ¬ (100 : Int) < t.length := by omega
  have h17 := q17 k t n a hn (by omega) []
  have h18 := q18 k t n a hn (by omega) []
  have h19 := q19 k t n a (by omega) []
  have h20 := q20 k t n a hn (by omega) []
  cases hv : valP k t n with
  | false =>
    rw [hv] at h17 h18 h19 h20
    simp only [Bool.false_eq_true, if_false] at h17 h18
    simp [c5, ha, h1i, h17, h18, h19, h20, objCells]
  | true =>
    rw [hv] at h17 h18 h19 h20
    simp only [if_true] at h17 h18
    simp [c5, ha, h1i, h17, h18, h19, h20, objCells]
end Go.Vm.Ch09
