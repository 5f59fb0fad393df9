/- Chapter 10: what its functions compute. -/
import Derived.Test.YtmncbcgcahfdcaaGreatDoorC10zj
import Derived.Lib.ItoaLen
namespace Go.Vm.Ch10
set_option maxRecDepth 10000
set_option maxHeartbeats 8000000
def valP (k : Int) (t : List UInt8) (n : Int) : Bool :=
  if k = 1 then decide (n = 0) && (decide (t ≠ []) && (decide (t.length ≤ 40) && ((match t.head? with | some c => letterN c.toNat | none => false) && decide ((t.takeWhile pd).length = t.length))))
  else if k = 2 then decide (t = []) && (decide (-1000000000000000 ≤ n) && decide (n ≤ 1000000000000000))
  else if k = 3 then decide (n = 0) && labelOK t
  else if k = 4 then decide (n = 0) && (decide (t.length = 1) && (match t.head? with | some c => sgB c | none => false))
  else false
def spl (k : Int) (t : List UInt8) (n : Int) : List UInt8 := if k = 2 then Lib.itoa n else if k = 3 then 34 :: (t ++ [34]) else t
def refV (k : Int) (t : List UInt8) (n : Int) : Bool :=
  decide ((lexT (spl k t n)).e = 0) && (decide ((lexT (spl k t n)).l = (spl k t n).length) && (decide ((lexT (spl k t n)).k = k) && (decide ((lexT (spl k t n)).t = t) && decide ((lexT (spl k t n)).n = n))))
theorem pum_app (M : Nat) (r : List UInt8) : ∀ (l : List UInt8) (acc u : Nat), Lib.parseUintM M acc l = .ok u → Lib.parseUintM M acc (l ++ r) = Lib.parseUintM M u r
  | [], acc, u, h => by
    simp only [Lib.parseUintM, Lib.NumEnd.ok.injEq] at h
    subst h; rfl
  | c :: l, acc, u, h => by
    rw [List.cons_append, Lib.parseUintM]
    rw [Lib.parseUintM] at h
    split at h
    · rename_i hc
      rw [if_pos hc]
      split at h
      · cases h
      · rename_i h1
        rw [if_neg h1]
        split at h
        · cases h
        · rename_i h2
          rw [if_neg h2]
          exact pum_app M r l _ u h
    · cases h
theorem of_dig {d : Nat} (h : d < 10) : (UInt8.ofNat (48 + d)).toNat = 48 + d := by
  simp; omega
theorem dec_parse (M : Nat) : ∀ (u : Nat), u ≤ M → u < 10000000000000000000 → Lib.parseUintM M 0 (Lib.decDigits u) = .ok u := by
  intro u
  induction u using Nat.strongRecOn with
  | _ u ih =>
    intro hM hb
    by_cases h : u < 10
    · rw [Lib.decDigits, dif_pos h]
      rw [Lib.parseUintM, of_dig h, if_pos (by omega), if_neg (by omega), if_neg (by omega)]
      simp only [Lib.parseUintM]
      congr 1; omega
    · rw [Lib.decDigits, dif_neg h]
      rw [pum_app M _ _ _ _ (ih (u / 10) (by omega) (by omega) (by omega))]
      rw [Lib.parseUintM, of_dig (by omega), if_pos (by omega), if_neg (by omega), if_neg (by omega)]
      simp only [Lib.parseUintM]
      congr 1; omega
theorem dec_digs : ∀ (u : Nat), (∀ c ∈ Lib.decDigits u, dg c = true) ∧ ∃ c r, Lib.decDigits u = c :: r ∧ (c = 48 → r = []) := by
  intro u
  induction u using Nat.strongRecOn with
  | _ u ih =>
    by_cases h : u < 10
    · rw [Lib.decDigits, dif_pos h]
      refine ⟨fun c hc => ?_, _, [], rfl, fun _ => rfl⟩
      rw [List.mem_singleton.1 hc]
      unfold dg
      rw [of_dig h]
      exact decide_eq_true (by omega)
    · rw [Lib.decDigits, dif_neg h]
      obtain ⟨h1, c, r, h2, h3⟩ := ih (u / 10) (by omega)
      refine ⟨fun d hd => ?_, c, r ++ [UInt8.ofNat (48 + u % 10)], by rw [h2]; rfl, fun h48 => ?_⟩
      · rcases List.mem_append.1 hd with hd | hd
        · exact h1 d hd
        · rw [List.mem_singleton.1 hd]
          unfold dg
          rw [of_dig (by omega)]
          exact decide_eq_true (by omega)
      · exfalso
        have hr := h3 h48
        rw [h48, hr] at h2
        have hp := dec_parse (u / 10) (u / 10) (Nat.le_refl _)
        by_cases hbig : u / 10 < 10000000000000000000
        · have hp' := hp hbig
          rw [h2] at hp'
          simp only [Lib.parseUintM] at hp'
          rw [if_pos (by decide), if_neg (by decide), if_neg (by simp)] at hp'
          simp at hp'
          omega
        · have hl := congrArg List.length h2
          rw [Lib.decDigits_length] at hl
          have := Lib.lt_pow_nDigits (u / 10)
          rw [hl] at this
          simp at this
          omega
theorem tw_app {p : UInt8 → Bool} {t z : List UInt8} (ht : ∀ c ∈ t, p c = true) (hz : ∀ c, z.head? = some c → p c = false) : (t ++ z).takeWhile p = t := by
  rw [List.takeWhile_append_of_pos ht]
  have : z.takeWhile p = [] := by
    cases z with
    | nil => rfl
    | cons c r => rw [List.takeWhile_cons, hz c rfl]; rfl
  rw [this, List.append_nil]
theorem part_app {t z : List UInt8} (hz : ∀ c, z.head? = some c → pd c = false) : partAt (t ++ z) t.length = false := by
  unfold partAt
  rw [List.getElem?_append_right (Nat.le_refl _), Nat.sub_self]
  cases z with
  | nil => rfl
  | cons c r => exact hz c rfl
def After (z : List UInt8) : Prop := z = [] ∨ ∃ r, z = 32 :: r
theorem after_pd {z : List UInt8} (h : After z) : ∀ c, z.head? = some c → pd c = false := by
  rcases h with rfl | ⟨r, rfl⟩
  · intro c h; simp at h
  · intro c h; simp at h; subst h; decide
theorem after_dg {z : List UInt8} (h : After z) : ∀ c, z.head? = some c → dg c = false := by
  rcases h with rfl | ⟨r, rfl⟩
  · intro c h; simp at h
  · intro c h; simp at h; subst h; decide
theorem num_back {n : Int} (h1 : -1000000000000000 ≤ n) (h2 : n ≤ 1000000000000000) {z : List UInt8} (hz : After z) :
    numE (Lib.itoa n ++ z) = 0 ∧ nE (Lib.itoa n ++ z) = (Lib.itoa n).length ∧ prs ((Lib.itoa n ++ z).take (nE (Lib.itoa n ++ z))) = (n, false) ∧ ∃ c r, Lib.itoa n ++ z = c :: r ∧ letterN c.toNat = false ∧ (dg c = true ∨ c.toNat = 45) := by
  by_cases hn : n < 0
  · have e : Lib.itoa n = 45 :: Lib.decDigits n.natAbs := by unfold Lib.itoa; rw [if_pos hn]
    obtain ⟨d1, c, r, d2, d3⟩ := dec_digs n.natAbs
    have hp := dec_parse (2 ^ 64 - 1) n.natAbs (by omega) (by omega)
    have hne : n.natAbs ≠ 0 := by omega
    generalize hU : n.natAbs = U at *
    rw [e]
    generalize hDD : Lib.decDigits U = D at *
    have hs : sgn (45 :: D ++ z) = 1 := rfl
    have hnd : nd (45 :: D ++ z) = D := by
      unfold nd; rw [hs]
      show (D ++ z).takeWhile dg = D
      exact tw_app d1 (after_dg hz)
    have hnE : nE (45 :: D ++ z) = (45 :: D).length := by unfold nE; rw [hs, hnd]; simp; omega
    have htk : (45 :: D ++ z).take (nE (45 :: D ++ z)) = 45 :: D := by rw [hnE]; exact List.take_left
    have hprs : prs (45 :: D) = (n, false) := by
      unfold prs Lib.parseIntB
      simp only
      rw [if_pos (by decide)]
      unfold Lib.parseUintB
      rw [if_neg (by rw [d2]; simp), hp]
      simp only
      rw [if_neg (fun h => h.1 (by decide)), if_neg (fun h => by have := h.2; omega), if_pos (by decide)]
      simp; omega
    have hbad : numBad (45 :: D ++ z) = false := by
      unfold numBad
      rw [hnd, htk, hnE, part_app (after_pd hz)]
      have hl : D.length = r.length + 1 := by rw [d2]; rfl
      have hD0 : D ≠ [48] := by
        intro h
        rw [h] at hp
        simp only [Lib.parseUintM] at hp
        rw [if_pos (by decide), if_neg (by decide), if_neg (by decide)] at hp
        simp at hp
        exact hne hp.symm
      have hhd : ((45 :: D ++ z).drop (sgn (45 :: D ++ z))).head? = some c := by rw [hs]; show (D ++ z).head? = _; rw [d2]; rfl
      rw [hhd]
      simp only [Bool.or_eq_false_iff, decide_eq_false_iff_not, Bool.and_eq_false_iff]
      refine ⟨⟨⟨by omega, trivial⟩, ?_⟩, ?_⟩
      · by_cases hc : c = 48
        · left; rw [hl, d3 hc]; simp
        · right; simp [hc]
      · intro h; exact hD0 (by injection h)
    refine ⟨?_, hnE, by rw [htk, hprs], 45, D ++ z, rfl, by decide, .inr rfl⟩
    unfold numE
    rw [hbad, htk, hprs]
    simp
    omega
  · have e : Lib.itoa n = Lib.decDigits n.toNat := by unfold Lib.itoa; rw [if_neg hn]
    obtain ⟨d1, c, r, d2, d3⟩ := dec_digs n.toNat
    have hp := dec_parse (2 ^ 64 - 1) n.toNat (by omega) (by omega)
    generalize hU : n.toNat = U at *
    rw [e]
    generalize hDD : Lib.decDigits U = D at *
    have hcd : dg c = true := d1 c (by rw [d2]; simp)
    have hc45 : c ≠ 45 := fun h => by rw [h] at hcd; exact absurd hcd (by decide)
    have hs : sgn (D ++ z) = 0 := by unfold sgn; rw [d2, if_neg]; simp [hc45]
    have hnd : nd (D ++ z) = D := by
      unfold nd; rw [hs]
      exact tw_app d1 (after_dg hz)
    have hnE : nE (D ++ z) = D.length := by unfold nE; rw [hs, hnd]; simp
    have htk : (D ++ z).take (nE (D ++ z)) = D := by rw [hnE]; exact List.take_left
    have hc' : 48 ≤ c.toNat ∧ c.toNat ≤ 57 := of_decide_eq_true hcd
    have hprs : prs D = (n, false) := by
      unfold prs Lib.parseIntB
      rw [d2] at hp ⊢
      simp only
      rw [if_neg (by omega)]
      unfold Lib.parseUintB
      rw [if_neg (by simp), hp]
      simp only
      rw [if_neg (fun h => by have := h.2; omega), if_neg (fun h => by have := h.1; omega), if_neg (by omega)]
      simp; omega
    have hbad : numBad (D ++ z) = false := by
      unfold numBad
      rw [hnd, htk, hnE, part_app (after_pd hz)]
      have hl : D.length = r.length + 1 := by rw [d2]; rfl
      have hhd : ((D ++ z).drop (sgn (D ++ z))).head? = some c := by rw [hs]; show (D ++ z).head? = _; rw [d2]; rfl
      rw [hhd]
      simp only [Bool.or_eq_false_iff, decide_eq_false_iff_not, Bool.and_eq_false_iff]
      refine ⟨⟨⟨by omega, trivial⟩, ?_⟩, ?_⟩
      · by_cases hc : c = 48
        · left; rw [hl, d3 hc]; simp
        · right; simp [hc]
      · intro h; rw [d2] at h; injection h with h; exact hc45 h
    refine ⟨?_, hnE, by rw [htk, hprs], c, r ++ z, by rw [d2]; rfl, ?_, .inl hcd⟩
    · unfold numE
      rw [hbad, htk, hprs]
      simp
      omega
    · unfold letterN; rw [decide_eq_false_iff_not]; omega
theorem upto_app {t z : List UInt8} (ht : ∀ c ∈ t, c ≠ 34) : upto 34 (t ++ 34 :: z) = t := by
  unfold upto
  rw [List.takeWhile_append_of_pos (fun c hc => by simp [ht c hc])]
  simp
theorem lab_no34 {t : List UInt8} (h : labelOK t = true) : ∀ c ∈ t, c ≠ 34 := by
  intro c hc e
  unfold labelOK at h
  simp only [Bool.and_eq_true, List.all_eq_true] at h
  have := h.1.1.2 c hc
  rw [e] at this
  exact absurd this (by decide)
theorem lex_back {k : Int} {t : List UInt8} {n : Int} (hv : valP k t n = true) {z : List UInt8} (hz : After z) : lexT (spl k t n ++ z) = ⟨k, t, n, (spl k t n).length, 0⟩ := by
  unfold valP at hv
  unfold spl
  by_cases k1 : k = 1
  · subst k1
    rw [if_pos rfl] at hv
    rw [if_neg (by decide), if_neg (by decide)]
    simp only [Bool.and_eq_true, decide_eq_true_eq] at hv
    obtain ⟨rfl, -, h40, hL, htw⟩ := hv
    cases t with
    | nil => simp at hL
    | cons c r =>
      simp only [List.head?_cons] at hL
      have hall : ∀ x ∈ c :: r, pd x = true := by
        have := (tw_all pd (c :: r)).1 htw
        rw [List.all_eq_true] at this
        exact this
      have htk : (c :: (r ++ z)).takeWhile pd = c :: r := tw_app (t := c :: r) hall (after_pd hz)
      rw [List.cons_append]
      simp only [lexT]
      rw [if_pos hL, htk, if_neg (by omega)]
  rw [if_neg k1] at hv
  by_cases k2 : k = 2
  · subst k2
    rw [if_pos rfl] at hv ⊢
    simp only [Bool.and_eq_true, decide_eq_true_eq] at hv
    obtain ⟨rfl, h1, h2⟩ := hv
    obtain ⟨b1, b2, b3, c, r, b4, b5, b6⟩ := num_back h1 h2 hz
    have key : lexT (c :: r) = ⟨2, [], if numE (c :: r) = 0 then (prs ((c :: r).take (nE (c :: r)))).1 else 0, if numE (c :: r) = 0 then nE (c :: r) else 0, numE (c :: r)⟩ := by
      simp only [lexT]
      rw [if_neg (by rw [b5]; decide), if_pos b6]
    rw [← b4] at key
    rw [key, b1, if_pos rfl, if_pos rfl, b3, b2]
  rw [if_neg k2] at hv ⊢
  by_cases k3 : k = 3
  · subst k3
    rw [if_pos rfl] at hv ⊢
    simp only [Bool.and_eq_true, decide_eq_true_eq] at hv
    obtain ⟨rfl, hlab⟩ := hv
    have hu : upto 34 (t ++ 34 :: z) = t := upto_app (lab_no34 hlab)
    have e : (34 :: (t ++ [34]) ++ z) = 34 :: (t ++ 34 :: z) := by simp
    rw [e]
    simp only [lexT]
    rw [if_neg (by decide), if_neg (by decide), if_pos (by decide), hu, if_pos (by simp), if_pos hlab]
    simp
  rw [if_neg k3] at hv ⊢
  by_cases k4 : k = 4
  · subst k4
    rw [if_pos rfl] at hv
    simp only [Bool.and_eq_true, decide_eq_true_eq] at hv
    obtain ⟨rfl, h1, hS⟩ := hv
    match t, h1 with
    | [c], _ =>
      simp only [List.head?_cons] at hS
      have hm : c.toNat ∈ [40, 41, 44, 61, 58, 60, 62, 43, 47] := of_decide_eq_true hS
      have key : ∀ m : Nat, m ∈ [40, 41, 44, 61, 58, 60, 62, 43, 47] → letterN m = false ∧ ¬ (48 ≤ m ∧ m ≤ 57) ∧ m ≠ 45 ∧ m ≠ 34 := by decide
      obtain ⟨e1, e2, e3, e4⟩ := key _ hm
      rw [List.cons_append]
      simp only [lexT]
      rw [if_neg (by rw [e1]; decide), if_neg (by unfold dg; simp only [decide_eq_true_eq]; omega), if_neg e4, if_pos hS]
      rfl
  rw [if_neg k4] at hv
  cases hv
end Go.Vm.Ch10
namespace Go.Vm.Ch10
open _root_.Ch10 (T10 c5 c17 c18 c49 c73 c92)
set_option maxRecDepth 10000
set_option maxHeartbeats 16000000
theorem ref_val {k : Int} {t : List UInt8} {n : Int} (h : refV k t n = true) : valP k t n = true := by
  unfold refV at h
  simp only [Bool.and_eq_true, decide_eq_true_eq] at h
  obtain ⟨he, hl, hk, ht, hn⟩ := h
  generalize hs : spl k t n = s at *
  cases s with
  | nil => simp [lexT, lxE] at he
  | cons c r =>
    obtain ⟨X, hX⟩ : ∃ X, lexT (c :: r) = X := ⟨_, rfl⟩
    rw [hX] at he hl hk ht hn
    simp only [lexT] at hX
    by_cases hL : letterN c.toNat = true
    · rw [if_pos hL] at hX
      by_cases h40 : 40 < ((c :: r).takeWhile pd).length
      · rw [if_pos h40] at hX; subst hX; cases he
      · rw [if_neg h40] at hX
        subst hX
        simp only at hl hk ht hn
        subst hk
        have hst : t = c :: r := by rw [← hs]; unfold spl; rw [if_neg (by decide), if_neg (by decide)]
        subst hst
        subst hn
        unfold valP
        rw [if_pos rfl]
        simp only [List.head?_cons, hL, hl, Bool.and_eq_true, decide_eq_true_eq, and_true, true_and, decide_true]
        exact ⟨by simp, by omega⟩
    rw [if_neg hL] at hX
    by_cases hN : dg c = true ∨ c.toNat = 45
    · rw [if_pos hN] at hX
      subst hX
      simp only at he hl hk ht hn
      subst hk
      subst ht
      rw [if_pos he] at hn
      obtain ⟨-, -, g1, g2⟩ := numE_0 he
      unfold valP
      rw [if_neg (by decide), if_pos rfl]
      simp only [Bool.and_eq_true, decide_eq_true_eq]
      exact ⟨trivial, by omega, by omega⟩
    rw [if_neg hN] at hX
    by_cases hQ : c.toNat = 34
    · rw [if_pos hQ] at hX
      by_cases h1 : (upto 34 r).length < r.length
      · rw [if_pos h1] at hX
        by_cases h2 : labelOK (upto 34 r) = true
        · rw [if_pos h2] at hX
          subst hX
          simp only at hk ht hn
          subst hk; subst ht; subst hn
          unfold valP
          rw [if_neg (by decide), if_neg (by decide), if_pos rfl]
          simp [h2]
        · rw [if_neg h2] at hX; subst hX; cases he
      · rw [if_neg h1] at hX; subst hX; cases he
    rw [if_neg hQ] at hX
    by_cases hS : sgB c = true
    · rw [if_pos hS] at hX
      subst hX
      simp only at hk ht hn
      subst hk; subst ht; subst hn
      unfold valP
      rw [if_neg (by decide), if_neg (by decide), if_neg (by decide), if_pos rfl]
      simp [hS]
    · rw [if_neg hS] at hX; subst hX; cases he
theorem val_ref (k : Int) (t : List UInt8) (n : Int) : refV k t n = valP k t n := by
  rw [Bool.eq_iff_iff]
  refine ⟨ref_val, fun h => ?_⟩
  have hb := lex_back h (z := []) (.inl rfl)
  rw [List.append_nil] at hb
  unfold refV
  rw [hb]
  simp
theorem itoa_small {n : Int} (hn : inI n) : (Lib.itoa n).length ≤ 21 := Lib.itoa_length_le n hn.1 hn.2
theorem q92 (k : Int) (t : List UInt8) (n a : Int) (hn : inI n) (ht : t.length ≤ 1000000) (m : Mem) : callL T10 92 [.agg [AV.int .i64 k, .str t, AV.int .i64 n, AV.int .i64 a]] m = some (.str (spl k t n), m) := by
  have h34 := q105 n hn.1 hn.2 []
  apply callL_body (vf := c92) rfl rfl
  unfold spl
  by_cases k2 : k = 2
  · subst k2
    simp [c92, h34, objCells]
  by_cases k3 : k = 3
  · subst k3
    simp [c92, objCells]
    omega
  · simp [c92, k2, k3, objCells]
theorem q49 (k : Int) (t : List UInt8) (n a : Int) (ht : t.length ≤ 1000000) (m : Mem) : callL T10 49 [.agg [AV.int .i64 k, .str t, AV.int .i64 n, AV.int .i64 a]] m = some (.bool (valP k t n), m) := by
  have h15 := q71 t (by omega) []
  have h23 := q40 t 69 pd (fun c _ => q69' c) (by omega) []
  apply callL_body (vf := c49) rfl rfl
  unfold valP
  by_cases k1 : k = 1
  · subst k1
    rw [if_pos rfl]
    by_cases n0 : n = 0
    rotate_left
    · simp [c49, n0, objCells]
    subst n0
    cases t with
    | nil => simp [c49, objCells]
    | cons c r =>
      have hc := c.toNat_lt
      have hc2 : (c.toNat : Int) < 256 := by omega
      have htb := tbl_get c.toNat hc
      have k1 := cls_1 c
      by_cases h40 : (c :: r).length ≤ 40
      rotate_left
      · have h40i : ¬ (((c :: r).length : Nat) : Int) ≤ 40 := by omega
        generalize hT : c :: r = T at *
        have hne : T ≠ [] := by rw [← hT]; simp
        simp [c49, h40i, hne, h40, objCells]
      have h40i : (((c :: r).length : Nat) : Int) ≤ 40 := by omega
      have hne : c :: r ≠ [] := by simp
      have hidx : (c :: r)[0]? = some c := rfl
      cases hL : letterN c.toNat with
      | false =>
        rw [hL] at k1
        have k1' := of_decide_eq_false k1
        simp only [List.head?_cons, hL]
        generalize hT : c :: r = T at *
        have hne : T ≠ [] := by rw [← hT]; simp
        have hi0 : T.length ≠ 0 := by rw [← hT]; simp
        have hg0 : ∀ h : 0 < T.length, T[0] = c := fun h => by subst hT; rfl
        have hp : 0 < T.length := by omega
        simp [c49, h40i, hne, q68, hg0, hp, hc2, htb, k1', objCells]
      | true =>
        rw [hL] at k1
        have k1' := of_decide_eq_true k1
        simp only [List.head?_cons, hL]
        generalize hT : c :: r = T at *
        have hne : T ≠ [] := by rw [← hT]; simp
        have hi0 : T.length ≠ 0 := by rw [← hT]; simp
        have hg0 : ∀ h : 0 < T.length, T[0] = c := fun h => by subst hT; rfl
        have hp : 0 < T.length := by omega
        by_cases hw : (T.takeWhile pd).length = T.length
        · have hwi : ((T.takeWhile pd).length : Int) = T.length := by omega
          simp [c49, h40i, h40, hne, q68, hg0, hp, hc2, htb, k1', h23, hw, objCells]
        · have hwi : ¬ ((T.takeWhile pd).length : Int) = T.length := by omega
          simp [c49, h40i, h40, hne, q68, hg0, hp, hc2, htb, k1', h23, hw, hwi, objCells]
  by_cases k2 : k = 2
  · subst k2
    rw [if_neg (by decide), if_pos rfl]
    by_cases t0 : t = []
    · by_cases g1 : -1000000000000000 ≤ n
      · by_cases g2 : n ≤ 1000000000000000
        · simp [c49, t0, g1, g2, objCells]
        · simp [c49, t0, g1, g2, objCells]
      · simp [c49, t0, g1, objCells]
    · simp [c49, t0, objCells]
  by_cases k3 : k = 3
  · subst k3
    rw [if_neg (by decide), if_neg (by decide), if_pos rfl]
    by_cases n0 : n = 0
    · cases hlab : labelOK t with
      | true => rw [hlab] at h15; simp [c49, n0, h15, objCells]
      | false => rw [hlab] at h15; simp [c49, n0, h15, objCells]
    · simp [c49, n0, objCells]
  by_cases k4 : k = 4
  · subst k4
    rw [if_neg (by decide), if_neg (by decide), if_neg (by decide), if_pos rfl]
    by_cases n0 : n = 0
    rotate_left
    · simp [c49, n0, objCells]
    by_cases l1 : t.length = 1
    rotate_left
    · have l1i : ¬ (t.length : Int) = 1 := by omega
      simp [c49, n0, l1, l1i, objCells]
    match t, l1 with
    | [c], _ =>
      have hc := c.toNat_lt
      have hc2 : (c.toNat : Int) < 256 := by omega
      have htb := tbl_get c.toNat hc
      have k4 := cls_4 c
      simp [c49, n0, q68, hc2, htb, ← k4, objCells]
      rw [Bool.eq_iff_iff]; simp
  · rw [if_neg k1, if_neg k2, if_neg k3, if_neg k4]
    simp [c49, k1, k2, k3, k4, objCells]
theorem spl_len {k : Int} {t : List UInt8} {n : Int} (hn : inI n) (ht : t.length ≤ 200) : (spl k t n).length ≤ 202 := by
  unfold spl
  have := itoa_small hn
  split
  · omega
  · split
    · simp; omega
    · omega
theorem q73a (k : Int) (t : List UInt8) (n a : Int) (hn : inI n) (ht : t.length ≤ 100) (m : Mem) : callL T10 73 [.agg [AV.int .i64 k, .str t, AV.int .i64 n, AV.int .i64 a]] m = some (.bool (valP k t n), m) := by
  have h35 := q92 k t n a hn (by omega) []
  have hti : ¬ (100 : Int) < t.length := by omega
  have hsl := spl_len (k := k) (t := t) hn (by omega)
  have hvr := val_ref k t n
  unfold refV at hvr
  apply callL_body (vf := c73) rfl rfl
  generalize spl k t n = s at *
  cases s with
  | nil =>
    have hv : valP k t n = false := by rw [← hvr]; rfl
    rw [hv]
    simp [c73, hti, h35, objCells]
  | cons c r =>
    have h28 := q62 (c :: r) (by omega) 0 (by simp) []
    unfold RefTok at h28
    simp only [List.drop_zero] at h28
    obtain ⟨tk, tt, tn, ta, te, h28, hq⟩ := h28
    have h28' : callL T10 62 [.str (c :: r), AV.int .i64 0] [] = some (.tup [.agg [AV.int .i64 tk, .str tt, AV.int .i64 tn, AV.int .i64 ta], AV.int .i64 te, AV.int .i64 (lexT (c :: r)).e], []) := h28
    by_cases c77 : (c.toNat : Int) = 32
    · have hv : valP k t n = false := by
        rw [← hvr]
        have : (lexT (c :: r)).e = 2 := by
          have hm : c = 32 := UInt8.toNat_inj.1 (by show c.toNat = 32; omega)
          subst hm
          simp [lexT, lxE, letterN, dg, sgB]
        rw [this]; rfl
      rw [hv]
      simp [c73, hti, h35, c77, objCells]
    by_cases c92' : (c.toNat : Int) = 35
    · have hv : valP k t n = false := by
        rw [← hvr]
        have : (lexT (c :: r)).e = 2 := by
          have hm : c = 35 := UInt8.toNat_inj.1 (by show c.toNat = 35; omega)
          subst hm
          simp [lexT, lxE, letterN, dg, sgB]
        rw [this]; rfl
      rw [hv]
      simp [c73, hti, h35, c92', objCells]
    generalize lexT (c :: r) = X at *
    by_cases he : X.e = 0
    · obtain ⟨rfl, rfl, rfl, rfl, rfl⟩ := hq he
      rw [← hvr]
      by_cases hl : X.l = (c :: r).length
      · have hli : ((0 + X.l : Nat) : Int) = (((c :: r).length : Nat) : Int) := by omega
        by_cases e1 : X.k = k
        · by_cases e2 : X.t = t
          · by_cases e3 : X.n = n
            · simp [c73, hti, h35, c77, c92', h28', he, hl, e1, e2, e3, objCells]
            · have b3 : (X.n == n) = false := beq_false_of_ne e3
              simp [c73, hti, h35, c77, c92', h28', he, hl, e1, e2, b3, e3, objCells]
          · have b2 : (X.t == t) = false := beq_false_of_ne e2
            simp [c73, hti, h35, c77, c92', h28', he, hl, e1, b2, e2, objCells]
        · have b1 : (X.k == k) = false := beq_false_of_ne e1
          simp [c73, hti, h35, c77, c92', h28', he, hl, b1, e1, objCells]
      · have hli : ¬ ((X.l : Nat) : Int) = (((c :: r).length : Nat) : Int) := by omega
        have hl' : ¬ X.l = r.length + 1 := by simpa using hl
        have hli' : ¬ ((X.l : Nat) : Int) = (r.length : Int) + 1 := by omega
        simp [c73, hti, h35, c77, c92', h28', he, hl', hli', objCells]
    · rw [← hvr]
      simp [c73, hti, h35, c77, c92', h28', he, objCells]
theorem val_long {k : Int} {t : List UInt8} {n : Int} (h : 100 < t.length) : valP k t n = false := by
  unfold valP
  split
  · have : decide (t.length ≤ 40) = false := by simp; omega
    simp [this]
  · split
    · have : decide (t = []) = false := by
        simp; intro e; subst e; simp at h
      simp [this]
    · split
      · have : labelOK t = false := by
          unfold labelOK
          have : decide (1 ≤ t.length ∧ t.length ≤ 40) = false := by simp; omega
          rw [this]; rfl
        simp [this]
      · split
        · have : decide (t.length = 1) = false := by simp; omega
          simp [this]
        · rfl
theorem q73 (k : Int) (t : List UInt8) (n a : Int) (hn : inI n) (m : Mem) : callL T10 73 [.agg [AV.int .i64 k, .str t, AV.int .i64 n, AV.int .i64 a]] m = some (.bool (valP k t n), m) := by
  by_cases h : 100 < t.length
  · have hti : (100 : Int) < t.length := by omega
    rw [val_long h]
    apply callL_body (vf := c73) rfl rfl
    simp [c73, hti, objCells]
  · exact q73a k t n a hn (by omega) m
end Go.Vm.Ch10
