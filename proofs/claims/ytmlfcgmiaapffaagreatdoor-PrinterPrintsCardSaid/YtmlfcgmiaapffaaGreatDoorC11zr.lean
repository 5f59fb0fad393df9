/- Chapter 11: what its functions compute. -/
import Derived.Test.YtmlfcgmiaapffaaGreatDoorC11zj
namespace Go.Vm.Ch11
set_option maxRecDepth 10000
set_option maxHeartbeats 8000000
def valP (k : Int) (t : List UInt8) (n : Int) : Bool :=
  if k = 1 then decide (n = 0) && (decide (t ≠ []) && (decide (t.length ≤ 40) && ((match t.head? with | some c => letterN c.toNat | none => false) && decide ((t.takeWhile pd).length = t.length))))
  else if k = 2 then decide (t = []) && (decide (-1000000000000000 ≤ n) && decide (n ≤ 1000000000000000))
  else if k = 3 then decide (n = 0) && labelOK t
  else if k = 4 then decide (n = 0) && (decide (t.length = 1) && (match t.head? with | some c => sgB c | none => false))
  else false
def spl (k : Int) (t : List UInt8) (n : Int) : List UInt8 := if k = 2 then Lib.itoa n else if k = 3 then 34 :: (t ++ [34]) else t
def refV (k : Int) (t : List UInt8) (n : Int) : Bool :=
  decide ((lexT (spl k t n)).e = 0) && (decide ((lexT (spl k t n)).l = (spl k t n).length) && (decide ((lexT (spl k t n)).k = k) && (decide ((lexT (spl k t n)).t = t) && decide ((lexT (spl k t n)).n = n))))
theorem pum_app (M : Nat) (r : List UInt8) : ∀ (l : List UInt8) (acc u : Nat), Lib.parseUintM M acc l = .ok u → Lib.parseUintM M acc (l ++ r) = Lib.parseUintM M u r
  | [], acc, u, h => by
    simp only [Lib.parseUintM, Lib.NumEnd.ok.injEq] at h
    subst h; rfl
  | c :: l, acc, u, h => by
    rw [List.cons_append, Lib.parseUintM]
    rw [Lib.parseUintM] at h
    split at h
    · rename_i hc
      rw [if_pos hc]
      split at h
      · cases h
      · rename_i h1
        rw [if_neg h1]
        split at h
        · cases h
        · rename_i h2
          rw [if_neg h2]
          exact pum_app M r l _ u h
    · cases h
theorem of_dig {d : Nat} (h : d < 10) : (UInt8.ofNat (48 + d)).toNat = 48 + d := by
  simp; omega
theorem dec_parse (M : Nat) : ∀ (u : Nat), u ≤ M → u < 10000000000000000000 → Lib.parseUintM M 0 (Lib.decDigits u) = .ok u := by
  intro u
  induction u using Nat.strongRecOn with
  | _ u ih =>
    intro hM hb
    by_cases h : u < 10
    · rw [Lib.decDigits, dif_pos h]
      rw [Lib.parseUintM, of_dig h, if_pos (by omega), if_neg (by omega), if_neg (by omega)]
      simp only [Lib.parseUintM]
      congr 1; omega
    · rw [Lib.decDigits, dif_neg h]
      rw [pum_app M _ _ _ _ (ih (u / 10) (by omega) (by omega) (by omega))]
      rw [Lib.parseUintM, of_dig (by omega), if_pos (by omega), if_neg (by omega), if_neg (by omega)]
      simp only [Lib.parseUintM]
      congr 1; omega
theorem dec_digs : ∀ (u : Nat), (∀ c ∈ Lib.decDigits u, dg c = true) ∧ ∃ c r, Lib.decDigits u = c :: r ∧ (c = 48 → r = []) := by
  intro u
  induction u using Nat.strongRecOn with
  | _ u ih =>
    by_cases h : u < 10
    · rw [Lib.decDigits, dif_pos h]
      refine ⟨fun c hc => ?_, _, [], rfl, fun _ => rfl⟩
      rw [List.mem_singleton.1 hc]
      unfold dg
      rw [of_dig h]
      exact decide_eq_true (by omega)
    · rw [Lib.decDigits, dif_neg h]
      obtain ⟨h1, c, r, h2, h3⟩ := ih (u / 10) (by omega)
      refine ⟨fun d hd => ?_, c, r ++ [UInt8.ofNat (48 + u % 10)], by rw [h2]; rfl, fun h48 => ?_⟩
      · rcases List.mem_append.1 hd with hd | hd
        · exact h1 d hd
        · rw [List.mem_singleton.1 hd]
          unfold dg
          rw [of_dig (by omega)]
          exact decide_eq_true (by omega)
      · exfalso
        have hr := h3 h48
        rw [h48, hr] at h2
        have hp := dec_parse (u / 10) (u / 10) (Nat.le_refl _)
        by_cases hbig : u / 10 < 10000000000000000000
        · have hp' := hp hbig
          rw [h2] at hp'
          simp only [Lib.parseUintM] at hp'
          rw [if_pos (by decide), if_neg (by decide), if_neg (by simp)] at hp'
          simp at hp'
          omega
        · have hl := congrArg List.length h2
          rw [Lib.decDigits_length] at hl
          have := Lib.lt_pow_nDigits (u / 10)
          rw [hl] at this
          simp at this
          omega
theorem tw_app {p : UInt8 → Bool} {t z : List UInt8} (ht : ∀ c ∈ t, p c = true) (hz : ∀ c, z.head? = some c → p c = false) : (t ++ z).takeWhile p = t := by
  rw [List.takeWhile_append_of_pos ht]
  have : z.takeWhile p = [] := by
    cases z with
    | nil => rfl
    | cons c r => rw [List.takeWhile_cons, hz c rfl]; rfl
  rw [this, List.append_nil]
theorem part_app {t z : List UInt8} (hz : ∀ c, z.head? = some c → pd c = false) : partAt (t ++ z) t.length = false := by
  unfold partAt
  rw [List.getElem?_append_right (Nat.le_refl _), Nat.sub_self]
  cases z with
  | nil => rfl
  | cons c r => exact hz c rfl
def After (z : List UInt8) : Prop := z = [] ∨ ∃ r, z = 32 :: r
theorem after_pd {z : List UInt8} (h : After z) : ∀ c, z.head? = some c → pd c = false := by
  rcases h with rfl | ⟨r, rfl⟩
  · intro c h; simp at h
  · intro c h; simp at h; subst h; decide
theorem after_dg {z : List UInt8} (h : After z) : ∀ c, z.head? = some c → dg c = false := by
  rcases h with rfl | ⟨r, rfl⟩
  · intro c h; simp at h
  · intro c h; simp at h; subst h; decide
theorem num_back {n : Int} (h1 : -1000000000000000 ≤ n) (h2 : n ≤ 1000000000000000) {z : List UInt8} (hz : After z) :
    numE (Lib.itoa n ++ z) = 0 ∧ nE (Lib.itoa n ++ z) = (Lib.itoa n).length ∧ prs ((Lib.itoa n ++ z).take (nE (Lib.itoa n ++ z))) = (n, false) ∧ ∃ c r, Lib.itoa n ++ z = c :: r ∧ letterN c.toNat = false ∧ (dg c = true ∨ c.toNat = 45) := by
  by_cases hn : n < 0
  · have e : Lib.itoa n = 45 :: Lib.decDigits n.natAbs := by unfold Lib.itoa; rw [if_pos hn]
    obtain ⟨d1, c, r, d2, d3⟩ := dec_digs n.natAbs
    have hp := dec_parse (2 ^ 64 - 1) n.natAbs (by omega) (by omega)
    have hne : n.natAbs ≠ 0 := by omega
    generalize hU : n.natAbs = U at *
    rw [e]
    generalize hDD : Lib.decDigits U = D at *
    have hs : sgn (45 :: D ++ z) = 1 := rfl
    have hnd : nd (45 :: D ++ z) = D := by
      unfold nd; rw [hs]
      show (D ++ z).takeWhile dg = D
      exact tw_app d1 (after_dg hz)
    have hnE : nE (45 :: D ++ z) = (45 :: D).length := by unfold nE; rw [hs, hnd]; simp; omega
    have htk : (45 :: D ++ z).take (nE (45 :: D ++ z)) = 45 :: D := by rw [hnE]; exact List.take_left
    have hprs : prs (45 :: D) = (n, false) := by
      unfold prs Lib.parseIntB
      simp only
      rw [if_pos (by decide)]
      unfold Lib.parseUintB
      rw [if_neg (by rw [d2]; simp), hp]
      simp only
      rw [if_neg (fun h => h.1 (by decide)), if_neg (fun h => by have := h.2; omega), if_pos (by decide)]
      simp; omega
    have hbad : numBad (45 :: D ++ z) = false := by
      unfold numBad
      rw [hnd, htk, hnE, part_app (after_pd hz)]
      have hl : D.length = r.length + 1 := by rw [d2]; rfl
      have hD0 : D ≠ [48] := by
        intro h
        rw [h] at hp
        simp only [Lib.parseUintM] at hp
        rw [if_pos (by decide), if_neg (by decide), if_neg (by decide)] at hp
        simp at hp
        exact hne hp.symm
      have hhd : ((45 :: D ++ z).drop (sgn (45 :: D ++ z))).head? = some c := by rw [hs]; show (D ++ z).head? = _; rw [d2]; rfl
      rw [hhd]
      simp only [Bool.or_eq_false_iff, decide_eq_false_iff_not, Bool.and_eq_false_iff]
      refine ⟨⟨⟨by omega, trivial⟩, ?_⟩, ?_⟩
      · by_cases hc : c = 48
        · left; rw [hl, d3 hc]; simp
        · right; simp [hc]
      · intro h; exact hD0 (by injection h)
    refine ⟨?_, hnE, by rw [htk, hprs], 45, D ++ z, rfl, by decide, .inr rfl⟩
    unfold numE
    rw [hbad, htk, hprs]
    simp
    omega
  · have e : Lib.itoa n = Lib.decDigits n.toNat := by unfold Lib.itoa; rw [if_neg hn]
    obtain ⟨d1, c, r, d2, d3⟩ := dec_digs n.toNat
    have hp := dec_parse (2 ^ 64 - 1) n.toNat (by omega) (by omega)
    generalize hU : n.toNat = U at *
    rw [e]
    generalize hDD : Lib.decDigits U = D at *
    have hcd : dg c = true := d1 c (by rw [d2]; simp)
    have hc45 : c ≠ 45 := fun h => by rw [h] at hcd; exact absurd hcd (by decide)
    have hs : sgn (D ++ z) = 0 := by unfold sgn; rw [d2, if_neg]; simp [hc45]
    have hnd : nd (D ++ z) = D := by
      unfold nd; rw [hs]
      exact tw_app d1 (after_dg hz)
    have hnE : nE (D ++ z) = D.length := by unfold nE; rw [hs, hnd]; simp
    have htk : (D ++ z).take (nE (D ++ z)) = D := by rw [hnE]; exact List.take_left
    have hc' : 48 ≤ c.toNat ∧ c.toNat ≤ 57 := of_decide_eq_true hcd
    have hprs : prs D = (n, false) := by
      unfold prs Lib.parseIntB
      rw [d2] at hp ⊢
      simp only
      rw [if_neg (by omega)]
      unfold Lib.parseUintB
      rw [if_neg (by simp), hp]
      simp only
      rw [if_neg (fun h => by have := h.2; omega), if_neg (fun h => by have := h.1; omega), if_neg (by omega)]
      simp; omega
    have hbad : numBad (D ++ z) = false := by
      unfold numBad
      rw [hnd, htk, hnE, part_app (after_pd hz)]
      have hl : D.length = r.length + 1 := by rw [d2]; rfl
      have hhd : ((D ++ z).drop (sgn (D ++ z))).head? = some c := by rw [hs]; show (D ++ z).head? = _; rw [d2]; rfl
      rw [hhd]
      simp only [Bool.or_eq_false_iff, decide_eq_false_iff_not, Bool.and_eq_false_iff]
      refine ⟨⟨⟨by omega, trivial⟩, ?_⟩, ?_⟩
      · by_cases hc : c = 48
        · left; rw [hl, d3 hc]; simp
        · right; simp [hc]
      · intro h; rw [d2] at h; injection h with h; exact hc45 h
    refine ⟨?_, hnE, by rw [htk, hprs], c, r ++ z, by rw [d2]; rfl, ?_, .inl hcd⟩
    · unfold numE
      rw [hbad, htk, hprs]
      simp
      omega
    · unfold letterN; rw [decide_eq_false_iff_not]; omega
theorem upto_app {t z : List UInt8} (ht : ∀ c ∈ t, c ≠ 34) : upto 34 (t ++ 34 :: z) = t := by
  unfold upto
  rw [List.takeWhile_append_of_pos (fun c hc => by simp [ht c hc])]
  simp
theorem lab_no34 {t : List UInt8} (h : labelOK t = true) : ∀ c ∈ t, c ≠ 34 := by
  intro c hc e
  unfold labelOK at h
  simp only [Bool.and_eq_true, List.all_eq_true] at h
  have := h.1.1.2 c hc
  rw [e] at this
  exact absurd this (by decide)
theorem lex_back {k : Int} {t : List UInt8} {n : Int} (hv : valP k t n = true) {z : List UInt8} (hz : After z) : lexT (spl k t n ++ z) = ⟨k, t, n, (spl k t n).length, 0⟩ := by
  unfold valP at hv
  unfold spl
  by_cases k1 : k = 1
  · subst k1
    rw [if_pos rfl] at hv
    rw [if_neg (by decide), if_neg (by decide)]
    simp only [Bool.and_eq_true, decide_eq_true_eq] at hv
    obtain ⟨rfl, -, h40, hL, htw⟩ := hv
    cases t with
    | nil => simp at hL
    | cons c r =>
      simp only [List.head?_cons] at hL
      have hall : ∀ x ∈ c :: r, pd x = true := by
        have := (tw_all pd (c :: r)).1 htw
        rw [List.all_eq_true] at this
        exact this
      have htk : (c :: (r ++ z)).takeWhile pd = c :: r := tw_app (t := c :: r) hall (after_pd hz)
      rw [List.cons_append]
      simp only [lexT]
      rw [if_pos hL, htk, if_neg (by omega)]
  rw [if_neg k1] at hv
  by_cases k2 : k = 2
  · subst k2
    rw [if_pos rfl] at hv ⊢
    simp only [Bool.and_eq_true, decide_eq_true_eq] at hv
    obtain ⟨rfl, h1, h2⟩ := hv
    obtain ⟨b1, b2, b3, c, r, b4, b5, b6⟩ := num_back h1 h2 hz
    have key : lexT (c :: r) = ⟨2, [], if numE (c :: r) = 0 then (prs ((c :: r).take (nE (c :: r)))).1 else 0, if numE (c :: r) = 0 then nE (c :: r) else 0, numE (c :: r)⟩ := by
      simp only [lexT]
      rw [if_neg (by rw [b5]; decide), if_pos b6]
    rw [← b4] at key
    rw [key, b1, if_pos rfl, if_pos rfl, b3, b2]
  rw [if_neg k2] at hv ⊢
  by_cases k3 : k = 3
  · subst k3
    rw [if_pos rfl] at hv ⊢
    simp only [Bool.and_eq_true, decide_eq_true_eq] at hv
    obtain ⟨rfl, hlab⟩ := hv
    have hu : upto 34 (t ++ 34 :: z) = t := upto_app (lab_no34 hlab)
    have e : (34 :: (t ++ [34]) ++ z) = 34 :: (t ++ 34 :: z) := by simp
    rw [e]
    simp only [lexT]
    rw [if_neg (by decide), if_neg (by decide), if_pos (by decide), hu, if_pos (by simp), if_pos hlab]
    simp
  rw [if_neg k3] at hv ⊢
  by_cases k4 : k = 4
  · subst k4
    rw [if_pos rfl] at hv
    simp only [Bool.and_eq_true, decide_eq_true_eq] at hv
    obtain ⟨rfl, h1, hS⟩ := hv
    match t, h1 with
    | [c], _ =>
      simp only [List.head?_cons] at hS
      have hm : c.toNat ∈ [40, 41, 44, 61, 58, 60, 62, 43, 47] := of_decide_eq_true hS
      have key : ∀ m : Nat, m ∈ [40, 41, 44, 61, 58, 60, 62, 43, 47] → letterN m = false ∧ ¬ (48 ≤ m ∧ m ≤ 57) ∧ m ≠ 45 ∧ m ≠ 34 := by decide
      obtain ⟨e1, e2, e3, e4⟩ := key _ hm
      rw [List.cons_append]
      simp only [lexT]
      rw [if_neg (by rw [e1]; decide), if_neg (by unfold dg; simp only [decide_eq_true_eq]; omega), if_neg e4, if_pos hS]
      rfl
  rw [if_neg k4] at hv
  cases hv
end Go.Vm.Ch11
