/- Chapter 11: what its functions compute. -/
import Derived.Test.YtmlfcgmiaapffaaGreatDoorC11d
import Derived.Test.YtmlfcgmiaapffaaGreatDoorVJ
import Derived.Test.YtmlfcgmiaapffaaGreatDoorVI
namespace Go.Vm.Ch11
open _root_.Ch11 (T11 c82 c83 c110 c111 c127 c128 c129 c145 c149 c152 c94)
set_option maxRecDepth 10000
set_option maxHeartbeats 8000000
/-! ### the program's token -/
theorem q68 (n : Int) (h1 : -9223372036854775808 ≤ n) (h2 : n ≤ 9223372036854775807) (m : Mem) : callL T11 68 [AV.int IntKind.i64 n, AV.int IntKind.i64 10] m = some (.str (Lib.itoa n), m) :=
  callL_native (k := 1) (outs := [.str (Lib.itoa n)]) m rfl rfl (by
    show (if (10 : Int) = 10 ∧ -9223372036854775808 ≤ n ∧ n ≤ 9223372036854775807 then some [AV.str (Lib.itoa n)] else none) = _
    rw [if_pos ⟨rfl, h1, h2⟩]) fun _ => rfl
/-- What ParseInt says: the number, and whether there is an error. -/
def prs (s : List UInt8) : Int × Bool := match Lib.parseIntB 64 s with
  | .ok v => (v, false)
  | .syntax => (0, true)
  | .range => (Lib.intSat 64 s, true)
theorem q102 (s : List UInt8) (hl : s.length ≤ 281474976710656) (m : Mem) : callL T11 102 [.str s, AV.int IntKind.i64 10, AV.int IntKind.i64 64] m = some (.tup [AV.int IntKind.i64 (prs s).1, if (prs s).2 then .iface 174 .undef else .nilIface], m) := by
  have hn : natV 1174 [.str s, AV.int IntKind.i64 10, AV.int IntKind.i64 64] = some [AV.int IntKind.i64 (prs s).1, if (prs s).2 then .iface 174 .undef else .nilIface] := by
    show (if 1000 ≤ 1174 ∧ (10 : Int) = 10 ∧ (64 : Int) = 64 ∧ s.length ≤ 281474976710656 then (match Lib.parseIntB 64 s with
      | .ok v => some [AV.int IntKind.i64 v, .nilIface]
      | .syntax => some [AV.int IntKind.i64 0, .iface (1174 - 1000) .undef]
      | .range => some [AV.int IntKind.i64 (Lib.intSat 64 s), .iface (1174 - 1000) .undef]) else none) = _
    rw [if_pos ⟨by decide, rfl, rfl, hl⟩]
    unfold prs
    cases Lib.parseIntB 64 s <;> rfl
  refine callL_native (k := 1174) (n := 3) (rs := [.tmp 0, .tmp 1]) m rfl rfl hn fun _ => ?_
  cases (prs s).2 <;> rfl
/-- Up to the first c. -/
def upto (c : UInt8) (s : List UInt8) : List UInt8 := s.takeWhile (fun b => !(b == c))
theorem upto_le (c : UInt8) (s : List UInt8) : (upto c s).length ≤ s.length := (List.takeWhile_prefix _).length_le
theorem upto_take (c : UInt8) (s : List UInt8) : s.take (upto c s).length = upto c s := (List.prefix_iff_eq_take.1 (List.takeWhile_prefix _)).symm
theorem find_upto (c : UInt8) : ∀ s : List UInt8, s.findIdx? (fun b => b == c) = if (upto c s).length < s.length then some (upto c s).length else none
  | [] => rfl
  | b :: r => by
    have ih := find_upto c r
    have := upto_le c r
    unfold upto at *
    by_cases h : b == c
    · simp [List.findIdx?_cons, h]
    · simp only [Bool.not_eq_true] at h
      simp only [List.findIdx?_cons, h, Bool.false_eq_true, if_false, List.takeWhile_cons, Bool.not_false, if_true, List.length_cons, ih]
      by_cases h2 : (r.takeWhile fun b => !(b == c)).length < r.length
      · rw [if_pos h2, if_pos (by omega)]; rfl
      · rw [if_neg h2, if_neg (by omega)]; rfl
def idxI (c : UInt8) (s : List UInt8) : Int := if (upto c s).length < s.length then ((upto c s).length : Int) else -1
theorem q145 (s : List UInt8) (c : UInt8) (m : Mem) : callL T11 145 [.str s, .int .u8 c.toNat] m = some (AV.int IntKind.i64 (idxI c s), m) := by
  apply callL_body (vf := c145) rfl rfl
  have e : ((c.toNat : Nat) : Int).toNat.toUInt8 = c := by simp
  have hf : (match s.findIdx? (fun b => b == c) with | some i => (i : Int) | none => -1) = idxI c s := by
    rw [find_upto]; unfold idxI
    split <;> rename_i h <;> split at h <;> simp_all
  simp [c145]
  exact hf
theorem q127 (s : List UInt8) (c : UInt8) (m : Mem) : callL T11 127 [.str s, .str [c]] m = some (AV.int IntKind.i64 (idxI c s), m) := by
  apply callL_body (vf := c127) rfl rfl
  have h := q145 s c []
  simp [c127, h]
  rintro rfl
  simp [idxI, upto]
theorem q110 (s : List UInt8) (c : UInt8) (hl : s.length < 9223372036854775807) (m : Mem) : callL T11 110 [.str s, .str [c]] m = some (.tup [.str (upto c s), .str (s.drop ((upto c s).length + 1)), .bool (decide ((upto c s).length < s.length))], m) := by
  apply callL_body (vf := c110) rfl rfl
  have h := q127 s c []
  have hle := upto_le c s
  have ht := upto_take c s
  unfold idxI at h
  by_cases h1 : (upto c s).length < s.length
  · rw [if_pos h1] at h
    have w1 : W64 (((upto c s).length : Int) + 1) ((((upto c s).length + 1 : Nat)) : Int) := .mkI (by omega) (by omega) (by omega)
    simp [c110, h, w1.eq, ht, h1, -Int.natCast_add]
    omega
  · rw [if_neg h1] at h
    have hd : s.drop ((upto c s).length + 1) = [] := List.drop_eq_nil_of_le (by omega)
    have hs : upto c s = s := by rw [← ht, List.take_of_length_le (by omega)]
    simp [c110, h, hs]
theorem q82 (s : List UInt8) (c : UInt8) (hl : s.length < 9223372036854775807) (m : Mem) : callL T11 82 [.str s, .str [c]] m = some (.tup [.str (upto c s), .str (s.drop ((upto c s).length + 1)), .bool (decide ((upto c s).length < s.length))], m) := by
  apply callL_body (vf := c82) rfl rfl
  have h := q110 s c hl []
  simp [c82, h]
def sgn (s : List UInt8) : Nat := if s.head? = some 45 then 1 else 0
theorem q128 (s : List UInt8) (hl : s.length < 9223372036854775807) (m : Mem) : callL T11 128 [.str s, .str [45]] m = some (.str (s.drop (sgn s)), m) := by
  have h79 : callL T11 152 [.str s, .str [45]] [] = some (.bool (decide (s.head? = some 45)), []) := by
    apply callL_body (vf := c152) rfl rfl
    cases s with
    | nil => simp [c152]
    | cons b r =>
      simp [c152]
      exact ⟨fun h => ⟨h, by rw [Bool.eq_iff_iff]; simp⟩, fun h => by omega⟩
  have h63 : callL T11 149 [.str s, .str [45]] [] = some (.str (s.drop (sgn s)), []) := by
    apply callL_body (vf := c149) rfl rfl
    unfold sgn
    by_cases h : s.head? = some 45
    · have hl1 : 1 ≤ s.length := by cases s with
        | nil => simp at h
        | cons => simp
      simp [c149, h79, h]
      omega
    · simp [c149, h79, h]
  apply callL_body (vf := c128) rfl rfl
  simp [c128, h63]
/-! ### classes -/
def dg (c : UInt8) : Bool := decide (48 ≤ c.toNat ∧ c.toNat ≤ 57)
def pd (c : UInt8) : Bool := partN c.toNat
def sgB (c : UInt8) : Bool := decide (c.toNat ∈ [40, 41, 44, 61, 58, 60, 62, 43, 47])
theorem cls_pd (c : UInt8) : decide (cls c.toNat = 1 ∨ cls c.toNat = 2 ∨ cls c.toNat = 3) = pd c := by
  have key : ∀ n : Fin 256, decide (cls n.val = 1 ∨ cls n.val = 2 ∨ cls n.val = 3) = partN n.val := by decide +kernel
  exact key ⟨c.toNat, c.toNat_lt⟩
theorem cls_1 (c : UInt8) : decide (cls c.toNat = 1) = letterN c.toNat := by
  have key : ∀ n : Fin 256, decide (cls n.val = 1) = letterN n.val := by decide +kernel
  exact key ⟨c.toNat, c.toNat_lt⟩
theorem cls_2 (c : UInt8) : decide (cls c.toNat = 2) = dg c := by
  have key : ∀ n : Fin 256, decide (cls n.val = 2) = decide (48 ≤ n.val ∧ n.val ≤ 57) := by decide +kernel
  exact key ⟨c.toNat, c.toNat_lt⟩
theorem cls_4 (c : UInt8) : decide (cls c.toNat = 4) = sgB c := by
  have key : ∀ n : Fin 256, decide (cls n.val = 4) = decide (n.val ∈ [40, 41, 44, 61, 58, 60, 62, 43, 47]) := by decide +kernel
  exact key ⟨c.toNat, c.toNat_lt⟩
theorem q95' (c : UInt8) : callL T11 95 [.int .u8 c.toNat] [] = some (.bool (pd c), []) := by rw [← cls_pd]; exact q95 _ c.toNat_lt
theorem q129 (c : UInt8) : callL T11 129 [.int .u8 c.toNat] [] = some (.bool (dg c), []) := by
  have hc := c.toNat_lt
  apply callL_body (vf := c129) rfl rfl
  have hc2 : (c.toNat : Int) < 256 := by omega
  simp [c129, q94, hc2, tbl_get c.toNat hc, ← cls_2]
  rw [Bool.eq_iff_iff]; simp
/-! ### numbers -/
def nd (s : List UInt8) : List UInt8 := (s.drop (sgn s)).takeWhile dg
def nE (s : List UInt8) : Nat := sgn s + (nd s).length
def partAt (s : List UInt8) (i : Nat) : Bool := match s[i]? with | some b => pd b | none => false
def numBad (s : List UInt8) : Bool := decide ((nd s).length = 0) || partAt s (nE s) || (decide (1 < (nd s).length) && decide ((s.drop (sgn s)).head? = some 48)) || decide (s.take (nE s) = [45, 48])
def numE (s : List UInt8) : Int := if numBad s then 2 else if (prs (s.take (nE s))).2 = true ∨ 1000000000000000 < (prs (s.take (nE s))).1 ∨ (prs (s.take (nE s))).1 < -1000000000000000 then 6 else 0
theorem sgn_le (s : List UInt8) : sgn s ≤ s.length := by
  unfold sgn
  cases s with
  | nil => simp
  | cons => simp; split <;> omega
theorem nE_le (s : List UInt8) : nE s ≤ s.length := by
  have h1 := sgn_le s
  have h2 : (nd s).length ≤ (s.drop (sgn s)).length := (List.takeWhile_prefix _).length_le
  simp at h2
  unfold nE; omega
theorem u8_48 (c : UInt8) : (c = 48) ↔ ((c.toNat : Int) = 48) := by
  constructor
  · rintro rfl; rfl
  · intro h
    have : c.toNat = (48 : UInt8).toNat := by show c.toNat = 48; omega
    exact UInt8.toNat_inj.1 this
theorem q111 (s : List UInt8) (hl : s.length ≤ 281474976710656) (m : Mem) :
    callL T11 111 [.str s] m = some (.tup [AV.int IntKind.i64 (if numE s = 0 then (nE s : Int) else 0), AV.int IntKind.i64 (if numE s = 0 then (prs (s.take (nE s))).1 else 0), AV.int IntKind.i64 (numE s)], m) := by
  have h48 := q128 s (by omega) []
  have h23 := q80 (s.drop (sgn s)) 129 dg (fun c _ => q129 c) (by have := sgn_le s; simp; omega) []
  have h42 := q102 (s.take (nE s)) (by simp; omega) []
  have hle := nE_le s
  have hsl := sgn_le s
  have hnd : ((s.drop (sgn s)).takeWhile dg).length = (nd s).length := rfl
  rw [hnd] at h23
  have hnE : nE s = sgn s + (nd s).length := rfl
  have w1 : W64 ((s.length : Int) - ((s.drop (sgn s)).length : Int)) (sgn s : Int) := .mkI (by simp; omega) (by omega) (by omega)
  have w2 : W64 ((sgn s : Int) + ((nd s).length : Int)) (nE s : Int) := .mkI (by omega) (by omega) (by omega)
  apply callL_body (vf := c111) rfl rfl
  have hns : (sgn s : Int) ≤ s.length := by omega
  have hd0 : ∀ (h : (nd s).length ≠ 0), ∃ x, (s.drop (sgn s))[0]? = some x := fun h => by
    cases hx : s.drop (sgn s) with
    | nil => exact absurd (by unfold nd; rw [hx]; rfl) h
    | cons x r => exact ⟨x, rfl⟩
  have hbad : ∀ b, numBad s = b → numE s = if b then 2 else if (prs (s.take (nE s))).2 = true ∨ 1000000000000000 < (prs (s.take (nE s))).1 ∨ (prs (s.take (nE s))).1 < -1000000000000000 then 6 else 0 := fun b e => by unfold numE; rw [e]
  have htk : (s.take (nE s)).length = nE s := by simp; omega
  generalize prs (s.take (nE s)) = pr at *
  obtain ⟨v, er⟩ := pr
  by_cases hA : (nd s).length = 0
  · have hb : numBad s = true := by unfold numBad; simp [hA]
    have he := hbad _ hb
    simp only [if_true] at he
    simp [c111, h48, h23, hA, he]
  obtain ⟨x, hx⟩ := hd0 hA
  have hxl : 0 < (s.drop (sgn s)).length := by
    rcases hq : s.drop (sgn s) with _ | ⟨y, r⟩
    · rw [hq] at hx; simp at hx
    · simp
  have hx' : (s.drop (sgn s))[0] = x := by have := List.getElem?_eq_getElem hxl; rw [hx] at this; exact (Option.some.inj this).symm
  have hhead : (s.drop (sgn s)).head? = some x := by rw [List.head?_eq_getElem?]; exact hx
  generalize hD0 : s.drop (sgn s) = D at *
  have hAi : ¬ ((nd s).length : Int) = 0 := by omega
  have badsimp : ∀ e : Int, numE s = e → e = 2 → numE s = 2 := fun e h1 h2 => by rw [h1, h2]
  by_cases hlt : nE s < s.length
  · have h30 := q95' s[nE s]
    have hpa : partAt s (nE s) = pd s[nE s] := by unfold partAt; rw [List.getElem?_eq_getElem hlt]
    cases hp : pd s[nE s] with
    | true =>
      have hb : numBad s = true := by unfold numBad; simp [hpa, hp]
      have he := hbad _ hb
      simp only [if_true] at he
      rw [hp] at h30
      simp [c111, h48, h23, w1.eq, w2.eq, hA, hle, hlt, h30, he]
    | false =>
      rw [hp] at h30
      by_cases hC : 1 < (nd s).length
      · have hCi : (1 : Int) < (nd s).length := by omega
        by_cases hz : (x.toNat : Int) = 48
        · have hb : numBad s = true := by unfold numBad; rw [hD0, hhead]; simp [hC, (u8_48 x).2 hz]
          have he := hbad _ hb
          simp only [if_true] at he
          simp [c111, h48, h23, w1.eq, w2.eq, hA, hle, hlt, h30, hCi, hx', hxl, hz, he]
        by_cases hD : s.take (nE s) = [45, 48]
        · have hb : numBad s = true := by unfold numBad; simp [hD]
          have he := hbad _ hb
          simp only [if_true] at he
          simp [c111, h48, h23, w1.eq, w2.eq, hA, hle, hlt, h30, hCi, hx', hxl, hz, hD, he]
        have hx48 : ¬ x = 48 := fun h => hz ((u8_48 x).1 h)
        have hb : numBad s = false := by unfold numBad; rw [hD0, hhead]; simp [hA, hD, hpa, hp, hx48]
        have he := hbad _ hb
        simp only [Bool.false_eq_true, if_false] at he
        cases er with
        | true =>
          simp only [true_or, if_true] at he
          simp [c111, h48, h23, w1.eq, w2.eq, hA, hle, hlt, h30, hCi, hx', hxl, hz, hD, he, h42]
        | false =>
          by_cases g1 : 1000000000000000 < v
          · simp only [g1, true_or, or_true, if_true] at he
            simp [c111, h48, h23, w1.eq, w2.eq, hA, hle, hlt, h30, hCi, hx', hxl, hz, hD, he, h42, g1]
          by_cases g2 : v < -1000000000000000
          · simp only [g2, or_true, if_true] at he
            simp [c111, h48, h23, w1.eq, w2.eq, hA, hle, hlt, h30, hCi, hx', hxl, hz, hD, he, h42, g1, g2]
          simp only [g1, g2, Bool.false_eq_true, or_self, if_false] at he
          simp [c111, h48, h23, w1.eq, w2.eq, hA, hle, hlt, h30, hCi, hx', hxl, hz, hD, he, h42, g1, g2]
      have hCi : ¬ (1 : Int) < (nd s).length := by omega
      by_cases hD : s.take (nE s) = [45, 48]
      · have hb : numBad s = true := by unfold numBad; simp [hD]
        have he := hbad _ hb
        simp only [if_true] at he
        simp [c111, h48, h23, w1.eq, w2.eq, hA, hle, hlt, h30, hCi, hD, he]
      have hb : numBad s = false := by unfold numBad; rw [hD0, hhead]; simp [hA, hD, hpa, hp, hC]
      have he := hbad _ hb
      simp only [Bool.false_eq_true, if_false] at he
      cases er with
      | true =>
        simp only [true_or, if_true] at he
        simp [c111, h48, h23, w1.eq, w2.eq, hA, hle, hlt, h30, hCi, hD, he, h42]
      | false =>
        by_cases g1 : 1000000000000000 < v
        · simp only [g1, true_or, or_true, if_true] at he
          simp [c111, h48, h23, w1.eq, w2.eq, hA, hle, hlt, h30, hCi, hD, he, h42, g1]
        by_cases g2 : v < -1000000000000000
        · simp only [g2, or_true, if_true] at he
          simp [c111, h48, h23, w1.eq, w2.eq, hA, hle, hlt, h30, hCi, hD, he, h42, g1, g2]
        simp only [g1, g2, Bool.false_eq_true, or_self, if_false] at he
        simp [c111, h48, h23, w1.eq, w2.eq, hA, hle, hlt, h30, hCi, hD, he, h42, g1, g2]
  · have hpa : partAt s (nE s) = false := by unfold partAt; rw [List.getElem?_eq_none (by omega)]
    have hlti : ¬ (nE s : Int) < s.length := by omega
    by_cases hC : 1 < (nd s).length
    · have hCi : (1 : Int) < (nd s).length := by omega
      by_cases hz : (x.toNat : Int) = 48
      · have hb : numBad s = true := by unfold numBad; rw [hD0, hhead]; simp [hC, (u8_48 x).2 hz]
        have he := hbad _ hb
        simp only [if_true] at he
        simp [c111, h48, h23, w1.eq, w2.eq, hA, hle, hlti, hCi, hx', hxl, hz, he]
      by_cases hD : s.take (nE s) = [45, 48]
      · have hb : numBad s = true := by unfold numBad; simp [hD]
        have he := hbad _ hb
        simp only [if_true] at he
        simp [c111, h48, h23, w1.eq, w2.eq, hA, hle, hlti, hCi, hx', hxl, hz, hD, he]
      have hx48 : ¬ x = 48 := fun h => hz ((u8_48 x).1 h)
      have hb : numBad s = false := by unfold numBad; rw [hD0, hhead]; simp [hA, hD, hpa, hx48]
      have he := hbad _ hb
      simp only [Bool.false_eq_true, if_false] at he
      cases er with
      | true =>
        simp only [true_or, if_true] at he
        simp [c111, h48, h23, w1.eq, w2.eq, hA, hle, hlti, hCi, hx', hxl, hz, hD, he, h42]
      | false =>
        by_cases g1 : 1000000000000000 < v
        · simp only [g1, true_or, or_true, if_true] at he
          simp [c111, h48, h23, w1.eq, w2.eq, hA, hle, hlti, hCi, hx', hxl, hz, hD, he, h42, g1]
        by_cases g2 : v < -1000000000000000
        · simp only [g2, or_true, if_true] at he
          simp [c111, h48, h23, w1.eq, w2.eq, hA, hle, hlti, hCi, hx', hxl, hz, hD, he, h42, g1, g2]
        simp only [g1, g2, Bool.false_eq_true, or_self, if_false] at he
        simp [c111, h48, h23, w1.eq, w2.eq, hA, hle, hlti, hCi, hx', hxl, hz, hD, he, h42, g1, g2]
    have hCi : ¬ (1 : Int) < (nd s).length := by omega
    by_cases hD : s.take (nE s) = [45, 48]
    · have hb : numBad s = true := by unfold numBad; simp [hD]
      have he := hbad _ hb
      simp only [if_true] at he
      simp [c111, h48, h23, w1.eq, w2.eq, hA, hle, hlti, hCi, hD, he]
    have hb : numBad s = false := by unfold numBad; rw [hD0, hhead]; simp [hA, hD, hpa, hC]
    have he := hbad _ hb
    simp only [Bool.false_eq_true, if_false] at he
    cases er with
    | true =>
      simp only [true_or, if_true] at he
      simp [c111, h48, h23, w1.eq, w2.eq, hA, hle, hlti, hCi, hD, he, h42]
    | false =>
      by_cases g1 : 1000000000000000 < v
      · simp only [g1, true_or, or_true, if_true] at he
        simp [c111, h48, h23, w1.eq, w2.eq, hA, hle, hlti, hCi, hD, he, h42, g1]
      by_cases g2 : v < -1000000000000000
      · simp only [g2, or_true, if_true] at he
        simp [c111, h48, h23, w1.eq, w2.eq, hA, hle, hlti, hCi, hD, he, h42, g1, g2]
      simp only [g1, g2, Bool.false_eq_true, or_self, if_false] at he
      simp [c111, h48, h23, w1.eq, w2.eq, hA, hle, hlti, hCi, hD, he, h42, g1, g2]
end Go.Vm.Ch11
