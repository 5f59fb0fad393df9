/- Chapter 11: what its functions compute. -/
import Derived.Test.YtmlfcgmiaapffaaGreatDoorC11e
namespace Go.Vm.Ch11
open _root_.Ch11 (T11 c83)
set_option maxRecDepth 10000
set_option maxHeartbeats 8000000
/-- A token at the beginning of a string: kind, text, number, length, error. -/
structure Lx where
  k : Int
  t : List UInt8
  n : Int
  l : Nat
  e : Int
def lxE (e : Int) : Lx := ⟨0, [], 0, 0, e⟩
def lexT : List UInt8 → Lx
  | [] => lxE 2
  | c :: r =>
    if letterN c.toNat = true then (if 40 < ((c :: r).takeWhile pd).length then lxE 4 else ⟨1, (c :: r).takeWhile pd, 0, ((c :: r).takeWhile pd).length, 0⟩)
    else if dg c = true ∨ c.toNat = 45 then ⟨2, [], if numE (c :: r) = 0 then (prs ((c :: r).take (nE (c :: r)))).1 else 0, if numE (c :: r) = 0 then nE (c :: r) else 0, numE (c :: r)⟩
    else if c.toNat = 34 then (if (upto 34 r).length < r.length then (if labelOK (upto 34 r) = true then ⟨3, upto 34 r, 0, (upto 34 r).length + 2, 0⟩ else lxE 4) else lxE 2)
    else if sgB c = true then ⟨4, [c], 0, 1, 0⟩ else lxE 2
theorem q83 (c : UInt8) (r : List UInt8) (hl : (c :: r).length ≤ 281474976710656) (m : Mem) :
    callL T11 83 [.str (c :: r)] m = some (.tup [.agg [AV.int IntKind.i64 (lexT (c :: r)).k, .str (lexT (c :: r)).t, AV.int IntKind.i64 (lexT (c :: r)).n, AV.int IntKind.i64 0], AV.int IntKind.i64 (lexT (c :: r)).l, AV.int IntKind.i64 (lexT (c :: r)).e], m) := by
  have hc := c.toNat_lt
  have hc2 : (c.toNat : Int) < 256 := by omega
  have ht := tbl_get c.toNat hc
  have k1 := cls_1 c
  have k2 := cls_2 c
  have k4 := cls_4 c
  have hrl : r.length < 281474976710656 := by simp at hl; omega
  have htw := (List.takeWhile_prefix pd (l := c :: r)).length_le
  have h23 := q80 (c :: r) 95 pd (fun c _ => q95' c) (by omega) []
  have h39 := q111 (c :: r) hl []
  have h25 := q82 r 34 (by omega) []
  have hul := upto_le 34 r
  have h15 := q96 (upto 34 r) (by omega) []
  have hle := nE_le (c :: r)
  have htt : (c :: r).take ((c :: r).takeWhile pd).length = (c :: r).takeWhile pd := (List.prefix_iff_eq_take.1 (List.takeWhile_prefix _)).symm
  apply callL_body (vf := c83) rfl rfl
  obtain ⟨X, hX⟩ : ∃ X, lexT (c :: r) = X := ⟨_, rfl⟩
  rw [hX]
  simp only [lexT] at hX
  by_cases hL : letterN c.toNat = true
  · rw [if_pos hL] at hX
    rw [hL] at k1
    have k1' := of_decide_eq_true k1
    generalize (c :: r).takeWhile pd = W at *
    by_cases h40 : 40 < W.length
    · have h40i : (40 : Int) < W.length := by omega
      rw [if_pos h40] at hX
      subst hX
      simp [c83, q94, hc2, ht, k1', h23, h40i, lxE]
    · have h40i : ¬ (40 : Int) < W.length := by omega
      rw [if_neg h40] at hX
      subst hX
      simp [c83, q94, hc2, ht, k1', h23, h40i, htt]
      simp at htw; omega
  rw [if_neg hL] at hX
  have hL' : letterN c.toNat = false := by simpa using hL
  rw [hL'] at k1
  have k1' := of_decide_eq_false k1
  by_cases hN : dg c = true ∨ c.toNat = 45
  · rw [if_pos hN] at hX
    subst hX
    have e1 : ((if numE (c :: r) = 0 then nE (c :: r) else 0 : Nat) : Int) = if numE (c :: r) = 0 then (nE (c :: r) : Int) else 0 := by split <;> rfl
    simp only [e1]
    generalize (if numE (c :: r) = 0 then (nE (c :: r) : Int) else 0) = A at *
    generalize (if numE (c :: r) = 0 then (prs ((c :: r).take (nE (c :: r)))).1 else 0) = B at *
    generalize numE (c :: r) = E at *
    cases hd : dg c with
    | true =>
      rw [hd] at k2
      have k2' := of_decide_eq_true k2
      simp [c83, q94, hc2, ht, k2', h39]
    | false =>
      rw [hd] at k2
      have k2' := of_decide_eq_false k2
      have h45 : (c.toNat : Int) = 45 := by rcases hN with h | h; · rw [hd] at h; cases h
                                            · omega
      have ht45 : tbl[45]? = some (.int .u8 0) := tbl_get 45 (by decide)
      simp [c83, q94, ht45, h45, h39]
  rw [if_neg hN] at hX
  have hd : dg c = false := by
    cases hd : dg c with
    | true => exact absurd (.inl hd) hN
    | false => rfl
  rw [hd] at k2
  have k2' := of_decide_eq_false k2
  have h45 : ¬ (c.toNat : Int) = 45 := fun h => hN (.inr (by omega))
  by_cases hQ : c.toNat = 34
  · rw [if_pos hQ] at hX
    have hQi : (c.toNat : Int) = 34 := by omega
    have ht34 : tbl[34]? = some (.int .u8 0) := tbl_get 34 (by decide)
    have w1 : W64 (((upto 34 r).length : Int) + 2) ((((upto 34 r).length + 2 : Nat)) : Int) := .mkI (by omega) (by omega) (by omega)
    generalize upto 34 r = U at *
    by_cases hf : U.length < r.length
    · rw [if_pos hf] at hX
      rw [decide_eq_true hf] at h25
      cases hlab : labelOK U with
      | true =>
        rw [if_pos hlab] at hX
        rw [hlab] at h15
        subst hX
        simp [c83, q94, ht34, hQi, h25, h15, w1.eq, -Int.natCast_add]
        omega
      | false =>
        rw [if_neg (by rw [hlab]; decide)] at hX
        rw [hlab] at h15
        subst hX
        simp [c83, q94, ht34, hQi, h25, h15, lxE]
        omega
    · rw [if_neg hf] at hX
      rw [decide_eq_false hf] at h25
      subst hX
      simp [c83, q94, ht34, hQi, h25, lxE]
      omega
  rw [if_neg hQ] at hX
  have hQi : ¬ (c.toNat : Int) = 34 := by omega
  cases hS : sgB c with
  | true =>
    rw [if_pos hS] at hX
    rw [hS] at k4
    have k4' := of_decide_eq_true k4
    subst hX
    simp [c83, q94, hc2, ht, h45, hQi, k4']
    omega
  | false =>
    rw [if_neg (by rw [hS]; decide)] at hX
    rw [hS] at k4
    have k4' := of_decide_eq_false k4
    subst hX
    simp [c83, q94, hc2, ht, k1', k2', h45, hQi, k4', lxE]
end Go.Vm.Ch11
