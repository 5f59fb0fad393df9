/- Chapter 55: what its functions compute. -/
import Derived.Test.YtgmhcmmdfejcmaaDoorC55c
namespace Go.Vm.Ch55
open _root_.Ch55 (T55 c27 c28 c46 c47 c25 c26)
set_option maxRecDepth 10000
set_option maxHeartbeats 8000000
abbrev sv (nn : Bool) (L : List (List UInt8)) : AV := vv none nn AV.str L
/-- The head of the chain of records. -/
def chn (L : List (List UInt8)) : List UInt8 := L.foldl nxt zero16
theorem foldl_nxt_len : ∀ (L : List (List UInt8)) (h : List UInt8), h.length = 16 → (L.foldl nxt h).length = 16
  | [], _, e => e
  | r :: L, h, _ => foldl_nxt_len L _ (nxt_len h r)
theorem chn_len (L : List (List UInt8)) : (chn L).length = 16 := foldl_nxt_len L _ (by simp [zero16])
theorem chn_snoc (L : List (List UInt8)) (r : List UInt8) : chn (L ++ [r]) = nxt (chn L) r := by simp [chn]
theorem take_chn {L : List (List UInt8)} {i : Nat} (h : i < L.length) : chn (L.take (i + 1)) = nxt (chn (L.take i)) L[i] := by
  rw [List.take_succ_eq_append_getElem h, chn_snoc]
theorem q27 (L : List (List UInt8)) (nn : Bool) (hl : L.length ≤ 1000000) (hr : ∀ r ∈ L, r.length ≤ 100000) (m : Mem) : callL T55 27 [sv nn L] m = some (.str (chn L), m) := by
  have h45 := q45 []
  apply callL_body (vf := c27) rfl rfl
  simp [c27, h45]
  refine wp_loop (fun w s => ∃ i : Nat, w = L.length - i ∧ i ≤ L.length ∧ s.get 3 = .str (chn (L.take i)) ∧ s.get 7 = sv nn L ∧ s.get 8 = AV.int IntKind.i64 L.length ∧ s.get 9 = AV.int IntKind.i64 i ∧ s.mem = m) ?_ L.length _ ?_
  rotate_left
  · exact ⟨0, by simp [chn]⟩
  rintro w s ⟨i, hn, hi, h3, h7, h8, h9, hm⟩
  have w1 : W64 ((i : Int) + 1) ((i + 1 : Nat) : Int) := .mkI (by omega) (by omega) (by omega)
  by_cases h : i < L.length
  · have hc := chn_len (L.take i)
    have hri := hr _ (List.getElem_mem h)
    have h42 := q42 (chn (L.take i) ++ L[i]) (by simp; omega) []
    have hcc := take_chn h
    simp only [nxt] at hcc
    have gp := gi_nat h
    simp [h3, h7, h8, h9, hm, h, gp, h42, w1.eq, -Int.natCast_add]
    refine ⟨by omega, L.length - (i + 1), by omega, i + 1, rfl, by omega, hcc.symm, rfl⟩
  · have hib : i = L.length := by omega
    subst hib
    rw [List.take_length] at h3
    simp [h3, h7, h8, h9, hm]
theorem q28 (L : List (List UInt8)) (nn : Bool) (hl : L.length ≤ 1000000) (hr : ∀ r ∈ L, r.length ≤ 100000) (m : Mem) : callL T55 28 [sv nn L] m = some (.str (chn L), m) := by
  apply callL_body (vf := c28) rfl rfl
  simp [c28]
  refine wp_loop (fun w s => ∃ i : Nat, w = L.length - i ∧ i ≤ L.length ∧ s.get 0 = sv nn L ∧ s.get 3 = .str (chn (L.take i)) ∧ s.get 4 = AV.int IntKind.i64 i ∧ s.mem = m) ?_ L.length _ ?_
  rotate_left
  · exact ⟨0, by simp [chn, zero16]⟩
  rintro w s ⟨i, hn, hi, h0, h3, h4, hm⟩
  have w1 : W64 ((i : Int) + 1) ((i + 1 : Nat) : Int) := .mkI (by omega) (by omega) (by omega)
  by_cases h : i < L.length
  · have hc := chn_len (L.take i)
    have hri := hr _ (List.getElem_mem h)
    have h24 := q24 (chn (L.take i)) L[i] (by omega) []
    have hcc := take_chn h
    have gp := gi_nat h
    simp [h0, h3, h4, hm, h, gp, h24, w1.eq, -Int.natCast_add]
    exact ⟨L.length - (i + 1), by omega, i + 1, rfl, by omega, hcc.symm, rfl⟩
  · have hib : i = L.length := by omega
    subst hib
    rw [List.take_length] at h3
    simp [h0, h3, h4, hm]
/-! ### scanning -/
def byt (b : List UInt8) (i : Nat) : Nat := (b.getD i 0).toNat
def recN (b : List UInt8) : Nat := byt b 0 * 256 + byt b 1
def badF (b : List UInt8) : Prop := byt b 2 ≠ 255 - byt b 0 ∨ byt b 3 ≠ 255 - byt b 1 ∨ 1000 < recN b ∨ b.length < recN b + 20
instance (b : List UInt8) : Decidable (badF b) := by unfold badF; infer_instance
def recF (b : List UInt8) : List UInt8 := (b.take (4 + recN b)).drop 4
structure Stp where
  r : List UInt8
  u : Nat
  h : List UInt8
/-- The frames at the beginning of bytes. -/
def scanL : Nat → List UInt8 → Nat → List UInt8 → List Stp
  | 0, _, _, _ => []
  | f + 1, b, u, h => if b.length < 20 then [] else if badF b then [] else
    if b.take (frm h (recF b)).length = frm h (recF b) then ⟨recF b, u + (frm h (recF b)).length, nxt h (recF b)⟩ :: scanL f (b.drop (frm h (recF b)).length) (u + (frm h (recF b)).length) (nxt h (recF b)) else []
def scanA (d : List UInt8) : List Stp := scanL d.length d 0 zero16
end Go.Vm.Ch55
