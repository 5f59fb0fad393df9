/- Chapter 55: what its functions compute. -/
import Derived.Test.YtgmhcmmdfejcmaaDoorC55h
namespace Go.Vm.Ch55
open _root_.Ch55 (T55 c10 c11 c15 c17 c19)
set_option maxRecDepth 10000
set_option maxHeartbeats 8000000
/-! ### the reference's file -/
abbrev rfo (B : List UInt8) (d : Nat) : Option LObj := some (LObj.cells false [.str B, AV.int IntKind.i64 d])
theorem q15 (m : Mem) (k : Nat) (B : List UInt8) (d : Nat) (h : m[k]? = some (rfo B d)) : callL T55 15 [.ptr (.mem k) 0] m = some (.tup [], m.set k (rfo B B.length)) := by
  apply callL_body (vf := c15) rfl rfl
  simp [c15, h, objCells]
theorem q19 (m : Mem) (k : Nat) (B : List UInt8) (d : Nat) (h : m[k]? = some (rfo B d)) (z : Int) :
    callL T55 19 [.ptr (.mem k) 0, AV.int IntKind.i64 z] m = some (if 0 ≤ z ∧ z ≤ B.length then (.bool true, m.set k (rfo (B.take z.toNat) (min d z.toNat))) else (.bool false, m)) := by
  have hks := setk (lt_of_get h)
  by_cases h1 : z < 0
  · rw [if_neg (by omega)]
    apply callL_body (vf := c19) rfl rfl
    simp [c19, h1]
  · by_cases h2 : (B.length : Int) < z
    · rw [if_neg (by omega)]
      apply callL_body (vf := c19) rfl rfl
      simp [c19, h1, h2, h, objCells]
    · rw [if_pos (by omega)]
      obtain ⟨n, rfl⟩ := Int.eq_ofNat_of_zero_le (show 0 ≤ z by omega)
      have hn : n ≤ B.length := by omega
      have : (if n < d then (n : Int) else d) = ((min d n : Nat) : Int) := by split <;> omega
      apply callL_body (vf := c19) rfl rfl
      simp [c19, h1, h2, h, hks, hn, objCells, this]
theorem drop_take_crs {B : List UInt8} {d l : Nat} : B.take d ++ (B.drop d).take l = B.take (d + l) := by
  rw [List.take_add]
theorem q17 (m : Mem) (k : Nat) (B : List UInt8) (d : Nat) (h : m[k]? = some (rfo B d)) (hd : d ≤ B.length) (hB : B.length ≤ 1000000) (kept at' : Int) (hat : -9223372036854775808 ≤ at' ∧ at' ≤ 9223372036854775807) (flip : UInt8) :
    callL T55 17 [.ptr (.mem k) 0, AV.int IntKind.i64 kept, AV.int IntKind.i64 at', .int .u8 flip.toNat] m = some (.tup [], m.set k (rfo (crs B d kept at' flip) (crs B d kept at' flip).length)) := by
  have hks := setk (lt_of_get h)
  have hll := lft_le B.length d kept
  have hcl := crs_len B d hd kept at' flip
  obtain ⟨l, hl⟩ : ∃ l, l = lft B.length d kept := ⟨_, rfl⟩
  have hmm : (if (0 : Int) < (if kept < ((B.length - d : Nat) : Int) then kept else ((B.length - d : Nat) : Int)) then (if kept < ((B.length - d : Nat) : Int) then kept else ((B.length - d : Nat) : Int)) else 0) = (l : Int) := by
    rw [hl]; unfold lft
    split <;> split at * <;> omega
  rw [← hl] at hll hcl
  have h15 := q15 (m.set k (rfo (crs B d kept at' flip) d)) k (crs B d kept at' flip) d (hks _)
  rw [List.set_set] at h15
  have hTl : (B.drop d).length = B.length - d := by simp
  have hdB : (d : Int) ≤ B.length := by omega
  have hlT : (l : Int) ≤ ((B.length - d : Nat) : Int) := by omega
  have hst : strMO 0 l (some (byc (B.drop d))) = some (.str ((B.drop d).take l)) := by
    have e : byc (B.drop d) = byc ((B.drop d).take l) ++ byc ((B.drop d).drop l) := by rw [← byc_append, List.take_append_drop]
    have := strMO_byc (b := (B.drop d).take l) (r := byc ((B.drop d).drop l))
    rw [← e] at this
    have hl2 : ((B.drop d).take l).length = l := by simp; omega
    rw [hl2] at this; exact this
  by_cases ha : 0 ≤ at' ∧ at' < l
  · obtain ⟨a, rfl⟩ := Int.eq_ofNat_of_zero_le ha.1
    have hal : a < l := by omega
    have h1 : (a : Int) < l := ha.2
    have hTa : a < (B.drop d).length := by omega
    have hg : (byc (B.drop d))[a]? = some (.int .u8 (B.drop d)[a].toNat) := byc_get hTa
    have hx := xorb_eq (B.drop d)[a] flip
    have hset : (byc (B.drop d)).set a (.int .u8 (ixor .u8 (B.drop d)[a].toNat flip.toNat)) = byc ((B.drop d).set a (xorb (B.drop d)[a] flip)) := by rw [hx]; simp [byc]
    have hcr : crs B d kept a flip = B.take d ++ ((B.drop d).set a (xorb (B.drop d)[a] flip)).take l := by
      have hgd : B.getD (d + a) 0 = (B.drop d)[a] := by simp [List.getD, show d + a < B.length by omega]
      unfold crs; rw [← hl, if_pos ha]
      rw [show (a : Int).toNat = a from rfl, hgd, ← drop_take_crs, List.take_set, List.set_append_right _ _ (by simp; omega)]
      congr 2; simp; omega
    have hst2 : strMO 0 l (some (byc ((B.drop d).set a (xorb (B.drop d)[a] flip)))) = some (.str (((B.drop d).set a (xorb (B.drop d)[a] flip)).take l)) := by
      have e : byc ((B.drop d).set a (xorb (B.drop d)[a] flip)) = byc (((B.drop d).set a (xorb (B.drop d)[a] flip)).take l) ++ byc (((B.drop d).set a (xorb (B.drop d)[a] flip)).drop l) := by rw [← byc_append, List.take_append_drop]
      have := strMO_byc (b := ((B.drop d).set a (xorb (B.drop d)[a] flip)).take l) (r := byc (((B.drop d).set a (xorb (B.drop d)[a] flip)).drop l))
      rw [← e] at this
      have hl2 : (((B.drop d).set a (xorb (B.drop d)[a] flip)).take l).length = l := by simp; omega
      rw [hl2] at this; exact this
    rw [hcr] at h15 hcl ⊢
    have hlen : (B.take d).length + (((B.drop d).set a (xorb (B.drop d)[a] flip)).take l).length ≤ 9223372036854775807 := by simp; omega
    generalize (B.drop d)[a] = x at *
    apply callL_body (vf := c17) rfl rfl
    simp [c17, h, objCells, hdB, hTl, hmm, hlT, h1, hg, hset, hst2, hlen, h15, -List.length_append, -List.length_take]
    omega
  · have hcr : crs B d kept at' flip = B.take d ++ (B.drop d).take l := by
      rw [drop_take_crs]; unfold crs; rw [← hl, if_neg ha]
    rw [hcr] at h15 hcl ⊢
    apply callL_body (vf := c17) rfl rfl
    have hlen : (B.take d).length + ((B.drop d).take l).length ≤ 9223372036854775807 := by simp; omega
    by_cases h0 : 0 ≤ at'
    · have h1 : ¬ at' < l := fun e => ha ⟨h0, e⟩
      simp [c17, h, objCells, hdB, hTl, hmm, hlT, h0, h1, hst, hlen, h15, -List.length_append, -List.length_take]
    · simp [c17, h, objCells, hdB, hTl, hmm, hlT, h0, hst, hlen, h15, -List.length_append, -List.length_take]
end Go.Vm.Ch55
