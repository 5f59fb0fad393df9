/- Chapter 55: what its functions compute. -/
import Derived.Test.YtgmhcmmdfejcmaaDoorC55q
namespace Go.Vm.Ch55
open _root_.Ch55 (T55 c7)
set_option maxRecDepth 10000
set_option maxHeartbeats 16000000
/-- The heads of a chain's beginnings. -/
def hds (P : List (List UInt8)) (i : Nat) : List (List UInt8) := (List.range (i + 1)).map fun n => chn (P.take n)
theorem hds_succ (P : List (List UInt8)) (i : Nat) : hds P (i + 1) = hds P i ++ [chn (P.take (i + 1))] := by
  unfold hds; rw [List.range_succ, List.map_append]; rfl
theorem hds_len (P : List (List UInt8)) (i : Nat) : (hds P i).length = i + 1 := by simp [hds]
theorem hds_get (P : List (List UInt8)) {i j : Nat} (h : j < (hds P i).length) : (hds P i)[j] = chn (P.take j) := by simp [hds]
theorem law7 (P : List (List UInt8)) (nn : Bool) (b : UInt8) (hl : inL P.length) : ∃ m, callL T55 7 [sv nn P, .int .u8 b.toNat] [] = some (.bool true, m) := by
  obtain ⟨m0, hw⟩ := awake
  have h21 := q21 P nn 20 hl []
  refine callL_ex (vf := c7) rfl rfl ?_
  by_cases a3 : smlS P 20 = true
  rotate_left
  · rw [Bool.not_eq_true] at a3
    rw [a3] at h21
    simp [c7, hw, h21]
  rw [a3] at h21
  have hP : P.length ≤ (20 : Int) ∧ sumS P ≤ 5000 := by simpa [smlS] using a3
  have h27e := q27 [] false (by simp) (by simp) []
  have he : sv false ([] : List (List UInt8)) = .vec none false [] := rfl
  rw [he] at h27e
  have hc0 : chn [] = zero16 := rfl
  rw [hc0] at h27e
  simp [c7, hw, h21, h27e]
  refine wp_loop (fun wx s => ∃ i : Nat, wx = P.length - i ∧ i ≤ P.length ∧ s.get 0 = sv nn P ∧ s.get 1 = .int .u8 b.toNat ∧ s.get 5 = .str (frs zero16 (P.take i)) ∧ s.get 6 = .str (chn (P.take i)) ∧ s.get 7 = vv (some 1) true AV.str (hds P i) ∧ s.get 8 = AV.int IntKind.i64 i ∧ ∀ r ∈ P.take i, r.length ≤ 1000) ?_ P.length _ ?_
  rotate_left
  · refine ⟨0, ?_⟩
    simp [frs, hds, hc0]
    rfl
  rintro wx s ⟨i, hn, hi, e0, e1, e5, e6, e7, e8, hbef⟩
  by_cases hlt : i < P.length
  · have w1 : W64 ((i : Int) + 1) ((i + 1 : Nat) : Int) := .mkI rfl (by omega) (by omega)
    have hcl := chn_len (P.take i)
    have hrl : P[i].length ≤ 5000 := by have := sumS_mem (List.getElem_mem hlt); omega
    have h22 := q22 (chn (P.take i)) P[i] (by omega) []
    rw [if_pos hcl] at h22
    by_cases hr : P[i].length ≤ 1000
    rotate_left
    · rw [if_neg hr] at h22
      have hr' : (1000 : Int) < P[i].length := by omega
      simp [e0, e6, e8, hlt, gi_nat hlt, h22, hr']
    rw [if_pos hr] at h22
    have hr' : ¬ (1000 : Int) < P[i].length := by omega
    have hfs : frs zero16 (P.take (i + 1)) = frs zero16 (P.take i) ++ frm (chn (P.take i)) P[i] := by
      rw [List.take_succ_eq_append_getElem hlt, frs_snoc]; rfl
    have hcs := take_chn hlt
    have hl1 := frs_len (P.take i) zero16
    have hl2 := sumS_le (P := P) (i := i)
    have hl3 := frm_len (chn (P.take i)) P[i]
    have hlen : (frs zero16 (P.take i)).length + (frm (chn (P.take i)) P[i]).length ≤ 9223372036854775807 := by
      simp at hl1; omega
    have h27 := q27 (P.take (i + 1)) nn (by simp; omega) (fun r h => by have := sumS_mem (List.mem_of_mem_take h); omega) []
    have hbef' : ∀ r ∈ P.take (i + 1), r.length ≤ 1000 := by
      intro r h
      rw [List.take_succ_eq_append_getElem hlt] at h
      rcases List.mem_append.1 h with h | h
      · exact hbef r h
      · rw [List.mem_singleton.1 h]; exact hr
    have hhl := hds_len P i
    have hhs := hds_succ P i
    have hsl : ((i + 1 : Nat) : Int) ≤ P.length := by omega
    rw [← hcs] at h22
    generalize frm (chn (P.take i)) P[i] = F at *
    generalize hCi : chn (P.take i) = Ci at *
    simp [e0, e5, e6, e7, e8, hlt, gi_nat hlt, h22, hr', h27, w1.eq, hlen, hsl, -Int.natCast_add]
    exact ⟨by rw [hhl]; omega, P.length - (i + 1), by omega, i + 1, rfl, by omega, e1, hfs.symm, rfl, by rw [hhs]; simp [vv], rfl, hbef'⟩
  · have hie : i = P.length := by omega
    subst hie
    rw [List.take_length] at e5 e6 hbef
    have hst := scanA_frs P [b] hbef (by simp)
    have hst0 := scanA_frs P [] hbef (by simp)
    rw [List.append_nil] at hst0
    have hfl := frs_len P zero16
    have hl : (frs zero16 P).length ≤ 100000 := by omega
    have h25 := q25 (frs zero16 P ++ [b]) (by simp; omega)
    have hu := used_of hst
    have hre : recs (scanA (frs zero16 P ++ [b])) = P := by rw [hst, recs_stps]
    have hre0 : recs (scanA (frs zero16 P)) = P := by rw [hst0, recs_stps]
    have hhd := hed_chn (frs zero16 P ++ [b])
    rw [hre] at hhd
    rw [hre, hhd, hu] at h25
    have h29 := q29 _ _ [] _ _ (StrSl.vec (!P.isEmpty) [] P) (StrSl.vec nn [] P) (by omega)
    rw [decide_eq_true rfl] at h29
    have hext : ∀ n, n ≤ P.length → ext (frs zero16 P) (chn (P.take n)) = true := fun n hn =>
      (ext_iff _ _).2 ⟨n, by rw [hre0]; exact hn, by rw [hre0]⟩
    have h30 := fun n => q30 (frs zero16 P) (chn (P.take n)) hl
    have hls : (frs zero16 P).length + 1 ≤ 9223372036854775807 := by omega
    generalize hF : frs zero16 P = F at *
    simp [e0, e1, e5, e6, e8, h25, h29, hls]
    refine wp_loop (fun wx s => ∃ j : Nat, wx = (hds P P.length).length - j ∧ j ≤ (hds P P.length).length ∧ s.get 5 = .str F ∧ s.get 7 = vv (some 1) true AV.str (hds P P.length) ∧ s.get 15 = AV.int IntKind.i64 j) ?_ (hds P P.length).length _ ?_
    rotate_left
    · exact ⟨0, by simp [e5, e7]⟩
    have hhl := hds_len P P.length
    clear e0 e1 e5 e6 e7 e8
    rintro wx s ⟨j, hn, hj, e5, e7, e15⟩
    by_cases hlt : j < (hds P P.length).length
    · have w1 : W64 ((j : Int) + 1) ((j + 1 : Nat) : Int) := .mkI rfl (by omega) (by omega)
      have hg := hds_get P hlt
      have h30j := h30 j s.mem
      rw [hext j (by omega)] at h30j
      rw [← hg] at h30j
      have hlt' : (j : Int) < (hds P P.length).length := by omega
      simp [e5, e7, e15, hlt', gi_nat hlt, h30j, w1.eq, -Int.natCast_add]
      exact ⟨(hds P P.length).length - (j + 1), by omega, j + 1, rfl, by omega, rfl⟩
    · have hlt' : ¬ (j : Int) < (hds P P.length).length := by omega
      simp [e7, e15, hlt']
end Go.Vm.Ch55
