/- Chapter 55: what its functions compute. -/
import Derived.Test.YtgmhcmmdfejcmaaDoorC55p
namespace Go.Vm.Ch55
open _root_.Ch55 (T55 c8)
set_option maxRecDepth 10000
set_option maxHeartbeats 16000000
theorem ext_head (d : List UInt8) : ext d (hed d) = true :=
  (ext_iff d _).2 ⟨(recs (scanA d)).length, Nat.le_refl _, by rw [List.take_length, hed_chn]⟩
theorem law8 (d : List UInt8) (hld : inL d.length) : ∃ m, callL T55 8 [.str d] [] = some (.bool true, m) := by
  obtain ⟨m0, hw⟩ := awake
  unfold inL at hld
  refine callL_ex (vf := c8) rfl rfl ?_
  by_cases a1 : (3000 : Int) < d.length
  · simp [c8, hw, a1]
  obtain ⟨k1, k2, k3, k4⟩ := scanA_is d
  have hs := scanA_small d
  have h25 := q25 d (by omega)
  have hhc := hed_chn d
  have heh := ext_head d
  have h30 := q30 d (hed d) (by omega)
  rw [heh] at h30
  have hst : scanA (d.take (used d)) = stps 0 zero16 (recs (scanA d)) := by
    have := scanA_frs (recs (scanA d)) [] k3 (by simp)
    rw [List.append_nil, k2] at this
    exact this
  have h25b := q25 (d.take (used d)) (by simp; omega)
  have hu2 := used_of hst
  have hr2 : recs (scanA (d.take (used d))) = recs (scanA d) := by rw [hst, recs_stps]
  have hh2 := hed_chn (d.take (used d))
  rw [hr2] at hh2
  rw [hr2, hh2, hu2, ← hhc] at h25b
  rw [k2] at h25b
  have hul : (d.take (used d)).length = used d := by simp; omega
  rw [hul] at h25b
  have hlen : (recs (scanA d)).length = (scanA d).length := by simp [recs]
  rw [hhc] at heh h30 h25 h25b
  have hfl := frs_len (recs (scanA d)) zero16
  rw [k2, hul] at hfl
  have hrl : ∀ r ∈ recs (scanA d), r.length ≤ 100000 := fun r h => by have := recs_le h; omega
  have h27 := q27 (recs (scanA d)) (!(recs (scanA d)).isEmpty) (by omega) hrl
  have h27e := q27 [] false (by simp) (by simp)
  generalize used d = U at *
  generalize recs (scanA d) = R at *
  have h29 := q29 _ _ [] _ _ (StrSl.vec (!R.isEmpty) [] R) (StrSl.vec (!R.isEmpty) [] R) (by omega)
  rw [decide_eq_true rfl] at h29
  have hn1 : ¬ (U : Int) < 0 := by omega
  have hn2 : ¬ (d.length : Int) < U := by omega
  have hn3 : (U : Int) ≤ d.length := by omega
  have hbb : (!R.isEmpty) = (!R.isEmpty) := rfl
  generalize (!R.isEmpty) = nn at *
  have he : sv false ([] : List (List UInt8)) = .vec none false [] := rfl
  rw [he] at h27e
  simp [c8, hw, a1, h25, hn1, hn2, h27, h30, h27e]
  refine wp_loop (fun wx s => ∃ i : Nat, wx = R.length - i ∧ i ≤ R.length ∧ s.get 0 = .str d ∧ s.get 3 = sv nn R ∧ s.get 4 = AV.int IntKind.i64 U ∧ s.get 5 = .str (chn R) ∧ s.get 6 = .str (frs zero16 (R.take i)) ∧ s.get 7 = .str (chn (R.take i)) ∧ s.get 8 = AV.int IntKind.i64 i) ?_ R.length _ ?_
  rotate_left
  · exact ⟨0, by simp [frs]⟩
  rintro wx s ⟨i, hn, hi, e0, e3, e4, e5, e6, e7, e8⟩
  by_cases hlt : i < R.length
  · have w1 : W64 ((i : Int) + 1) ((i + 1 : Nat) : Int) := .mkI rfl (by omega) (by omega)
    have hcl := chn_len (R.take i)
    have h1000 := k3 _ (List.getElem_mem hlt)
    have h22 := q22 (chn (R.take i)) R[i] (by omega) []
    rw [if_pos hcl, if_pos h1000] at h22
    have hfs : frs zero16 (R.take (i + 1)) = frs zero16 (R.take i) ++ frm (chn (R.take i)) R[i] := by
      rw [List.take_succ_eq_append_getElem hlt, frs_snoc]; rfl
    have hcs := take_chn hlt
    have hl1 := frs_len (R.take i) zero16
    have hl2 := sumS_le (P := R) (i := i)
    have hl3 := frm_len (chn (R.take i)) R[i]
    have hlen : (frs zero16 (R.take i)).length + (frm (chn (R.take i)) R[i]).length ≤ 9223372036854775807 := by
      simp at hl1; omega
    rw [← hcs] at h22
    generalize frm (chn (R.take i)) R[i] = F at *
    generalize hCi : chn (R.take i) = Ci at *
    simp [e0, e3, e4, e5, e6, e7, e8, hlt, gi_nat hlt, h22, w1.eq, hlen, -Int.natCast_add]
    exact ⟨R.length - (i + 1), by omega, i + 1, by omega, by omega, hfs.symm, rfl, rfl⟩
  · have hie : i = R.length := by omega
    subst hie
    rw [List.take_length, k2] at e6
    have h25c := h25b s.mem
    simp [e0, e3, e4, e5, e6, e7, e8, hn3, h25c, h29]
end Go.Vm.Ch55
