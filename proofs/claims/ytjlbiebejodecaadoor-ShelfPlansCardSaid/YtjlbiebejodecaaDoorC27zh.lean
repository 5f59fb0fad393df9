/- Chapter 27: what its functions compute. -/
import Derived.Test.YtjlbiebejodecaaDoorC27zg
import Derived.Test.YtjlbiebejodecaaDoorC27o
namespace Go.Vm.Ch27
open _root_.Ch27 (T27 c7)
set_option maxRecDepth 10000
set_option maxHeartbeats 8000000
theorem plM_old {M : Mem} {o : List AV} {ns : List Nod} {i : Nat} (h : i < M.length) : (plM M o ns)[i]? = M[i]? := by
  unfold plM; rw [List.getElem?_append_left h]
theorem shelvesS_len (P : List Prt) (kf w : Int) : ∀ (n : Nat) (l : List Plc) (h : Int) (s : PSt), s.1.length ≤ (shelvesS P kf w n l h s).1.length ∧ (shelvesS P kf w n l h s).1.length ≤ s.1.length + (6 * l.length + 1)
  | 0, l, h, s => by simp [shelvesS, offS]
  | n + 1, [], h, s => by simp [shelvesS, offS]
  | n + 1, q :: r, h, s => by
    have hk : 1 ≤ runL (q :: r) := by simp [runL]
    have hk2 : runL (q :: r) ≤ (q :: r).length := by
      have := (List.takeWhile_sublist (l := r) fun p => p.sh == q.sh).length_le
      simp only [runL, List.length_cons]; omega
    rw [shelvesS]
    split
    · have := cutS_len (ax := 1) (at' := q.y + (gi P q.part).h) (kf := kf) (stripS_len P kf w (q.y + (gi P q.part).h) ((q :: r).take (runL (q :: r)))) (shelvesS_len P kf w n ((q :: r).drop (runL (q :: r))) h) s
      simp only [List.length_take, List.length_drop] at this
      omega
    · have := stripS_len P kf w h ((q :: r).take (runL (q :: r))) s
      simp only [List.length_take] at this
      omega
theorem law7 (P : List Prt) (nn a b : Bool) (w h kf : Int) (pl : List Plc) (lf : List Int) (hlen : (P.length : Int) ≤ 9223372036854775807) (hpl : (pl.length : Int) ≤ 9223372036854775807) (hlf : (lf.length : Int) ≤ 9223372036854775807) :
    ∃ m, callL T27 7 [pv nn P, AV.int IntKind.i64 w, AV.int IntKind.i64 h, AV.int IntKind.i64 kf, lay a b pl lf] [] = some (.bool true, m) := by
  obtain ⟨m0, haw⟩ := awake
  have h13 := q13' P nn 40 hlen []
  by_cases hs : (P.length : Int) ≤ 40 ∧ ∀ b ∈ P, b.name.length ≤ 60
  rotate_left
  · refine ⟨m0, ?_⟩
    rw [decide_eq_false hs] at h13
    apply callL_body (vf := c7) rfl rfl
    simp [c7, haw, h13]
  have hsm := sml_of (n := 40) (by omega) hs
  have hl := hsm.len
  rw [decide_eq_true hs] at h13
  by_cases k1 : 100 < pl.length
  · have k1' : (100 : Int) < pl.length := by omega
    refine ⟨m0, ?_⟩
    apply callL_body (vf := c7) rfl rfl
    simp [c7, haw, h13, k1']
  have k1' : ¬ (100 : Int) < pl.length := by omega
  by_cases k2 : 100 < lf.length
  · have k2' : (100 : Int) < lf.length := by omega
    refine ⟨m0, ?_⟩
    apply callL_body (vf := c7) rfl rfl
    simp [c7, haw, h13, k1', k2']
  have k2' : ¬ (100 : Int) < lf.length := by omega
  have h15 := q15 P nn (by omega) []
  have h25 := q25 a b pl lf (by omega) []
  have h16 := q16 P nn w h kf hsm []
  by_cases hc : chk P w h kf = 0
  rotate_left
  · have h32 := q32a P true (!pl.isEmpty) b w h kf pl lf hsm hc m0
    refine ⟨m0, ?_⟩
    apply callL_body (vf := c7) rfl rfl
    simp [c7, haw, h13, k1', k2', h15, h25, h16, h32, hc]
  obtain ⟨g1, g2, g3, g4, g5⟩ := chk_inv hc
  have hok := ok_of_chk hc
  have hon := pack_on (h := h) hok (ord_sorted P) (by omega)
  have hpk := pack_len (h := h) hok
  have hol := ord_len P
  have h23 := q23 P nn w h kf (by omega) hok (by omega) []
  rw [layV_eq] at h23
  have h21 := q21 a b (!(packS P w h kf (ord P)).pl.isEmpty) (!(packS P w h kf (ord P)).lf.isEmpty) pl (packS P w h kf (ord P)).pl lf (packS P w h kf (ord P)).lf (by omega) (by omega) []
  rw [hc] at h16
  by_cases hd : (packS P w h kf (ord P)).pl = pl ∧ (packS P w h kf (ord P)).lf = lf
  rotate_left
  · have h32 := q32b P true (!pl.isEmpty) b w h kf pl lf hsm hc (by omega) hd m0
    have hd' : ¬ (pl = (packS P w h kf (ord P)).pl ∧ lf = (packS P w h kf (ord P)).lf) := fun e => hd ⟨e.1.symm, e.2.symm⟩
    rw [decide_eq_false hd'] at h21
    generalize packS P w h kf (ord P) = L at *
    refine ⟨ordM P m0, ?_⟩
    apply callL_body (vf := c7) rfl rfl
    simp [c7, haw, h13, k1', k2', h15, h25, h16, h32, h23, h21]
  have hd' : pl = (packS P w h kf (ord P)).pl ∧ lf = (packS P w h kf (ord P)).lf := ⟨hd.1.symm, hd.2.symm⟩
  rw [decide_eq_true hd'] at h21
  have hpo : ∀ q ∈ (packS P w h kf (ord P)).pl, PlOK P q := by
    intro q hq
    obtain ⟨o1, o2, o3⟩ := hon q hq
    have := g2 _ (gi_memP o1)
    exact ⟨o1, by omega, by omega⟩
  have hpo2 : ∀ q ∈ pl, PlOK P q := by rw [hd'.1]; exact hpo
  obtain ⟨m1, h32, o1, hm1⟩ := q32c P true (!pl.isEmpty) b w h kf pl lf hsm hc (by omega) hd g2 g5 hpo2 (by rw [hd'.1]; omega) m0
  obtain ⟨m2, h33, o2, hm2⟩ := q33 P nn w h kf (by omega) hok g2 g5 (by omega) (by omega) hpo (by omega) m1
  rw [← hd'.1] at h33 hm2
  have hns := (shelvesS_len P kf w pl.length pl h ([], 0)).2
  generalize (shelvesS P kf w pl.length pl h ([], 0)).1 = ns at *
  generalize packS P w h kf (ord P) = L at *
  generalize ordM P m0 = M0 at *
  refine ⟨m2, ?_⟩
  by_cases hN : ns = []
  · subst hN
    simp only [nodW, if_pos] at h32 h33
    apply callL_body (vf := c7) rfl rfl
    simp [c7, haw, h13, k1', k2', h15, h25, h16, h32, h23, h21, h33]
    refine wp_loop (fun n s => s.get 11 = .vec none false [] ∧ s.get 14 = .vec none false [] ∧ s.get 15 = AV.int IntKind.i64 0 ∧ s.mem = m2) ?_ 0 _ ?_
    rotate_left
    · simp
    rintro n s ⟨e11, e14, e15, hm⟩
    simp [e11, e15, hm]
  have hlN : ns.length ≤ 1000000 := by simp at hns; omega
  have hr1 : m2[M0.length + ns.length]? = some (some (.cells false (rowc en ns))) := by
    rw [hm2, plM_old, hm1, plM_row _ _ _ hN]
    rw [hm1, plM_len]; omega
  have hr2 : m2[m1.length + ns.length]? = some (some (.cells false (rowc en ns))) := by
    rw [hm2, plM_row _ _ _ hN]
  have hw : ∀ x, nodW x ns = .row (.mem (x + ns.length)) 0 ns.length := fun x => by unfold nodW; rw [if_neg hN]
  rw [hw] at h32 h33
  clear hm1 hm2
  apply callL_body (vf := c7) rfl rfl
  simp [c7, haw, h13, k1', k2', h15, h25, h16, h32, h23, h21, h33]
  refine wp_loop (fun n s => ∃ i : Nat, n = ns.length - i ∧ i ≤ ns.length ∧ s.get 11 = .row (.mem (M0.length + ns.length)) 0 ns.length ∧ s.get 14 = .row (.mem (m1.length + ns.length)) 0 ns.length ∧ s.get 15 = AV.int IntKind.i64 i ∧ s.mem = m2) ?_ ns.length _ ?_
  rotate_left
  · exact ⟨0, by simp⟩
  rintro n s ⟨i, hn, hi, e11, e14, e15, hm⟩
  by_cases hlt : i < ns.length
  rotate_left
  · simp [e11, e15, hm, hlt]
  have w1 : W64 ((i : Int) + 1) ((i + 1 : Nat) : Int) := .mkI (by omega) (by omega) (by omega)
  have hle : i * 7 + 7 ≤ (rowc en ns).length := by rw [rowc_len els_en.len]; omega
  have hget := rowc_get els_en.len hlt
  generalize ns[i] = q at *
  simp [e11, e14, e15, hm, hlt, hr1, hr2, objCells, hle, hget, en, w1.eq, -Int.natCast_add]
  exact ⟨ns.length - (i + 1), by omega, i + 1, rfl, by omega, rfl⟩
end Go.Vm.Ch27
