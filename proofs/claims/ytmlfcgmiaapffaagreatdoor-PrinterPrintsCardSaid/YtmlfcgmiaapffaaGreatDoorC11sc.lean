/- Chapter 11: what its functions compute. -/
import Derived.Test.YtmlfcgmiaapffaaGreatDoorC11sb
namespace Go.Vm.Ch11
open _root_.Ch11 (T11 c60)
set_option maxRecDepth 10000
set_option maxHeartbeats 16000000
theorem ind_succ (j : Nat) : ind j ++ [32, 32] = ind (j + 1) := by
  unfold ind
  show _ ++ List.replicate 2 32 = _
  rw [List.replicate_append_replicate]; rfl
theorem q60 (T : List Tk) (nt h : Bool) (kv : AV) (a : Int) (d : Nat) (ho : kv.one = true) (hd : d ≤ 7) (hl : T.length ≤ 250001) (hT : T.all vT = true) : callL T11 60 [.agg [vv none nt tv T, .bool h, kv, AV.int .i64 a], AV.int .i64 d] [] = some (.tup [.str (lineS d T h), vv none true tv (lineT d T)], []) := by
  have hi2 := ind_len d
  have hkg : kv.good = true := one_good ho
  apply callL_body (vf := c60) rfl rfl
  simp [c60]
  refine wp_loop (fun n t => ∃ j : Nat, n = d - j ∧ j ≤ d ∧ t.get 1 = AV.int .i64 d ∧ t.get 2 = .ptr (.loc 2 0) 0 ∧ t.loc 2 = [.cells false [vv none nt tv T, .bool h, kv.view, AV.int .i64 a]] ∧ t.get 6 = .str (ind j) ∧ t.get 7 = AV.int .i64 (j : Nat) ∧ t.mem = []) ?_ d _ ?_
  rotate_left
  · refine ⟨0, ?_⟩
    simp [ind]
  rintro n t ⟨j, hn, hj, e1, e2, l2, e6, e7, em⟩
  by_cases hjd : j < d
  · have hji : (j : Int) < d := by omega
    have w1 : W64 ((j : Int) + 1) ((j + 1 : Nat) : Int) := .mkI rfl (by omega) (by omega)
    have hij := ind_len j
    have hb : (ind j).length + 2 ≤ 9223372036854775807 := by omega
    simp [e1, e2, l2, e6, e7, em, hjd, w1.eq, ind_succ, -Int.natCast_add]
    exact ⟨by omega, d - (j + 1), by omega, j + 1, rfl, by omega, rfl, rfl⟩
  have hjd' : j = d := by omega
  rw [hjd'] at e6 e7
  simp [e1, e2, l2, e6, e7, em]
  refine wp_loop (fun n t => ∃ (i : Nat) (s : List UInt8) (A : List Tk), n = T.length - i ∧ i ≤ T.length ∧ t.get 2 = .ptr (.loc 2 0) 0 ∧ t.loc 2 = [.cells false [vv none nt tv T, .bool h, kv.view, AV.int .i64 a]] ∧ t.get 6 = .str s ∧ t.get 8 = vv (some 4) true tv A ∧ t.get 9 = AV.int .i64 (i : Nat) ∧ t.mem = [] ∧ s.length ≤ 14 + i * 203 ∧ A.length = i ∧ lnF (ind d) none T = ((lnF s (bef T i) (T.drop i)).1, A ++ (lnF s (bef T i) (T.drop i)).2)) ?_ T.length _ ?_
  rotate_left
  · refine ⟨0, ind d, [], ?_⟩
    simp [bef, e2, l2, e6, em]
    exact ⟨rfl, by omega⟩
  rintro n u ⟨i, s, A, hn, hi, e2, l2, e6, e8, e9, em, hs, hA, hF⟩
  by_cases hlt : i < T.length
  rotate_left
  · have hli : ¬ (i : Int) < T.length := by omega
    rw [List.drop_eq_nil_of_le (by omega)] at hF
    simp only [lnF, List.append_nil] at hF
    simp [e2, l2, e6, e8, e9, em, hli, objCells]
    have f1 : lineS d T h = s ++ if h then [58] else [] := by simp [lineS, hF]
    have f2 : lineT d T = A := by simp [lineT, hF]
    rw [f1, f2]
    exact ⟨fun hh => by simp [hh]; omega, fun hh => by simp [hh]⟩
  have hli : (i : Int) < T.length := by omega
  have w1 : W64 ((i : Int) + 1) ((i + 1 : Nat) : Int) := .mkI rfl (by omega) (by omega)
  have hdr : T.drop i = gi T (i : Int) :: T.drop (i + 1) := by rw [gi_nat hlt]; simp
  have hmem : gi T (i : Int) ∈ T := by rw [gi_nat hlt]; exact List.getElem_mem _
  have hv := List.all_eq_true.1 hT _ hmem
  rw [hdr] at hF
  simp only [lnF] at hF
  rw [← bef_succ] at hF
  obtain ⟨x, hx⟩ : ∃ x, gi T (i : Int) = x := ⟨_, rfl⟩
  rw [hx] at hv hF
  obtain ⟨k1, k2, k3⟩ := spT_len hv
  have h84a := q84 x 41 []
  have h84b := q84 x 44 []
  have hpl := pref_len (bef T i) x s
  obtain ⟨S, hS⟩ : ∃ S, pref (bef T i) x s = S := ⟨_, rfl⟩
  rw [hS] at hF hpl
  have h21 := q21 (atT x S.length) k3 (by simp only [atT]; omega) []
  rw [show vT (atT x S.length) = true from hv, show spT (atT x S.length) = spT x from rfl] at h21
  have w2 : W64 ((S.length : Int) + 1) ((S.length + 1 : Nat) : Int) := .mkI rfl (by omega) (by omega)
  obtain ⟨C, hC⟩ : ∃ C, spT x = C := ⟨_, rfl⟩
  rw [hC] at hF h21 k1
  have b1 : (A.length + 1) * 40 ≤ 140737488355328 := by omega
  have b2 : i - 1 < T.length := by omega
  have b3 : s.length ≤ 9223372036854775806 := by omega
  have hsn : ∀ xk xt xn z, AV.vec (some 4) true (List.map tv A ++ [AV.agg [AV.int .i64 xk, AV.str xt, AV.int .i64 xn, AV.int .i64 z]]) = vv (some 4) true tv (A ++ [Tk.mk xk xt xn z]) := fun xk xt xn z => by simp [vv]; rfl
  rcases Nat.eq_zero_or_pos i with h0 | h0
  · have hS0 : S = s := by rw [← hS]; simp [pref, gapB, bef, h0]
    subst hS0
    have h0i : ¬ 0 < i := by omega
    obtain ⟨xk, xt, xn, xa⟩ := x
    simp only [atT, tv, et] at h21 hF
    simp [e2, l2, e6, e8, e9, em, hli, h0i, hx, h21, w1.eq, w2.eq, objCells, b1, b3, et, -et_def, -Int.natCast_add]
    exact ⟨by omega, T.length - (i + 1), by omega, i + 1, rfl, by omega, A ++ [Tk.mk xk xt xn ((S.length + 1 : Nat) : Int)], hsn _ _ _ _, rfl, by omega, by simp; omega, by rw [hF]; simp⟩
  have w3 : W64 ((i : Int) - 1) ((i - 1 : Nat) : Int) := .mkI (by omega) (by omega) (by omega)
  obtain ⟨y, hy⟩ : ∃ y, gi T ((i - 1 : Nat) : Int) = y := ⟨_, rfl⟩
  have h84c := q84 y 40 []
  have hb : bef T i = some y := by
    rw [← hy]
    simp [bef, Nat.ne_of_gt h0]
    congr 1; omega
  rw [hb] at hS
  have h0i : 0 < i := h0
  have hli2 : ((i - 1 : Nat) : Int) < T.length := by omega
  have hS2 : (s ++ if (!(isS x 41 || isS x 44) && !isS y 40) = true then [32] else []) = S := hS
  clear hS
  generalize hg1 : isS x 41 = g1 at h84a hS2
  generalize hg2 : isS x 44 = g2 at h84b hS2
  generalize hg3 : isS y 40 = g3 at h84c hS2
  clear hg1 hg2 hg3
  obtain ⟨xk, xt, xn, xa⟩ := x
  obtain ⟨yk, yt, yn, ya⟩ := y
  simp only [atT, tv, et] at h21 hF h84a h84b h84c
  cases g1
  · cases g2
    · cases g3
      · simp at hS2
        simp [hS2, e2, l2, e6, e8, e9, em, hli, h0i, hx, hy, h21, h84a, h84b, h84c, w1.eq, w2.eq, w3.eq, objCells, b1, b2, b3, et, -et_def, -Int.natCast_add]
        exact ⟨by omega, T.length - (i + 1), by omega, i + 1, rfl, by omega, A ++ [Tk.mk xk xt xn ((S.length + 1 : Nat) : Int)], hsn _ _ _ _, rfl, by omega, by simp; omega, by rw [hF]; simp⟩
      · simp at hS2
        subst hS2
        simp [e2, l2, e6, e8, e9, em, hli, h0i, hx, hy, h21, h84a, h84b, h84c, w1.eq, w2.eq, w3.eq, objCells, b1, b2, b3, et, -et_def, -Int.natCast_add]
        exact ⟨by omega, T.length - (i + 1), by omega, i + 1, rfl, by omega, A ++ [Tk.mk xk xt xn ((s.length + 1 : Nat) : Int)], hsn _ _ _ _, rfl, by omega, by simp; omega, by rw [hF]; simp⟩
    · simp at hS2
      subst hS2
      simp [e2, l2, e6, e8, e9, em, hli, h0i, hx, h21, h84a, h84b, w1.eq, w2.eq, objCells, b1, b3, et, -et_def, -Int.natCast_add]
      exact ⟨by omega, T.length - (i + 1), by omega, i + 1, rfl, by omega, A ++ [Tk.mk xk xt xn ((s.length + 1 : Nat) : Int)], hsn _ _ _ _, rfl, by omega, by simp; omega, by rw [hF]; simp⟩
  · simp at hS2
    subst hS2
    simp [e2, l2, e6, e8, e9, em, hli, h0i, hx, h21, h84a, w1.eq, w2.eq, objCells, b1, b3, et, -et_def, -Int.natCast_add]
    exact ⟨by omega, T.length - (i + 1), by omega, i + 1, rfl, by omega, A ++ [Tk.mk xk xt xn ((s.length + 1 : Nat) : Int)], hsn _ _ _ _, rfl, by omega, by simp; omega, by rw [hF]; simp⟩
end Go.Vm.Ch11
