/- Chapter 11: what its functions compute. -/
import Derived.Test.YtmlfcgmiaapffaaGreatDoorC11sa
namespace Go.Vm.Ch11
open _root_.Ch11 (T11 c92)
set_option maxRecDepth 10000
set_option maxHeartbeats 16000000
def gapB (q : Option Tk) (p : Tk) : Bool := match q with
  | none => false
  | some q => !(isS p 41 || isS p 44) && !isS q 40
def pref (q : Option Tk) (p : Tk) (s : List UInt8) : List UInt8 := s ++ if gapB q p then [32] else []
def atT (p : Tk) (n : Nat) : Tk := ⟨p.k, p.t, p.n, ((n + 1 : Nat) : Int)⟩
def lnF (s : List UInt8) (q : Option Tk) : List Tk → List UInt8 × List Tk
  | [] => (s, [])
  | p :: T => ((lnF (pref q p s ++ spT p) (some p) T).1, atT p (pref q p s).length :: (lnF (pref q p s ++ spT p) (some p) T).2)
def lineS (d : Nat) (T : List Tk) (h : Bool) : List UInt8 := (lnF (ind d) none T).1 ++ if h then [58] else []
def lineT (d : Nat) (T : List Tk) : List Tk := (lnF (ind d) none T).2
theorem spT_len {p : Tk} (h : vT p = true) : (spT p).length ≤ 202 ∧ p.t.length ≤ 200 ∧ inI p.n := by
  have := vT_tkOK h
  simp only [tkOK, Bool.and_eq_true, decide_eq_true_eq] at this
  exact ⟨spl_len ⟨this.2.1, this.2.2⟩ this.1, this.1, this.2.1, this.2.2⟩
theorem ind_len (d : Nat) : (ind d).length = 2 * d := by simp [ind]
theorem pref_len (q : Option Tk) (p : Tk) (s : List UInt8) : (pref q p s).length ≤ s.length + 1 := by
  unfold pref; split <;> simp
def bef (T : List Tk) (i : Nat) : Option Tk := if i = 0 then none else some (gi T ((i : Int) - 1))
theorem bef_succ (T : List Tk) (i : Nat) : bef T (i + 1) = some (gi T (i : Int)) := by
  simp [bef]
theorem q92 (T : List Tk) (nt h : Bool) (kv : AV) (a : Int) (d : Nat) (ho : kv.one = true) (hd : d ≤ 7) (hl : T.length ≤ 250001) (hT : T.all vT = true) : callL T11 92 [.agg [vv none nt tv T, .bool h, kv, AV.int .i64 a], AV.int .i64 d] [] = some (.tup [.str (lineS d T h), ovn tv (lineT d T)], []) := by
  have h113 := q113 d hd
  have hi2 := ind_len d
  have hkg : kv.good = true := one_good ho
  apply callL_body (vf := c92) rfl rfl
  simp [c92, h113, objCells]
  refine wp_loop (fun n t => ∃ (i : Nat) (s : List UInt8) (A : List Tk), n = T.length - i ∧ i ≤ T.length ∧ t.get 2 = .ptr (.loc 2 0) 0 ∧ t.loc 2 = [.cells false [vv none nt tv T, .bool h, kv.view, AV.int .i64 a]] ∧ t.get 6 = .str s ∧ t.get 7 = ov 4 tv A ∧ t.get 15 = vv none nt tv T ∧ t.get 16 = AV.int .i64 (T.length : Nat) ∧ t.get 17 = AV.int .i64 (i : Nat) ∧ t.mem = [] ∧ s.length ≤ 14 + i * 203 ∧ A.length = i ∧ lnF (ind d) none T = ((lnF s (bef T i) (T.drop i)).1, A ++ (lnF s (bef T i) (T.drop i)).2)) ?_ T.length _ ?_
  rotate_left
  · refine ⟨0, ind d, [], ?_⟩
    simp [bef]
    exact ⟨rfl, by omega⟩
  rintro n t ⟨i, s, A, hn, hi, e2, l2, e6, e7, e15, e16, e17, em, hs, hA, hF⟩
  by_cases hlt : i < T.length
  rotate_left
  · have hli : ¬ (i : Int) < T.length := by omega
    rw [List.drop_eq_nil_of_le (by omega)] at hF
    simp only [lnF, List.append_nil] at hF
    simp [e2, l2, e6, e7, e15, e16, e17, em, hli, objCells]
    have f1 : lineS d T h = s ++ if h then [58] else [] := by simp [lineS, hF]
    have f2 : lineT d T = A := by simp [lineT, hF]
    rw [f1, f2]
    exact ⟨fun hh => by simp [hh]; omega, fun hh => by simp [hh]⟩
  have hli : (i : Int) < T.length := by omega
  have w1 : W64 ((i : Int) + 1) ((i + 1 : Nat) : Int) := .mkI rfl (by omega) (by omega)
  have hdr : T.drop i = gi T (i : Int) :: T.drop (i + 1) := by rw [gi_nat hlt]; simp
  have hmem : gi T (i : Int) ∈ T := by rw [gi_nat hlt]; exact List.getElem_mem _
  have hv := List.all_eq_true.1 hT _ hmem
  rw [hdr] at hF
  simp only [lnF] at hF
  rw [← bef_succ] at hF
  obtain ⟨x, hx⟩ : ∃ x, gi T (i : Int) = x := ⟨_, rfl⟩
  rw [hx] at hv hF
  obtain ⟨k1, k2, k3⟩ := spT_len hv
  have h114 := q114 x [41, 44] []
  rw [isS2] at h114
  have hpl := pref_len (bef T i) x s
  obtain ⟨S, hS⟩ : ∃ S, pref (bef T i) x s = S := ⟨_, rfl⟩
  rw [hS] at hF hpl
  have h43 := q43 (atT x S.length) k3 (by simp only [atT]; omega) []
  rw [show vT (atT x S.length) = true from hv, show spT (atT x S.length) = spT x from rfl] at h43
  have w2 : W64 ((S.length : Int) + 1) ((S.length + 1 : Nat) : Int) := .mkI rfl (by omega) (by omega)
  obtain ⟨C, hC⟩ : ∃ C, spT x = C := ⟨_, rfl⟩
  rw [hC] at hF h43 k1
  have b1 : (A.length + 1) * 40 ≤ 140737488355328 := by omega
  have b2 : i - 1 < T.length := by omega
  have b3 : s.length ≤ 9223372036854775806 := by omega
  have hsn : ∀ xk xt xn z, AV.vec (some 4) true (List.map tv A ++ [AV.agg [AV.int .i64 xk, AV.str xt, AV.int .i64 xn, AV.int .i64 z]]) = ov 4 tv (A ++ [Tk.mk xk xt xn z]) := fun xk xt xn z => ov_snoc (z := 4) (e := tv) (x := Tk.mk xk xt xn z)
  rcases Nat.eq_zero_or_pos i with h0 | h0
  · have hS0 : S = s := by rw [← hS]; simp [pref, gapB, bef, h0]
    subst hS0
    have h0i : ¬ 0 < i := by omega
    obtain ⟨xk, xt, xn, xa⟩ := x
    simp only [atT, tv, et] at h43 hF
    simp [e2, l2, e6, e7, e15, e16, e17, em, hli, h0i, hx, h43, w1.eq, w2.eq, objCells, b1, b3, et, -et_def, -Int.natCast_add]
    exact ⟨by omega, T.length - (i + 1), by omega, i + 1, rfl, by omega, A ++ [Tk.mk xk xt xn ((S.length + 1 : Nat) : Int)], hsn _ _ _ _, rfl, by omega, by simp; omega, by rw [hF]; simp⟩
  have w3 : W64 ((i : Int) - 1) ((i - 1 : Nat) : Int) := .mkI (by omega) (by omega) (by omega)
  obtain ⟨y, hy⟩ : ∃ y, gi T ((i - 1 : Nat) : Int) = y := ⟨_, rfl⟩
  have h114b := q114 y [40] []
  rw [isS1] at h114b
  have hb : bef T i = some y := by
    rw [← hy]
    simp [bef, Nat.ne_of_gt h0]
    congr 1; omega
  rw [hb] at hS
  have h0i : 0 < i := h0
  have hli2 : ((i - 1 : Nat) : Int) < T.length := by omega
  have hS2 : (s ++ if (!(isS x 41 || isS x 44) && !isS y 40) = true then [32] else []) = S := hS
  clear hS
  generalize hg1 : (isS x 41 || isS x 44) = g1 at h114 hS2
  generalize hg2 : isS y 40 = g2 at h114b hS2
  clear hg1 hg2
  obtain ⟨xk, xt, xn, xa⟩ := x
  obtain ⟨yk, yt, yn, ya⟩ := y
  simp only [atT, tv, et] at h43 hF h114 h114b
  cases g1
  · cases g2
    · simp at hS2
      simp [hS2, e2, l2, e6, e7, e15, e16, e17, em, hli, h0i, hx, hy, h43, h114, h114b, w1.eq, w2.eq, w3.eq, objCells, b1, b2, b3, et, -et_def, -Int.natCast_add]
      exact ⟨by omega, T.length - (i + 1), by omega, i + 1, rfl, by omega, A ++ [Tk.mk xk xt xn ((S.length + 1 : Nat) : Int)], hsn _ _ _ _, rfl, by omega, by simp; omega, by rw [hF]; simp⟩
    · simp at hS2
      subst hS2
      simp [e2, l2, e6, e7, e15, e16, e17, em, hli, h0i, hx, hy, h43, h114, h114b, w1.eq, w2.eq, w3.eq, objCells, b1, b2, b3, et, -et_def, -Int.natCast_add]
      exact ⟨by omega, T.length - (i + 1), by omega, i + 1, rfl, by omega, A ++ [Tk.mk xk xt xn ((s.length + 1 : Nat) : Int)], hsn _ _ _ _, rfl, by omega, by simp; omega, by rw [hF]; simp⟩
  · simp at hS2
    subst hS2
    simp [e2, l2, e6, e7, e15, e16, e17, em, hli, h0i, hx, h43, h114, w1.eq, w2.eq, objCells, b1, b3, et, -et_def, -Int.natCast_add]
    exact ⟨by omega, T.length - (i + 1), by omega, i + 1, rfl, by omega, A ++ [Tk.mk xk xt xn ((s.length + 1 : Nat) : Int)], hsn _ _ _ _, rfl, by omega, by simp; omega, by rw [hF]; simp⟩
end Go.Vm.Ch11
