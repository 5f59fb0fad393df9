/- Chapter 10: what its functions compute. -/
import Derived.Test.YtmncbcgcahfdcaaGreatDoorC10zs
namespace Go.Vm.Ch10
open _root_.Ch10 (T10 c48 c72 c47 c50 c46 c51)
set_option maxRecDepth 10000
set_option maxHeartbeats 16000000
/-! ### what a line must be -/
def tkOK (p : Tk) : Bool := decide (p.t.length ≤ 200) && (decide (-9223372036854775808 ≤ p.n) && decide (p.n ≤ 9223372036854775807))
def vT (p : Tk) : Bool := valP p.k p.t p.n
theorem q48 (p : Tk) (ht : p.t.length ≤ 200) : callL T10 48 [tv p] [] = some (.bool (!vT p), []) := by
  obtain ⟨k, t, n, a⟩ := p
  have h49 := q49 k t n 1 (by simp only at ht; omega) []
  apply callL_body (vf := c48) rfl rfl
  simp only [tv, et, vT]
  simp [c48, h49, objCells, -et_def]
theorem q72 (T : List Tk) (b : Bool) (hl : T.length ≤ 1000000) (hT : ∀ p ∈ T, p.t.length ≤ 200) : ∃ i : Int, callL T10 72 [vv none b tv T, .fn (.func 48) []] [] = some (AV.int IntKind.i64 i, []) ∧ (0 ≤ i ↔ T.all vT = false) := by
  have key : ∃ r m', callL T10 72 [vv none b tv T, .fn (.func 48) []] [] = some (r, m') ∧ m' = [] ∧ ∃ i, r = AV.int IntKind.i64 i ∧ (0 ≤ i ↔ T.all vT = false) := by
    apply callL_exP (vf := c72) rfl rfl
    simp [c72]
    refine wp_loop (fun n t => ∃ i : Nat, n = T.length - i ∧ i ≤ T.length ∧ t.get 0 = vv none b tv T ∧ t.get 1 = .fn (.func 48) [] ∧ t.get 7 = AV.int IntKind.i64 (T.length : Nat) ∧ t.get 8 = AV.int IntKind.i64 (i : Nat) ∧ t.mem = [] ∧ (T.drop i).all vT = T.all vT) ?_ T.length _ ?_
    rotate_left
    · exact ⟨0, by simp⟩
    rintro n t ⟨i, hn, hi, e0, e1, e7, e8, hm, hA⟩
    by_cases hlt : i < T.length
    rotate_left
    · have hli : ¬ (i : Int) < T.length := by omega
      rw [List.drop_eq_nil_of_le (by omega)] at hA
      simp only [List.all_nil] at hA
      simp [e0, e1, e7, e8, hm, hli, ← hA]
      exact fun x hx => List.all_eq_true.1 hA.symm x hx
    have hli : (i : Int) < T.length := by omega
    have w1 : W64 ((i : Int) + 1) ((i + 1 : Nat) : Int) := .mkI rfl (by omega) (by omega)
    have hd : T.drop i = gi T (i : Int) :: T.drop (i + 1) := by rw [gi_nat hlt]; simp
    have hmem : gi T (i : Int) ∈ T := by rw [gi_nat hlt]; exact List.getElem_mem _
    rw [hd, List.all_cons] at hA
    obtain ⟨x, hx⟩ : ∃ x, gi T (i : Int) = x := ⟨_, rfl⟩
    rw [hx] at hA hmem
    have h48 := q48 x (hT x hmem)
    obtain ⟨k, t', n', a⟩ := x
    simp only [tv, et] at h48
    cases hv : vT ⟨k, t', n', a⟩ with
    | true =>
      rw [hv] at h48 hA
      simp only [Bool.true_and] at hA
      simp [e0, e1, e7, e8, hm, hli, hx, et, h48, w1.eq, -et_def, -Int.natCast_add]
      exact ⟨T.length - (i + 1), by omega, i + 1, rfl, by omega, rfl, hA⟩
    | false =>
      rw [hv] at h48 hA
      simp only [Bool.false_and] at hA
      simp [e0, e1, e7, e8, hm, hli, hx, et, h48, ← hA, -et_def, -Int.natCast_add]
      exact ⟨_, hmem, hv⟩
  obtain ⟨r, m', h1, rfl, i, rfl, h2⟩ := key
  exact ⟨i, h1, h2⟩
theorem q47 (T : List Tk) (b : Bool) (hl : T.length ≤ 1000000) (hT : ∀ p ∈ T, p.t.length ≤ 200) : callL T10 47 [vv none b tv T, .fn (.func 48) []] [] = some (.bool (!T.all vT), []) := by
  obtain ⟨i, h1, h2⟩ := q72 T b hl hT
  apply callL_body (vf := c47) rfl rfl
  cases hA : T.all vT with
  | true =>
    have : ¬ 0 ≤ i := fun h => by rw [h2.1 h] at hA; cases hA
    simp [c47, h1, this]
  | false =>
    have := h2.2 hA
    simp [c47, h1, this]
def isCol (p : Tk) : Bool := decide (p.k = 4) && decide (p.t = [58])
theorem q50 (p : Tk) : callL T10 50 [tv p, .str [58]] [] = some (.bool (isCol p), []) := by
  obtain ⟨k, t, n, a⟩ := p
  apply callL_body (vf := c50) rfl rfl
  simp only [tv, et, isCol]
  by_cases h1 : k = 4
  · simp [c50, objCells, h1, -et_def]
    rw [Bool.eq_iff_iff]; simp
  · simp [c50, objCells, h1, -et_def]
/-- Is the last token a colon? -/
def lastC (T : List Tk) : Bool := match T.getLast? with
  | some p => isCol p
  | none => false
def formP (T : List Tk) (h : Bool) (K : List Ln) : Bool := decide (T ≠ []) && (T.all vT && (h || (!lastC T && decide (K = []))))
theorem all_txt {T : List Tk} (h : T.all tkOK = true) : ∀ p ∈ T, p.t.length ≤ 200 ∧ inI p.n := by
  intro p hp
  have := List.all_eq_true.1 h p hp
  simp only [tkOK, Bool.and_eq_true, decide_eq_true_eq] at this
  exact ⟨this.1, this.2⟩
theorem q46 (T : List Tk) (b h : Bool) (K : List Ln) (kv : AV) (a : Int) (d : Nat) (m : Mem) (hT : T.all tkOK = true) (hl : 1 + T.length + szL K ≤ 1000000) {m0 : Mem} {lo hi : Nat} (hkv : TV m0 lo hi K kv.view) (_ : kv.one = true) :
    callL T10 46 (.agg [vv none b tv T, .bool h, kv, AV.int IntKind.i64 a] :: AV.int IntKind.i64 (d : Nat) :: []) m = some (.bool (formP T h K), m) := by
  have h47 := q47 T b (by omega) fun p hp => (all_txt hT p hp).1
  obtain ⟨⟨ek, hek, lk, -⟩⟩ := hkv.at
  apply callL_body (vf := c46) rfl rfl
  rcases List.eq_nil_or_concat T with rfl | ⟨T0, p, rfl⟩
  · simp [c46, objCells, formP]
  · rw [List.concat_eq_append] at *
    have hTl : (0 : Int) < ((T0 ++ [p]).length : Int) := by rw [List.length_append, List.length_singleton]; omega
    have hne : T0 ++ [p] ≠ [] := by simp
    have hlast : lastC (T0 ++ [p]) = isCol p := by simp [lastC]
    have w1 : W64 (((T0 ++ [p]).length : Int) - 1) ((T0.length : Nat) : Int) := .mkI (by simp) (by omega) (by simp at hl; omega)
    have hgl : gi (T0 ++ [p]) ((T0.length : Nat) : Int) = p := gi_app_eq
    have hlt : T0.length < (T0 ++ [p]).length := by simp
    have hlti : ((T0.length : Nat) : Int) < ((T0 ++ [p]).length : Int) := by omega
    have h50 := q50 p
    have hkl : decide (K = []) = decide (ek.length = 0) := by
      rw [lk, Bool.eq_iff_iff]; simp
    unfold formP
    rw [hlast, hkl]
    obtain ⟨pk, pt, pn, pa⟩ := p
    simp only [tv, et] at h50
    generalize T0 ++ [Tk.mk pk pt pn pa] = TT at *
    cases hA : TT.all vT with
    | false =>
      rw [hA] at h47
      simp [c46, objCells, h47]
      skip
    | true =>
      rw [hA] at h47
      cases h with
      | true =>
        simp [c46, objCells, h47, hne]
        skip
      | false =>
        cases hc : isCol ⟨pk, pt, pn, pa⟩ with
        | true =>
          rw [hc] at h50
          simp [c46, objCells, h47, hne, w1.eq, hgl, hlti, et, h50, -et_def]
          skip
        | false =>
          rw [hc] at h50
          simp [c46, objCells, h47, hne, w1.eq, hgl, hlti, et, h50, hek.view, hek.len, -et_def]
          intro _
          rw [Bool.eq_iff_iff]; simp
def smallP (T : List Tk) (h : Bool) (d : Nat) : Bool := decide (T.length + (if h then 1 else 0) ≤ 64) && decide (d ≤ 7)
theorem q51 (T : List Tk) (b h : Bool) (kv : AV) (a : Int) (d : Nat) (m : Mem) (hl : T.length ≤ 1000000) (_ : kv.one = true) :
    callL T10 51 (.agg [vv none b tv T, .bool h, kv, AV.int IntKind.i64 a] :: AV.int IntKind.i64 (d : Nat) :: []) m = some (.bool (smallP T h d), m) := by
  apply callL_body (vf := c51) rfl rfl
  have w1 : W64 ((T.length : Int) + 1) ((T.length + 1 : Nat) : Int) := .mkI rfl (by omega) (by omega)
  unfold smallP
  cases h with
  | true =>
    by_cases h1 : T.length + 1 ≤ 64
    · have h1i : ((T.length + 1 : Nat) : Int) ≤ 64 := by omega
      simp [c51, objCells, w1.eq, h1, h1i, -Int.natCast_add]
      omega
    · have h1i : ¬ ((T.length + 1 : Nat) : Int) ≤ 64 := by omega
      simp [c51, objCells, w1.eq, h1, h1i, -Int.natCast_add]
      skip
  | false =>
    by_cases h1 : T.length ≤ 64
    · have h1i : (T.length : Int) ≤ 64 := by omega
      simp [c51, objCells, h1, h1i, -Int.natCast_add]
      omega
    · have h1i : ¬ (T.length : Int) ≤ 64 := by omega
      simp [c51, objCells, h1, h1i, -Int.natCast_add]
      skip
end Go.Vm.Ch10
