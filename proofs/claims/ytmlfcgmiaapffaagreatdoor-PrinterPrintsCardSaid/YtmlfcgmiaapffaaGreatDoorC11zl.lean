/- Chapter 11: what its functions compute. -/
import Derived.Test.YtmlfcgmiaapffaaGreatDoorC11zs
namespace Go.Vm.Ch11
open _root_.Ch11 (T11 c87 c112 c86 c88 c85 c89)
set_option maxRecDepth 10000
set_option maxHeartbeats 16000000
theorem gi_app_eq {α : Type} [Inhabited α] {l : List α} {x : α} : gi (l ++ [x]) (l.length : Int) = x := by
  rw [gi_nat (by rw [List.length_append]; simp)]
  simp
def tkOK (p : Tk) : Bool := decide (p.t.length ≤ 200) && (decide (-9223372036854775808 ≤ p.n) && decide (p.n ≤ 9223372036854775807))
def vT (p : Tk) : Bool := valP p.k p.t p.n
theorem q87 (p : Tk) (ht : p.t.length ≤ 200) : callL T11 87 [tv p] [] = some (.bool (!vT p), []) := by
  obtain ⟨k, t, n, a⟩ := p
  have h49 := q67 k t n 1 (by simp only at ht; omega) []
  apply callL_body (vf := c87) rfl rfl
  simp only [tv, et, vT]
  simp [c87, h49, objCells, -et_def]
theorem q112 (T : List Tk) (b : Bool) (hl : T.length ≤ 1000000) (hT : ∀ p ∈ T, p.t.length ≤ 200) : ∃ i : Int, callL T11 112 [vv none b tv T, .fn (.func 87) []] [] = some (AV.int .i64 i, []) ∧ (0 ≤ i ↔ T.all vT = false) := by
  have key : ∃ r m', callL T11 112 [vv none b tv T, .fn (.func 87) []] [] = some (r, m') ∧ m' = [] ∧ ∃ i, r = AV.int .i64 i ∧ (0 ≤ i ↔ T.all vT = false) := by
    apply callL_exP (vf := c112) rfl rfl
    simp [c112]
    refine wp_loop (fun n t => ∃ i : Nat, n = T.length - i ∧ i ≤ T.length ∧ t.get 0 = vv none b tv T ∧ t.get 1 = .fn (.func 87) [] ∧ t.get 7 = AV.int .i64 (T.length : Nat) ∧ t.get 8 = AV.int .i64 (i : Nat) ∧ t.mem = [] ∧ (T.drop i).all vT = T.all vT) ?_ T.length _ ?_
    rotate_left
    · exact ⟨0, by simp⟩
    rintro n t ⟨i, hn, hi, e0, e1, e7, e8, hm, hA⟩
    by_cases hlt : i < T.length
    rotate_left
    · have hli : ¬ (i : Int) < T.length := by omega
      rw [List.drop_eq_nil_of_le (by omega)] at hA
      simp only [List.all_nil] at hA
      simp [e0, e1, e7, e8, hm, hli, ← hA]
      exact fun x hx => List.all_eq_true.1 hA.symm x hx
    have hli : (i : Int) < T.length := by omega
    have w1 : W64 ((i : Int) + 1) ((i + 1 : Nat) : Int) := .mkI rfl (by omega) (by omega)
    have hd : T.drop i = gi T (i : Int) :: T.drop (i + 1) := by rw [gi_nat hlt]; simp
    have hmem : gi T (i : Int) ∈ T := by rw [gi_nat hlt]; exact List.getElem_mem _
    rw [hd, List.all_cons] at hA
    obtain ⟨x, hx⟩ : ∃ x, gi T (i : Int) = x := ⟨_, rfl⟩
    rw [hx] at hA hmem
    have h48 := q87 x (hT x hmem)
    obtain ⟨k, t', n', a⟩ := x
    simp only [tv, et] at h48
    cases hv : vT ⟨k, t', n', a⟩ with
    | true =>
      rw [hv] at h48 hA
      simp only [Bool.true_and] at hA
      simp [e0, e1, e7, e8, hm, hli, hx, et, h48, w1.eq, -et_def, -Int.natCast_add]
      exact ⟨T.length - (i + 1), by omega, i + 1, rfl, by omega, rfl, hA⟩
    | false =>
      rw [hv] at h48 hA
      simp only [Bool.false_and] at hA
      simp [e0, e1, e7, e8, hm, hli, hx, et, h48, ← hA, -et_def, -Int.natCast_add]
      exact ⟨_, hmem, hv⟩
  obtain ⟨r, m', h1, rfl, i, rfl, h2⟩ := key
  exact ⟨i, h1, h2⟩
theorem q86 (T : List Tk) (b : Bool) (hl : T.length ≤ 1000000) (hT : ∀ p ∈ T, p.t.length ≤ 200) : callL T11 86 [vv none b tv T, .fn (.func 87) []] [] = some (.bool (!T.all vT), []) := by
  obtain ⟨i, h1, h2⟩ := q112 T b hl hT
  apply callL_body (vf := c86) rfl rfl
  cases hA : T.all vT with
  | true =>
    have : ¬ 0 ≤ i := fun h => by rw [h2.1 h] at hA; cases hA
    simp [c86, h1, this]
  | false =>
    have := h2.2 hA
    simp [c86, h1, this]
def isCol (p : Tk) : Bool := decide (p.k = 4) && decide (p.t = [58])
theorem q88 (p : Tk) : callL T11 88 [tv p, .str [58]] [] = some (.bool (isCol p), []) := by
  obtain ⟨k, t, n, a⟩ := p
  apply callL_body (vf := c88) rfl rfl
  simp only [tv, et, isCol]
  by_cases h1 : k = 4
  · simp [c88, objCells, h1, -et_def]
    rw [Bool.eq_iff_iff]; simp
  · simp [c88, objCells, h1, -et_def]
def lastC (T : List Tk) : Bool := match T.getLast? with
  | some p => isCol p
  | none => false
def formP (T : List Tk) (h : Bool) (K : List Ln) : Bool := decide (T ≠ []) && (T.all vT && (h || (!lastC T && decide (K = []))))
theorem all_txt {T : List Tk} (h : T.all tkOK = true) : ∀ p ∈ T, p.t.length ≤ 200 ∧ inI p.n := by
  intro p hp
  have := List.all_eq_true.1 h p hp
  simp only [tkOK, Bool.and_eq_true, decide_eq_true_eq] at this
  exact ⟨this.1, this.2⟩
theorem q85 (T : List Tk) (b h : Bool) (K : List Ln) (kv : AV) (a : Int) (d : Nat) (m : Mem) (hT : T.all tkOK = true) (hl : 1 + T.length + szL K ≤ 1000000) {m0 : Mem} {lo hi : Nat} (hkv : TV m0 lo hi K kv.view) (_ : kv.one = true) :
    callL T11 85 (.agg [vv none b tv T, .bool h, kv, AV.int .i64 a] :: AV.int .i64 (d : Nat) :: []) m = some (.bool (formP T h K), m) := by
  have h47 := q86 T b (by omega) fun p hp => (all_txt hT p hp).1
  obtain ⟨⟨ek, hek, lk, -⟩⟩ := hkv.at
  apply callL_body (vf := c85) rfl rfl
  rcases List.eq_nil_or_concat T with rfl | ⟨T0, p, rfl⟩
  · simp [c85, objCells, formP]
  · rw [List.concat_eq_append] at *
    have hTl : (0 : Int) < ((T0 ++ [p]).length : Int) := by rw [List.length_append, List.length_singleton]; omega
    have hne : T0 ++ [p] ≠ [] := by simp
    have hlast : lastC (T0 ++ [p]) = isCol p := by simp [lastC]
    have w1 : W64 (((T0 ++ [p]).length : Int) - 1) ((T0.length : Nat) : Int) := .mkI (by simp) (by omega) (by simp at hl; omega)
    have hgl : gi (T0 ++ [p]) ((T0.length : Nat) : Int) = p := gi_app_eq
    have hlt : T0.length < (T0 ++ [p]).length := by simp
    have hlti : ((T0.length : Nat) : Int) < ((T0 ++ [p]).length : Int) := by omega
    have h50 := q88 p
    have hkl : decide (K = []) = decide (ek.length = 0) := by
      rw [lk, Bool.eq_iff_iff]; simp
    unfold formP
    rw [hlast, hkl]
    obtain ⟨pk, pt, pn, pa⟩ := p
    simp only [tv, et] at h50
    generalize T0 ++ [Tk.mk pk pt pn pa] = TT at *
    cases hA : TT.all vT with
    | false =>
      rw [hA] at h47
      simp [c85, objCells, h47]
      skip
    | true =>
      rw [hA] at h47
      cases h with
      | true =>
        simp [c85, objCells, h47, hne]
        skip
      | false =>
        cases hc : isCol ⟨pk, pt, pn, pa⟩ with
        | true =>
          rw [hc] at h50
          simp [c85, objCells, h47, hne, w1.eq, hgl, hlti, et, h50, -et_def]
          skip
        | false =>
          rw [hc] at h50
          simp [c85, objCells, h47, hne, w1.eq, hgl, hlti, et, h50, hek.view, hek.len, -et_def]
          intro _
          rw [Bool.eq_iff_iff]; simp
def smallP (T : List Tk) (h : Bool) (d : Nat) : Bool := decide (T.length + (if h then 1 else 0) ≤ 64) && decide (d ≤ 7)
theorem q89 (T : List Tk) (b h : Bool) (kv : AV) (a : Int) (d : Nat) (m : Mem) (hl : T.length ≤ 1000000) (_ : kv.one = true) :
    callL T11 89 (.agg [vv none b tv T, .bool h, kv, AV.int .i64 a] :: AV.int .i64 (d : Nat) :: []) m = some (.bool (smallP T h d), m) := by
  apply callL_body (vf := c89) rfl rfl
  have w1 : W64 ((T.length : Int) + 1) ((T.length + 1 : Nat) : Int) := .mkI rfl (by omega) (by omega)
  unfold smallP
  cases h with
  | true =>
    by_cases h1 : T.length + 1 ≤ 64
    · have h1i : ((T.length + 1 : Nat) : Int) ≤ 64 := by omega
      simp [c89, objCells, w1.eq, h1, h1i, -Int.natCast_add]
      omega
    · have h1i : ¬ ((T.length + 1 : Nat) : Int) ≤ 64 := by omega
      simp [c89, objCells, w1.eq, h1, h1i, -Int.natCast_add]
      skip
  | false =>
    by_cases h1 : T.length ≤ 64
    · have h1i : (T.length : Int) ≤ 64 := by omega
      simp [c89, objCells, h1, h1i, -Int.natCast_add]
      omega
    · have h1i : ¬ (T.length : Int) ≤ 64 := by omega
      simp [c89, objCells, h1, h1i, -Int.natCast_add]
      skip
end Go.Vm.Ch11
namespace Go.Vm.Ch11
open _root_.Ch11 (T11 c61)
set_option maxRecDepth 10000
set_option maxHeartbeats 16000000
mutual
def formL : List Ln → Bool
  | [] => true
  | x :: r => formN x && formL r
def formN : Ln → Bool
  | .mk T h K _ => formP T h K && formL K
end
mutual
def crowL : List Ln → Bool
  | [] => false
  | x :: r => crowN x || crowL r
def crowN : Ln → Bool
  | .mk T h K _ => decide (64 < T.length + (if h then 1 else 0)) || crowL K
end
def pvF (x : Ln) (_ : Nat) (_ : Unit) : Bool × Unit := (formP x.toks x.head x.kids, ())
def pvC (x : Ln) (d : Nat) (_ : Unit) : Bool × Unit := (smallP x.toks x.head d, ())
mutual
theorem walkF : ∀ (K : List Ln) (d : Nat), walkS pvF K d () = (formL K, ())
  | [], d => rfl
  | x :: r, d => by
    rw [walkS, walkFN x d, formL]
    cases formN x with
    | true => simp only [Bool.true_and]; exact walkF r d
    | false => rfl
theorem walkFN : ∀ (x : Ln) (d : Nat), walkN pvF x d () = (formN x, ())
  | .mk T h K a, d => by
    rw [walkN, formN]
    simp only [pvF, Ln.toks, Ln.head, Ln.kids]
    cases formP T h K with
    | true => simp only [Bool.true_and]; exact walkF K (d + 1)
    | false => rfl
end
theorem walkS_u {pv : Ln → Nat → Unit → Bool × Unit} {x : Ln} {r : List Ln} {d : Nat} : (walkS pv (x :: r) d ()).1 = ((walkN pv x d ()).1 && (walkS pv r d ()).1) := by
  rw [walkS]
  cases walkN pv x d () with
  | mk b u => cases b <;> rfl
theorem walkN_u {pv : Ln → Nat → Unit → Bool × Unit} {T : List Tk} {h : Bool} {K : List Ln} {a : Int} {d : Nat} : (walkN pv (.mk T h K a) d ()).1 = ((pv (.mk T h K a) d ()).1 && (walkS pv K (d + 1) ()).1) := by
  rw [walkN]
  cases pv (.mk T h K a) d () with
  | mk b u => cases b <;> rfl
mutual
theorem walkC : ∀ (K : List Ln) (d : Nat), 1 ≤ d → d ≤ 8 → ((walkS pvC K d ()).1 = true ↔ crowL K = false ∧ d - 1 + dL K ≤ 7)
  | [], d, h1, h2 => by
    have e : dL [] = 0 := rfl
    rw [e]
    exact ⟨fun _ => ⟨rfl, by omega⟩, fun _ => rfl⟩
  | x :: r, d, h1, h2 => by
    have ih := walkC r d h1 h2
    have ihx := walkCN x d h1 h2
    have e : dL (x :: r) = max (dN x) (dL r) := rfl
    have e2 : crowL (x :: r) = (crowN x || crowL r) := rfl
    rw [walkS_u, Bool.and_eq_true, ih, ihx, e, e2, Bool.or_eq_false_iff]
    generalize dN x = p at *
    generalize dL r = q at *
    constructor
    · rintro ⟨⟨a1, a2⟩, a3, a4⟩
      exact ⟨⟨a1, a3⟩, by omega⟩
    · rintro ⟨⟨a1, a3⟩, a4⟩
      exact ⟨⟨a1, by omega⟩, a3, by omega⟩
theorem walkCN : ∀ (x : Ln) (d : Nat), 1 ≤ d → d ≤ 8 → ((walkN pvC x d ()).1 = true ↔ crowN x = false ∧ d - 1 + dN x ≤ 7)
  | .mk T h K a, d, h1, h2 => by
    have e : dN (.mk T h K a) = 1 + dL K := rfl
    have e2 : crowN (.mk T h K a) = (decide (64 < T.length + (if h then 1 else 0)) || crowL K) := rfl
    have e3 : (pvC (.mk T h K a) d ()).1 = (decide (T.length + (if h then 1 else 0) ≤ 64) && decide (d ≤ 7)) := rfl
    rw [walkN_u, Bool.and_eq_true, e, e2, e3, Bool.or_eq_false_iff, Bool.and_eq_true, decide_eq_true_eq, decide_eq_true_eq, decide_eq_false_iff_not]
    generalize T.length + (if h then 1 else 0) = n at *
    by_cases hd : d ≤ 7
    · have ih := walkC K (d + 1) (by omega) (by omega)
      rw [ih]
      generalize dL K = q at *
      constructor
      · rintro ⟨⟨a1, a2⟩, a3, a4⟩
        exact ⟨⟨by omega, a3⟩, by omega⟩
      · rintro ⟨⟨a1, a3⟩, a4⟩
        exact ⟨⟨by omega, hd⟩, a3, by omega⟩
    · constructor
      · rintro ⟨⟨a1, a2⟩, _⟩
        exact absurd a2 hd
      · rintro ⟨_, a4⟩
        omega
end
def codeF (K : List Ln) : Int := if formL K then (if !crowL K && decide (dL K ≤ 7) then 0 else 7) else 1
theorem q61 (K : List Ln) (v : AV) (m : Mem) (lo hi : Nat) (hs : szL K ≤ 900000) (hall : allL tkOK K = true) (hv : TV m lo hi K v) : callL T11 61 [v] m = some (AV.int .i64 (codeF K), m) := by
  have hF : callL T11 90 [v, AV.int .i64 1, .fn (.func 85) []] m = _ := q90 tkOK m lo hi (fun _ : Unit => m) (fun _ _ _ _ => rfl) 85 [] rfl pvF (fun T b h K kv a d s hT hl _ _ hk ho => q85 T b h K kv a d m hT hl hk ho) 900001 K v 1 () hall (by omega) (by omega) (by omega) hv
  have hC : callL T11 90 [v, AV.int .i64 1, .fn (.func 89) []] m = _ := q90 tkOK m lo hi (fun _ : Unit => m) (fun _ _ _ _ => rfl) 89 [] rfl pvC (fun T b h K kv a d s hT hl _ _ hk ho => q89 T b h kv a d m (by omega) ho) 900001 K v 1 () hall (by omega) (by omega) (by omega) hv
  rw [walkF] at hF
  have hw : (walkS pvC K 1 ()).1 = (!crowL K && decide (dL K ≤ 7)) := by
    have h := walkC K 1 (by omega) (by omega)
    rw [Bool.eq_iff_iff, h]
    simp
  rw [hw] at hC
  unfold codeF
  obtain ⟨⟨es, he, -⟩⟩ := hv.at
  apply callL_body (vf := c61) rfl rfl
  cases h1 : formL K with
  | false =>
    rw [h1] at hF
    simp [c61, he.view, he.nl, hF]
  | true =>
    rw [h1] at hF
    cases h2 : (!crowL K && decide (dL K ≤ 7)) with
    | false =>
      rw [h2] at hC
      simp [c61, he.view, he.nl, hF, hC]
    | true =>
      rw [h2] at hC
      simp [c61, he.view, he.nl, hF, hC]
end Go.Vm.Ch11
