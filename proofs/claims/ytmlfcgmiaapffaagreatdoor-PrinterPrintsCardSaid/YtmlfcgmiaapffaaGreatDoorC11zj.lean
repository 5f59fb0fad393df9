/- Chapter 11: what its functions compute. -/
import Derived.Test.YtmlfcgmiaapffaaGreatDoorC11zp
namespace Go.Vm.Ch11
open _root_.Ch11 (T11 c90)
set_option maxRecDepth 10000
set_option maxHeartbeats 16000000
theorem els_gen {m : Mem} {lo hi : Nat} {K : List Ln} {v : AV} (h : TV m lo hi K v) : ∃ es, es.length = K.length ∧ (∀ M : Mem, (∀ j, lo < j → j < hi → M[j]? = m[j]?) → ElSl 4 v M es) ∧
    ∀ j (hj : j < es.length), ∃ nt kv, es[j] = [vv none nt tv (gi K (j : Int)).toks, .bool (gi K (j : Int)).head, kv, AV.int .i64 (gi K (j : Int)).at_] ∧ (nt = false → (gi K (j : Int)).toks = []) ∧ TV m lo hi (gi K (j : Int)).kids kv.view ∧ kv.one = true := by
  cases h with
  | mk _ _ nt kv h hnt hk =>
    have h4 : ∀ e ∈ ((List.range K.length).map fun j => [vv none (nt j) tv (gi K (j : Int)).toks, .bool (gi K (j : Int)).head, kv j, AV.int .i64 (gi K (j : Int)).at_]), e.length = 4 := by
      intro e he
      obtain ⟨j, _, rfl⟩ := List.mem_map.1 he
      rfl
    refine ⟨_, by simp, fun M hM => SlAt.el (lo := lo) (hi := hi) ?_ h4, fun j hj => ?_⟩
    · rcases h with h | ⟨i, rest, h1, h2, h3, h5⟩
      · exact .inl h
      · exact .inr ⟨i, rest, h1, h2, h3, by rw [hM i h2 h3]; exact h5⟩
    · have hjk : j < K.length := by simpa using hj
      refine ⟨nt j, kv j, by simp, hnt j hjk, hk j hjk, ?_⟩
      obtain ⟨⟨es, he, -⟩⟩ := (hk j hjk).at
      rw [← one_view]; exact he.one
section
variable {σ : Type}
mutual
def walkS (pv : Ln → Nat → σ → Bool × σ) : List Ln → Nat → σ → Bool × σ
  | [], _, s => (true, s)
  | x :: r, d, s => match walkN pv x d s with
    | (true, s') => walkS pv r d s'
    | (false, s') => (false, s')
def walkN (pv : Ln → Nat → σ → Bool × σ) : Ln → Nat → σ → Bool × σ
  | .mk T h K a, d, s => match pv (.mk T h K a) d s with
    | (true, s') => walkS pv K (d + 1) s'
    | (false, s') => (false, s')
end
theorem q90 (f : Tk → Bool) (m0 : Mem) (lo hi : Nat) (mm : σ → Mem) (hag : ∀ (s : σ) (j : Nat), lo < j → j < hi → (mm s)[j]? = m0[j]?) (g : Nat) (caps : List AV) (hcv : caps.map AV.view = caps) (pv : Ln → Nat → σ → Bool × σ)
    (hv : ∀ (T : List Tk) (b h : Bool) (K : List Ln) (kv : AV) (a : Int) (d : Nat) (s : σ), T.all f = true → 1 + T.length + szL K ≤ 1000000 → d ≤ 2000000 → (b = false → T = []) → TV m0 lo hi K kv.view → kv.one = true → callL T11 g (.agg [vv none b tv T, .bool h, kv, AV.int .i64 a] :: AV.int .i64 (d : Nat) :: caps) (mm s) = some (.bool (pv (.mk T h K a) d s).1, mm (pv (.mk T h K a) d s).2)) :
    ∀ (N : Nat) (K : List Ln) (v : AV) (d : Nat) (s : σ), allL f K = true → szL K < N → N ≤ 1000001 → d + N ≤ 2000000 → TV m0 lo hi K v → callL T11 90 [v, AV.int .i64 (d : Nat), .fn (.func g) caps] (mm s) = some (.bool (walkS pv K d s).1, mm (walkS pv K d s).2) := by
  intro N
  induction N with
  | zero => intro K v d s _ h; omega
  | succ N ih =>
    intro K v d s hall h1 h2 h3 hK
    obtain ⟨es, hel, hEm, hEa⟩ := els_gen hK
    have hlK := szL_len K
    have he := hEm (mm s) (hag s)
    apply callL_body (vf := c90) rfl rfl
    simp [c90, he.view, he.len]
    refine wp_loop (fun n t => ∃ (i : Nat) (s' : σ), n = K.length - i ∧ i ≤ K.length ∧ t.get 1 = AV.int .i64 (d : Nat) ∧ t.get 2 = .fn (.func g) caps ∧ t.get 9 = v ∧ t.get 10 = AV.int .i64 (K.length : Nat) ∧ t.get 11 = AV.int .i64 (i : Nat) ∧ t.mem = mm s' ∧ walkS pv (K.drop i) d s' = walkS pv K d s) ?_ K.length _ ?_
    rotate_left
    · exact ⟨0, s, by simp [hel]⟩
    rintro n t ⟨i, s', hn, hi, e1, e2, e9, e10, e11, hm, hW⟩
    by_cases hlt : i < K.length
    rotate_left
    · have hli : ¬ (i : Int) < K.length := by omega
      rw [List.drop_eq_nil_of_le (by omega)] at hW
      simp only [walkS] at hW
      simp [e9, e10, e11, hm, hli, ← hW]
    have hie : i < es.length := by omega
    have hli : (i : Int) < K.length := by omega
    obtain ⟨nt, kv, hx, hnt, hki, hone⟩ := hEa i hie
    obtain ⟨pa, pa1, pa2, pa3, pa4, pa5, -⟩ := (hEm (mm s') (hag s')).adr i hie
    rw [hx] at pa2
    have hd : K.drop i = gi K (i : Int) :: K.drop (i + 1) := by rw [gi_nat hlt]; simp
    have hsz := szL_get K i hlt
    rw [← gi_nat hlt] at hsz
    rw [hd] at hW
    have hax := allL_at hall (gi K (i : Int)) (by rw [gi_nat hlt]; exact List.getElem_mem _)
    generalize gi K (i : Int) = x at *
    obtain ⟨T, h, K', a⟩ := x
    simp only [Ln.toks, Ln.head, Ln.kids, Ln.at_] at *
    rw [allN, Bool.and_eq_true] at hax
    simp only [walkS, walkN] at hW
    rw [szN] at hsz
    have w1 : W64 ((i : Int) + 1) ((i + 1 : Nat) : Int) := .mkI rfl (by omega) (by omega)
    have w2 : W64 ((d : Int) + 1) ((d + 1 : Nat) : Int) := .mkI rfl (by omega) (by omega)
    have hg := hv T nt h K' kv.view a d s' hax.1 (by omega) (by omega) hnt (by rw [view_view]; exact hki) (by rw [one_view]; exact hone)
    obtain ⟨⟨ek, hek, -⟩⟩ := hki.at
    cases hp : pv (.mk T h K' a) d s' with
    | mk bb s2 =>
      rw [hp] at hg hW
      cases bb with
      | false =>
        simp only at hg hW
        simp [e1, e2, e9, e10, e11, hm, hli, pa1, pa2, hone, hcv, hg, ← hW, objCells]
        skip
      | true =>
        simp only at hg hW
        have hr := ih K' kv.view (d + 1) s2 hax.2 (by omega) (by omega) (by omega) hki
        cases hq : walkS pv K' (d + 1) s2 with
        | mk b3 s3 =>
          rw [hq] at hr hW
          cases b3 with
          | false =>
            simp only at hr hW
            simp [e1, e2, e9, e10, e11, hm, hli, pa1, pa2, hone, hcv, hg, w2.eq, hek.view, hek.nl, hr, ← hW, objCells, -Int.natCast_add]
            skip
          | true =>
            simp only at hr hW
            simp [e1, e2, e9, e10, e11, hm, hli, pa1, pa2, hone, hcv, hg, w1.eq, w2.eq, hek.view, hek.nl, hr, objCells, -Int.natCast_add]
            exact ⟨K.length - (i + 1), by omega, i + 1, rfl, by omega, rfl, s3, rfl, hW⟩
end
mutual
def cL : List Ln → Nat
  | [] => 0
  | x :: r => cN x + cL r
def cN : Ln → Nat
  | .mk _ _ K _ => 1 + cL K
end
mutual
def tL : List Ln → Nat
  | [] => 0
  | x :: r => tN x + tL r
def tN : Ln → Nat
  | .mk T _ K _ => T.length + tL K
end
mutual
def dL : List Ln → Nat
  | [] => 0
  | x :: r => max (dN x) (dL r)
def dN : Ln → Nat
  | .mk _ _ K _ => 1 + dL K
end
mutual
theorem mea_sz : ∀ K : List Ln, cL K + tL K = szL K ∧ dL K ≤ cL K
  | [] => ⟨rfl, Nat.le_refl _⟩
  | x :: r => by
    have h1 := mea_sz r
    have h2 := meaN_sz x
    simp only [cL, tL, dL, szL]
    omega
theorem meaN_sz : ∀ x : Ln, cN x + tN x = szN x ∧ dN x ≤ cN x
  | .mk T h K a => by
    have h1 := mea_sz K
    simp only [cN, tN, dN, szN]
    omega
end
def mmS (m : Mem) (s : Int × Int × Int) : Mem := m ++ [some (LObj.cells false [AV.int .i64 s.1, AV.int .i64 s.2.1, AV.int .i64 s.2.2])]
def pvM (x : Ln) (d : Nat) (s : Int × Int × Int) : Bool × (Int × Int × Int) := (true, (IntKind.wrap .i64 (s.1 + 1), IntKind.wrap .i64 (s.2.1 + (x.toks.length : Nat)), if s.2.2 < (d : Int) then (d : Int) else s.2.2))
mutual
theorem walkM : ∀ (K : List Ln) (d : Nat) (l k e : Nat), l + cL K ≤ 1000000 → k + tL K ≤ 1000000 → 1 ≤ d → d ≤ e + 1 → walkS pvM K d ((l : Int), (k : Int), (e : Int)) = (true, ((l + cL K : Nat) : Int), ((k + tL K : Nat) : Int), ((max e (d - 1 + dL K) : Nat) : Int))
  | [], d, l, k, e, h1, h2, h3, h4 => by
    simp only [walkS, cL, tL, dL, Nat.add_zero]
    rw [show max e (d - 1) = e by omega]
  | x :: r, d, l, k, e, h1, h2, h3, h4 => by
    simp only [cL, tL] at h1 h2
    have hx := walkMN x d l k e (by omega) (by omega) h3 h4
    rw [walkS, hx]
    simp only
    rw [walkM r d (l + cN x) (k + tN x) (max e (d - 1 + dN x)) (by omega) (by omega) h3 (by omega)]
    simp only [cL, tL, dL]
    rw [show l + cN x + cL r = l + (cN x + cL r) by omega, show k + tN x + tL r = k + (tN x + tL r) by omega, show max (max e (d - 1 + dN x)) (d - 1 + dL r) = max e (d - 1 + max (dN x) (dL r)) by omega]
theorem walkMN : ∀ (x : Ln) (d : Nat) (l k e : Nat), l + cN x ≤ 1000000 → k + tN x ≤ 1000000 → 1 ≤ d → d ≤ e + 1 → walkN pvM x d ((l : Int), (k : Int), (e : Int)) = (true, ((l + cN x : Nat) : Int), ((k + tN x : Nat) : Int), ((max e (d - 1 + dN x) : Nat) : Int))
  | .mk T h K a, d, l, k, e, h1, h2, h3, h4 => by
    simp only [cN, tN] at h1 h2
    have w1 : W64 ((l : Int) + 1) ((l + 1 : Nat) : Int) := .mkI rfl (by omega) (by omega)
    have w2 : W64 ((k : Int) + (T.length : Int)) ((k + T.length : Nat) : Int) := .mkI rfl (by omega) (by omega)
    have e1 : (if (e : Int) < (d : Int) then (d : Int) else (e : Int)) = ((max e d : Nat) : Int) := by split <;> omega
    have hp : pvM (.mk T h K a) d ((l : Int), (k : Int), (e : Int)) = (true, ((l + 1 : Nat) : Int), ((k + T.length : Nat) : Int), ((max e d : Nat) : Int)) := by
      simp only [pvM, Ln.toks]
      rw [w1.eq, w2.eq, e1]
    rw [walkN, hp]
    simp only
    rw [walkM K (d + 1) (l + 1) (k + T.length) (max e d) (by omega) (by omega) (by omega) (by omega)]
    simp only [cN, tN, dN]
    rw [show l + 1 + cL K = l + (1 + cL K) by omega, show k + T.length + tL K = k + (T.length + tL K) by omega, show max (max e d) (d + 1 - 1 + dL K) = max e (d - 1 + (1 + dL K)) by omega]
end
end Go.Vm.Ch11
