/- Chapter 10: what its functions compute. -/
import Derived.Test.YtmncbcgcahfdcaaGreatDoorC10zp
namespace Go.Vm.Ch10
open _root_.Ch10 (T10 c27 c28 c54 c55 c56 c57)
set_option maxRecDepth 10000
set_option maxHeartbeats 16000000
theorem q57 (s t : Tk) (m : Mem) : callL T10 57 [tv s, tv t] m = some (.bool (tkEq false s t), m) := by
  apply callL_body (vf := c57) rfl rfl
  obtain ⟨sk, st, sn, sa⟩ := s
  obtain ⟨tk, tt, tn, ta⟩ := t
  simp only [tv, et, tkEq]
  by_cases h1 : sk = tk
  · subst h1
    by_cases h2 : st = tt
    · subst h2
      by_cases h3 : sn = tn
      · subst h3
        simp [c57, objCells, -et_def]
      · have hb : (sn == tn) = false := beq_false_of_ne h3
        simp [c57, objCells, h3, hb, -et_def]
    · have hb : (st == tt) = false := beq_false_of_ne h2
      simp [c57, objCells, h2, hb, -et_def]
  · have hb : (sk == tk) = false := beq_false_of_ne h1
    simp [c57, objCells, h1, hb, -et_def]
theorem q56 (T T' : List Tk) (b1 b2 : Bool) (m : Mem) (hl : T.length ≤ 1000000) : callL T10 56 [vv none b1 tv T, vv none b2 tv T', .fn (.func 57) []] m = some (.bool (decide (T.length = T'.length) && toksEq false T T'), m) := by
  apply callL_body (vf := c56) rfl rfl
  by_cases hT : T.length = T'.length
  rotate_left
  · have hTi : ¬ (T.length : Int) = T'.length := by omega
    simp [c56, hT, hTi]
  have hTi : (T.length : Int) = T'.length := by omega
  simp [c56, hT]
  refine wp_loop (fun n t => ∃ i : Nat, n = T.length - i ∧ i ≤ T.length ∧ t.get 1 = vv none b2 tv T' ∧ t.get 2 = .fn (.func 57) [] ∧ t.get 15 = vv none b1 tv T ∧ t.get 16 = AV.int .i64 (T.length : Nat) ∧ t.get 17 = AV.int .i64 (i : Nat) ∧ t.mem = m ∧ toksEq false (T.drop i) (T'.drop i) = toksEq false T T') ?_ T.length _ ?_
  rotate_left
  · exact ⟨0, by simp [hTi]⟩
  rintro n t ⟨i, hn, hi, e1, e2, e15, e16, e17, hm, hE⟩
  by_cases hlt : i < T.length
  rotate_left
  · have hli : ¬ (i : Int) < T.length := by omega
    rw [List.drop_eq_nil_of_le (by omega), List.drop_eq_nil_of_le (by omega)] at hE
    simp only [toksEq] at hE
    simp [e15, e16, e17, hm, hli, ← hE]
  have hli : (i : Int) < T.length := by omega
  have hlt2 : i < T'.length := by omega
  have hli2 : (i : Int) < T'.length := by omega
  have hd1 : T.drop i = gi T (i : Int) :: T.drop (i + 1) := by rw [gi_nat hlt]; simp
  have hd2 : T'.drop i = gi T' (i : Int) :: T'.drop (i + 1) := by rw [gi_nat hlt2]; simp
  rw [hd1, hd2] at hE
  simp only [toksEq] at hE
  have h57 := q57 (gi T (i : Int)) (gi T' (i : Int)) m
  have w1 : W64 ((i : Int) + 1) ((i + 1 : Nat) : Int) := .mkI rfl (by omega) (by omega)
  obtain ⟨x, hx⟩ : ∃ x, gi T (i : Int) = x := ⟨_, rfl⟩
  obtain ⟨y, hy⟩ : ∃ y, gi T' (i : Int) = y := ⟨_, rfl⟩
  rw [hx, hy] at hE h57
  obtain ⟨xk, xt, xn, xa⟩ := x
  obtain ⟨yk, yt, yn, ya⟩ := y
  simp only [tv, et] at h57
  cases hb : tkEq false ⟨xk, xt, xn, xa⟩ ⟨yk, yt, yn, ya⟩ with
  | true =>
    rw [hb] at h57 hE
    simp only [Bool.true_and] at hE
    simp [e1, e2, e15, e16, e17, hm, hli, hli2, hx, hy, et, h57, w1.eq, objCells, -et_def, -Int.natCast_add]
    exact ⟨T.length - (i + 1), by omega, i + 1, rfl, by omega, rfl, hE⟩
  | false =>
    rw [hb] at h57 hE
    simp only [Bool.false_and] at hE
    simp [e1, e2, e15, e16, e17, hm, hli, hli2, hx, hy, et, h57, ← hE, objCells, -et_def, -Int.natCast_add]
theorem eqL_ne {p : Bool} : ∀ {A B : List Ln}, A.length ≠ B.length → eqL p A B = false
  | [], [], h => absurd rfl h
  | [], _ :: _, _ => rfl
  | _ :: _, [], _ => rfl
  | x :: A, y :: B, h => by
    rw [eqL, eqL_ne (A := A) (B := B) (by simpa using h), Bool.and_false]
theorem q27 : ∀ (N : Nat) (A B : List Ln) (a b : AV) (m : Mem) (lo hi lo' hi' : Nat), szL A < N → N ≤ 1000000 → TV m lo hi A a → TV m lo' hi' B b → callL T10 27 [a, b] m = some (.bool (eqL false A B), m) := by
  intro N
  induction N with
  | zero => intro A B a b m lo hi lo' hi' h1; omega
  | succ N ih =>
    intro A B a b m lo hi lo' hi' h1 h2 ha hb
    obtain ⟨⟨ea, hea, la, ha'⟩⟩ := ha.at
    obtain ⟨⟨eb, heb, lb, hb'⟩⟩ := hb.at
    -- two lines
    have q55 : ∀ (T T' : List Tk) (n1 n2 h h' : Bool) (K K' : List Ln) (ka kb : AV) (x y : Int), 1 + T.length + szL K ≤ szL A → TV m lo hi K ka.view → TV m lo' hi' K' kb.view → ka.one = true → kb.one = true →
        callL T10 55 [.agg [vv none n1 tv T, .bool h, ka, AV.int .i64 x], .agg [vv none n2 tv T', .bool h', kb, AV.int .i64 y]] m = some (.bool (eqN false (.mk T h K x) (.mk T' h' K' y)), m) := by
      intro T T' n1 n2 h h' K K' ka kb x y hs hka hkb oa ob
      have h27 := ih K K' ka.view kb.view m lo hi lo' hi' (by omega) (by omega) hka hkb
      have h56 := q56 T T' n1 n2 m (by omega)
      obtain ⟨⟨eka, heka, -⟩⟩ := hka.at
      obtain ⟨⟨ekb, hekb, -⟩⟩ := hkb.at
      apply callL_body (vf := c55) rfl rfl
      simp only [eqN]
      by_cases k1 : h = h'
      rotate_left
      · have hbq : (h == h') = false := by simpa using k1
        simp [c55, objCells, hbq]
      subst k1
      cases h5 : (decide (T.length = T'.length) && toksEq false T T') with
      | false =>
        rw [h5] at h56
        have : (decide (T.length = T'.length) && toksEq false T T') = false := h5
        simp [c55, objCells, h56]
        intro e _
        simpa [e] using this
      | true =>
        rw [h5] at h56
        simp only [Bool.and_eq_true] at h5
        simp [c55, objCells, h56, heka.view, heka.nl, hekb.view, hekb.nl, h27, h5.1, h5.2]
    -- the lists
    have q54 : callL T10 54 [a, b, .fn (.func 55) []] m = some (.bool (eqL false A B), m) := by
      apply callL_body (vf := c54) rfl rfl
      have hlA := szL_len A
      by_cases hT : A.length = B.length
      rotate_left
      · have hTi : ¬ (ea.length : Int) = eb.length := by omega
        have hf : eqL false A B = false := eqL_ne hT
        simp [c54, hea.view, hea.len, heb.view, heb.len, hTi, hf]
      have hTi : (ea.length : Int) = eb.length := by omega
      simp [c54, hea.view, hea.len, heb.view, heb.len, hTi]
      refine wp_loop (fun n t => ∃ i : Nat, n = A.length - i ∧ i ≤ A.length ∧ t.get 1 = b ∧ t.get 2 = .fn (.func 55) [] ∧ t.get 15 = a ∧ t.get 16 = AV.int .i64 (A.length : Nat) ∧ t.get 17 = AV.int .i64 (i : Nat) ∧ t.mem = m ∧ eqL false (A.drop i) (B.drop i) = eqL false A B) ?_ A.length _ ?_
      rotate_left
      · exact ⟨0, by simp [← hTi, la]⟩
      rintro n t ⟨i, hn, hi, e1, e2, e15, e16, e17, hm, hE⟩
      by_cases hlt : i < A.length
      rotate_left
      · have hli : ¬ (i : Int) < A.length := by omega
        rw [List.drop_eq_nil_of_le (by omega), List.drop_eq_nil_of_le (by omega)] at hE
        simp only [eqL] at hE
        simp [e15, e16, e17, hm, hli, ← hE]
      have hli : (i : Int) < A.length := by omega
      have hd1 : A.drop i = gi A (i : Int) :: A.drop (i + 1) := by rw [gi_nat hlt]; simp
      have hd2 : B.drop i = gi B (i : Int) :: B.drop (i + 1) := by rw [gi_nat (by omega)]; simp
      have hsz := szL_get A i hlt
      rw [← gi_nat hlt] at hsz
      rw [hd1, hd2] at hE
      simp only [eqL] at hE
      obtain ⟨nta, ka, hxa, hka⟩ := ha' i (by omega)
      obtain ⟨ntb, kb, hxb, hkb⟩ := hb' i (by omega)
      obtain ⟨pa, pa1, pa2, pa3, pa4, pa5, -⟩ := hea.adr i (by omega)
      obtain ⟨pb, pb1, pb2, pb3, pb4, pb5, -⟩ := heb.adr i (by omega)
      rw [hxa] at pa2
      rw [hxb] at pb2
      have w1 : W64 ((i : Int) + 1) ((i + 1 : Nat) : Int) := .mkI rfl (by omega) (by omega)
      obtain ⟨⟨eka, heka, -⟩⟩ := hka.at
      obtain ⟨⟨ekb, hekb, -⟩⟩ := hkb.at
      have oa : ka.one = true := by rw [← one_view]; exact heka.one
      have ob : kb.one = true := by rw [← one_view]; exact hekb.one
      generalize gi A (i : Int) = x at *
      generalize gi B (i : Int) = y at *
      obtain ⟨T, h, K, ax⟩ := x
      obtain ⟨T', h', K', ay⟩ := y
      simp only [Ln.toks, Ln.head, Ln.kids, Ln.at_] at *
      rw [szN] at hsz
      have h55 := q55 T T' nta ntb h h' K K' ka.view kb.view ax ay (by omega) (by rw [view_view]; exact hka) (by rw [view_view]; exact hkb) (by rw [one_view]; exact oa) (by rw [one_view]; exact ob)
      cases hb : eqN false (.mk T h K ax) (.mk T' h' K' ay) with
      | true =>
        rw [hb] at h55 hE
        simp only [Bool.true_and] at hE
        simp [e1, e2, e15, e16, e17, hm, hli, heb.view, pa1, pa2, pb1, pb2, oa, ob, h55, w1.eq, objCells, -Int.natCast_add]
        exact ⟨A.length - (i + 1), by omega, i + 1, rfl, by omega, rfl, hE⟩
      | false =>
        rw [hb] at h55 hE
        simp only [Bool.false_and] at hE
        simp [e1, e2, e15, e16, e17, hm, hli, heb.view, pa1, pa2, pb1, pb2, oa, ob, h55, ← hE, objCells, -Int.natCast_add]
    apply callL_body (vf := c27) rfl rfl
    simp [c27, hea.view, hea.nl, heb.view, heb.nl, q54]
theorem q28 (A B : List Ln) (a b : AV) (hs : szL A ≤ 1000) (ha : TV [] 0 0 A a) (hb : TV [] 0 0 B b) : callL T10 28 [a, b] [] = some (.bool (eqL false A B), []) := by
  have h12 := q12 1001 false A B a b [] 0 0 0 0 (by omega) (by omega) ha hb
  obtain ⟨⟨ea, hea, -⟩⟩ := ha.at
  obtain ⟨⟨eb, heb, -⟩⟩ := hb.at
  apply callL_body (vf := c28) rfl rfl
  simp [c28, hea.view, hea.nl, heb.view, heb.nl, h12]
end Go.Vm.Ch10
namespace Go.Vm.Ch10
open _root_.Ch10 (T10 c44 c25 c45 c23)
set_option maxRecDepth 10000
set_option maxHeartbeats 16000000
section
variable {σ : Type}
mutual
def walkS (pv : Ln → Nat → σ → Bool × σ) : List Ln → Nat → σ → Bool × σ
  | [], _, s => (true, s)
  | x :: r, d, s => match walkN pv x d s with
    | (true, s') => walkS pv r d s'
    | (false, s') => (false, s')
def walkN (pv : Ln → Nat → σ → Bool × σ) : Ln → Nat → σ → Bool × σ
  | .mk T h K a, d, s => match pv (.mk T h K a) d s with
    | (true, s') => walkS pv K (d + 1) s'
    | (false, s') => (false, s')
end
theorem q44 (f : Tk → Bool) (mm : σ → Mem) (g : Nat) (caps : List AV) (hcv : caps.map AV.view = caps) (pv : Ln → Nat → σ → Bool × σ)
    (hv : ∀ (T : List Tk) (b h : Bool) (K : List Ln) (kv : AV) (a : Int) (d : Nat) (s : σ), T.all f = true → 1 + T.length + szL K ≤ 1000 → d ≤ 2000 → (b = false → T = []) → TV [] 0 0 K kv.view → kv.one = true → callL T10 g (.agg [vv none b tv T, .bool h, kv, AV.int .i64 a] :: AV.int .i64 (d : Nat) :: caps) (mm s) = some (.bool (pv (.mk T h K a) d s).1, mm (pv (.mk T h K a) d s).2)) :
    ∀ (N : Nat) (K : List Ln) (v : AV) (d : Nat) (s : σ), allL f K = true → szL K < N → N ≤ 1001 → d + N ≤ 2000 → TV [] 0 0 K v → callL T10 44 [v, AV.int .i64 (d : Nat), .fn (.func g) caps] (mm s) = some (.bool (walkS pv K d s).1, mm (walkS pv K d s).2) := by
  intro N
  induction N with
  | zero => intro K v d s _ h; omega
  | succ N ih =>
    intro K v d s hall h1 h2 h3 hK
    obtain ⟨nn, es, hvv, hE, hEm⟩ := els_of hK
    have hlK := szL_len K
    have hel := hE.len
    have he := hE.el
    apply callL_body (vf := c44) rfl rfl
    simp [c44, he.view, he.len]
    refine wp_loop (fun n t => ∃ (i : Nat) (s' : σ), n = K.length - i ∧ i ≤ K.length ∧ t.get 1 = AV.int .i64 (d : Nat) ∧ t.get 2 = .fn (.func g) caps ∧ t.get 9 = v ∧ t.get 10 = AV.int .i64 (K.length : Nat) ∧ t.get 11 = AV.int .i64 (i : Nat) ∧ t.mem = mm s' ∧ walkS pv (K.drop i) d s' = walkS pv K d s) ?_ K.length _ ?_
    rotate_left
    · exact ⟨0, s, by simp [hel]⟩
    rintro n t ⟨i, s', hn, hi, e1, e2, e9, e10, e11, hm, hW⟩
    by_cases hlt : i < K.length
    rotate_left
    · have hli : ¬ (i : Int) < K.length := by omega
      rw [List.drop_eq_nil_of_le (by omega)] at hW
      simp only [walkS] at hW
      simp [e9, e10, e11, hm, hli, ← hW]
    have hie : i < es.length := by omega
    have hli : (i : Int) < K.length := by omega
    obtain ⟨nt, kv, hx, hnt, hki, hone⟩ := hE.at_ i hie
    obtain ⟨pa, pa1, pa2, pa3, pa4, pa5, -⟩ := (hEm (mm s')).adr i hie
    rw [hx] at pa2
    have hd : K.drop i = gi K (i : Int) :: K.drop (i + 1) := by rw [gi_nat hlt]; simp
    have hsz := szL_get K i hlt
    rw [← gi_nat hlt] at hsz
    rw [hd] at hW
    have hax := allL_at hall (gi K (i : Int)) (by rw [gi_nat hlt]; exact List.getElem_mem _)
    generalize gi K (i : Int) = x at *
    obtain ⟨T, h, K', a⟩ := x
    simp only [Ln.toks, Ln.head, Ln.kids, Ln.at_] at *
    rw [allN, Bool.and_eq_true] at hax
    simp only [walkS, walkN] at hW
    rw [szN] at hsz
    have w1 : W64 ((i : Int) + 1) ((i + 1 : Nat) : Int) := .mkI rfl (by omega) (by omega)
    have w2 : W64 ((d : Int) + 1) ((d + 1 : Nat) : Int) := .mkI rfl (by omega) (by omega)
    have hg := hv T nt h K' kv.view a d s' hax.1 (by omega) (by omega) hnt (by rw [view_view]; exact hki) (by rw [one_view]; exact hone)
    obtain ⟨⟨ek, hek, -⟩⟩ := hki.at
    cases hp : pv (.mk T h K' a) d s' with
    | mk bb s2 =>
      rw [hp] at hg hW
      cases bb with
      | false =>
        simp only at hg hW
        simp [e1, e2, e9, e10, e11, hm, hli, pa1, pa2, hone, hcv, hg, ← hW, objCells]
        skip
      | true =>
        simp only at hg hW
        have hr := ih K' kv.view (d + 1) s2 hax.2 (by omega) (by omega) (by omega) hki
        cases hq : walkS pv K' (d + 1) s2 with
        | mk b3 s3 =>
          rw [hq] at hr hW
          cases b3 with
          | false =>
            simp only at hr hW
            simp [e1, e2, e9, e10, e11, hm, hli, pa1, pa2, hone, hcv, hg, w2.eq, hek.view, hek.nl, hr, ← hW, objCells, -Int.natCast_add]
            skip
          | true =>
            simp only at hr hW
            simp [e1, e2, e9, e10, e11, hm, hli, pa1, pa2, hone, hcv, hg, w1.eq, w2.eq, hek.view, hek.nl, hr, objCells, -Int.natCast_add]
            exact ⟨K.length - (i + 1), by omega, i + 1, rfl, by omega, rfl, s3, rfl, hW⟩
end
mutual
def cL : List Ln → Nat
  | [] => 0
  | x :: r => cN x + cL r
def cN : Ln → Nat
  | .mk _ _ K _ => 1 + cL K
end
mutual
def tL : List Ln → Nat
  | [] => 0
  | x :: r => tN x + tL r
def tN : Ln → Nat
  | .mk T _ K _ => T.length + tL K
end
mutual
def dL : List Ln → Nat
  | [] => 0
  | x :: r => max (dN x) (dL r)
def dN : Ln → Nat
  | .mk _ _ K _ => 1 + dL K
end
mutual
theorem mea_sz : ∀ K : List Ln, cL K + tL K = szL K ∧ dL K ≤ cL K
  | [] => ⟨rfl, Nat.le_refl _⟩
  | x :: r => by
    have h1 := mea_sz r
    have h2 := meaN_sz x
    simp only [cL, tL, dL, szL]
    omega
theorem meaN_sz : ∀ x : Ln, cN x + tN x = szN x ∧ dN x ≤ cN x
  | .mk T h K a => by
    have h1 := mea_sz K
    simp only [cN, tN, dN, szN]
    omega
end
theorem q25 : ∀ (N : Nat) (K : List Ln) (v : AV), szL K < N → N ≤ 2000 → TV [] 0 0 K v → callL T10 25 [v] [] = some (.agg [AV.int .i64 (cL K : Nat), AV.int .i64 (tL K : Nat), AV.int .i64 (dL K : Nat)], []) := by
  intro N
  induction N with
  | zero => intro K v h; omega
  | succ N ih =>
    intro K v h1 h2 hK
    obtain ⟨nn, es, hvv, hE, hEm⟩ := els_of hK
    have hlK := szL_len K
    have hel := hE.len
    have he := hE.el
    have hmz := mea_sz K
    apply callL_body (vf := c25) rfl rfl
    simp [c25, objCells]
    refine wp_loop (fun n t => ∃ (i c k d : Nat), n = K.length - i ∧ i ≤ K.length ∧ t.get 0 = v ∧ t.get 2 = .ptr (.loc 2 0) 0 ∧ t.loc 2 = [.cells false [AV.int .i64 0, AV.int .i64 0, AV.int .i64 0]] ∧ t.get 3 = .ptr (.loc 3 0) 0 ∧ t.loc 3 = [.cells false [AV.int .i64 (c : Nat), AV.int .i64 (k : Nat), AV.int .i64 (d : Nat)]] ∧ t.get 4 = AV.int .i64 (i : Nat) ∧ t.mem = [] ∧ c + cL (K.drop i) = cL K ∧ k + tL (K.drop i) = tL K ∧ max d (dL (K.drop i)) = dL K) ?_ K.length _ ?_
    rotate_left
    · refine ⟨0, 0, 0, 0, ?_⟩
      simp
    rintro n t ⟨i, c, k, d, hn, hi, e0, e2, l2, e3, l3, e4, hm, hc, hk, hd⟩
    by_cases hlt : i < K.length
    rotate_left
    · have hli : ¬ (i : Int) < es.length := by omega
      rw [List.drop_eq_nil_of_le (by omega)] at hc hk hd
      simp only [cL, tL, dL, Nat.add_zero, Nat.max_zero] at hc hk hd
      subst hc hk hd
      simp [e0, e2, l2, e3, l3, e4, hm, he.view, he.len, hli, objCells]
    have hie : i < es.length := by omega
    have hli : (i : Int) < es.length := by omega
    obtain ⟨nt, kv, hx, hnt, hki, hone⟩ := hE.at_ i hie
    obtain ⟨pa, pa1, pa2, pa3, pa4, pa5, hfa⟩ := he.adr i hie
    rw [hx] at hfa
    obtain ⟨b0, b01, b02, b03, b04⟩ := hfa 0 _ rfl
    obtain ⟨b2, b21, b22, b23, b24⟩ := hfa 2 _ rfl
    have hdr : K.drop i = gi K (i : Int) :: K.drop (i + 1) := by rw [gi_nat hlt]; simp
    have hsz := szL_get K i hlt
    rw [← gi_nat hlt] at hsz
    rw [hdr] at hc hk hd
    generalize gi K (i : Int) = x at *
    obtain ⟨T, h, K', a⟩ := x
    simp only [Ln.toks, Ln.head, Ln.kids, Ln.at_] at *
    simp only [cL, cN, tL, tN, dL, dN] at hc hk hd
    rw [szN] at hsz
    have hr := ih K' kv.view (by omega) (by omega) hki
    have hmz' := mea_sz K'
    obtain ⟨⟨ek, hek, -⟩⟩ := hki.at
    have w1 : W64 ((i : Int) + 1) ((i + 1 : Nat) : Int) := .mkI rfl (by omega) (by omega)
    have w2 : W64 (1 + (cL K' : Int)) ((1 + cL K' : Nat) : Int) := .mkI (by omega) (by omega) (by omega)
    have w3 : W64 ((c : Int) + ((1 + cL K' : Nat) : Int)) ((c + (1 + cL K') : Nat) : Int) := .mkI (by omega) (by omega) (by omega)
    have w4 : W64 ((T.length : Int) + (tL K' : Int)) ((T.length + tL K' : Nat) : Int) := .mkI (by omega) (by omega) (by omega)
    have w5 : W64 ((k : Int) + ((T.length + tL K' : Nat) : Int)) ((k + (T.length + tL K') : Nat) : Int) := .mkI (by omega) (by omega) (by omega)
    have w6 : W64 (1 + (dL K' : Int)) ((1 + dL K' : Nat) : Int) := .mkI (by omega) (by omega) (by omega)
    simp [e0, e2, l2, e3, l3, e4, hm, he.view, he.len, hli, pa1, b01, b02, b21, b22, hek.view, hek.nl, hr, w1.eq, w2.eq, w3.eq, w4.eq, w5.eq, w6.eq, objCells, -Int.natCast_add]
    exact ⟨K.length - (i + 1), by omega, i + 1, rfl, by omega, _, _, max d (1 + dL K'), ⟨rfl, rfl, by split <;> omega⟩, rfl, by omega, by omega, by omega⟩
def mmS (m : Mem) (s : Int × Int × Int) : Mem := m ++ [some (LObj.cells false [AV.int .i64 s.1, AV.int .i64 s.2.1, AV.int .i64 s.2.2])]
def pvM (x : Ln) (d : Nat) (s : Int × Int × Int) : Bool × (Int × Int × Int) := (true, (IntKind.wrap .i64 (s.1 + 1), IntKind.wrap .i64 (s.2.1 + (x.toks.length : Nat)), if s.2.2 < (d : Int) then (d : Int) else s.2.2))
theorem q45 (m : Mem) (T : List Tk) (b h : Bool) (K : List Ln) (kv : AV) (a : Int) (d : Nat) (s : Int × Int × Int) (_ : kv.one = true) :
    callL T10 45 (.agg [vv none b tv T, .bool h, kv, AV.int .i64 a] :: AV.int .i64 (d : Nat) :: [.ptr (.mem m.length) 0]) (mmS m s) = some (.bool (pvM (.mk T h K a) d s).1, mmS m (pvM (.mk T h K a) d s).2) := by
  obtain ⟨l, k, e⟩ := s
  apply callL_body (vf := c45) rfl rfl
  simp only [mmS, pvM, Ln.toks]
  simp [c45, objCells, memO]
  skip
mutual
theorem walkM : ∀ (K : List Ln) (d : Nat) (l k e : Nat), l + cL K ≤ 1000000 → k + tL K ≤ 1000000 → 1 ≤ d → d ≤ e + 1 → walkS pvM K d ((l : Int), (k : Int), (e : Int)) = (true, ((l + cL K : Nat) : Int), ((k + tL K : Nat) : Int), ((max e (d - 1 + dL K) : Nat) : Int))
  | [], d, l, k, e, h1, h2, h3, h4 => by
    simp only [walkS, cL, tL, dL, Nat.add_zero]
    rw [show max e (d - 1) = e by omega]
  | x :: r, d, l, k, e, h1, h2, h3, h4 => by
    simp only [cL, tL] at h1 h2
    have hx := walkMN x d l k e (by omega) (by omega) h3 h4
    rw [walkS, hx]
    simp only
    rw [walkM r d (l + cN x) (k + tN x) (max e (d - 1 + dN x)) (by omega) (by omega) h3 (by omega)]
    simp only [cL, tL, dL]
    rw [show l + cN x + cL r = l + (cN x + cL r) by omega, show k + tN x + tL r = k + (tN x + tL r) by omega, show max (max e (d - 1 + dN x)) (d - 1 + dL r) = max e (d - 1 + max (dN x) (dL r)) by omega]
theorem walkMN : ∀ (x : Ln) (d : Nat) (l k e : Nat), l + cN x ≤ 1000000 → k + tN x ≤ 1000000 → 1 ≤ d → d ≤ e + 1 → walkN pvM x d ((l : Int), (k : Int), (e : Int)) = (true, ((l + cN x : Nat) : Int), ((k + tN x : Nat) : Int), ((max e (d - 1 + dN x) : Nat) : Int))
  | .mk T h K a, d, l, k, e, h1, h2, h3, h4 => by
    simp only [cN, tN] at h1 h2
    have w1 : W64 ((l : Int) + 1) ((l + 1 : Nat) : Int) := .mkI rfl (by omega) (by omega)
    have w2 : W64 ((k : Int) + (T.length : Int)) ((k + T.length : Nat) : Int) := .mkI rfl (by omega) (by omega)
    have e1 : (if (e : Int) < (d : Int) then (d : Int) else (e : Int)) = ((max e d : Nat) : Int) := by split <;> omega
    have hp : pvM (.mk T h K a) d ((l : Int), (k : Int), (e : Int)) = (true, ((l + 1 : Nat) : Int), ((k + T.length : Nat) : Int), ((max e d : Nat) : Int)) := by
      simp only [pvM, Ln.toks]
      rw [w1.eq, w2.eq, e1]
    rw [walkN, hp]
    simp only
    rw [walkM K (d + 1) (l + 1) (k + T.length) (max e d) (by omega) (by omega) (by omega) (by omega)]
    simp only [cN, tN, dN]
    rw [show l + 1 + cL K = l + (1 + cL K) by omega, show k + T.length + tL K = k + (T.length + tL K) by omega, show max (max e d) (d + 1 - 1 + dL K) = max e (d - 1 + (1 + dL K)) by omega]
end
theorem q23 (K : List Ln) (v : AV) (m : Mem) (hs : szL K ≤ 900) (hv : TV [] 0 0 K v) : ∃ m', callL T10 23 [v] m = some (.agg [AV.int .i64 (cL K : Nat), AV.int .i64 (tL K : Nat), AV.int .i64 (dL K : Nat)], m') := by
  have hmz := mea_sz K
  have h44 : callL T10 44 [v, AV.int .i64 1, .fn (.func 45) [.ptr (.mem m.length) 0]] (mmS m (0, 0, 0)) = _ := q44 (fun _ => true) (mmS m) 45 [.ptr (.mem m.length) 0] rfl pvM (fun T b h K kv a d s _ _ _ _ _ ho => q45 m T b h K kv a d s ho) 901 K v 1 ((0 : Nat), (0 : Nat), (0 : Nat)) (allL_true K) (by omega) (by omega) (by omega) hv
  rw [walkM K 1 0 0 0 (by omega) (by omega) (by omega) (by omega)] at h44
  simp only [mmS, Nat.zero_add, Nat.sub_self, Nat.zero_max] at h44
  obtain ⟨⟨es, he, -⟩⟩ := hv.at
  apply callL_ex3 (vf := c23) rfl rfl
  simp [c23, he.view, he.nl, h44, objCells, memO]
end Go.Vm.Ch10
