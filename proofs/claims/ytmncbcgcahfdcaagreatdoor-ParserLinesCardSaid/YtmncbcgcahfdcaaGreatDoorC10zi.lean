/- Chapter 10: what its functions compute. -/
import Derived.Test.YtmncbcgcahfdcaaGreatDoorC10zp
namespace Go.Vm.Ch10
open _root_.Ch10 (T10 c27 c28 c54 c55 c56 c57)
set_option maxRecDepth 10000
set_option maxHeartbeats 16000000
/-! ### the same apart from places -/
theorem q57 (s t : Tk) (m : Mem) : callL T10 57 [tv s, tv t] m = some (.bool (tkEq false s t), m) := by
  apply callL_body (vf := c57) rfl rfl
  obtain ⟨sk, st, sn, sa⟩ := s
  obtain ⟨tk, tt, tn, ta⟩ := t
  simp only [tv, et, tkEq]
  by_cases h1 : sk = tk
  · subst h1
    by_cases h2 : st = tt
    · subst h2
      by_cases h3 : sn = tn
      · subst h3
        simp [c57, objCells, -et_def]
      · have hb : (sn == tn) = false := beq_false_of_ne h3
        simp [c57, objCells, h3, hb, -et_def]
    · have hb : (st == tt) = false := beq_false_of_ne h2
      simp [c57, objCells, h2, hb, -et_def]
  · have hb : (sk == tk) = false := beq_false_of_ne h1
    simp [c57, objCells, h1, hb, -et_def]
theorem q56 (T T' : List Tk) (b1 b2 : Bool) (m : Mem) (hl : T.length ≤ 1000000) : callL T10 56 [vv none b1 tv T, vv none b2 tv T', .fn (.func 57) []] m = some (.bool (decide (T.length = T'.length) && toksEq false T T'), m) := by
  apply callL_body (vf := c56) rfl rfl
  by_cases hT : T.length = T'.length
  rotate_left
  · have hTi : ¬ (T.length : Int) = T'.length := by omega
    simp [c56, hT, hTi]
  have hTi : (T.length : Int) = T'.length := by omega
  simp [c56, hT]
  refine wp_loop (fun n t => ∃ i : Nat, n = T.length - i ∧ i ≤ T.length ∧ t.get 1 = vv none b2 tv T' ∧ t.get 2 = .fn (.func 57) [] ∧ t.get 15 = vv none b1 tv T ∧ t.get 16 = AV.int IntKind.i64 (T.length : Nat) ∧ t.get 17 = AV.int IntKind.i64 (i : Nat) ∧ t.mem = m ∧ toksEq false (T.drop i) (T'.drop i) = toksEq false T T') ?_ T.length _ ?_
  rotate_left
  · exact ⟨0, by simp [hTi]⟩
  rintro n t ⟨i, hn, hi, e1, e2, e15, e16, e17, hm, hE⟩
  by_cases hlt : i < T.length
  rotate_left
  · have hli : ¬ (i : Int) < T.length := by omega
    rw [List.drop_eq_nil_of_le (by omega), List.drop_eq_nil_of_le (by omega)] at hE
    simp only [toksEq] at hE
    simp [e15, e16, e17, hm, hli, ← hE]
  have hli : (i : Int) < T.length := by omega
  have hlt2 : i < T'.length := by omega
  have hli2 : (i : Int) < T'.length := by omega
  have hd1 : T.drop i = gi T (i : Int) :: T.drop (i + 1) := by rw [gi_nat hlt]; simp
  have hd2 : T'.drop i = gi T' (i : Int) :: T'.drop (i + 1) := by rw [gi_nat hlt2]; simp
  rw [hd1, hd2] at hE
  simp only [toksEq] at hE
  have h57 := q57 (gi T (i : Int)) (gi T' (i : Int)) m
  have w1 : W64 ((i : Int) + 1) ((i + 1 : Nat) : Int) := .mkI rfl (by omega) (by omega)
  obtain ⟨x, hx⟩ : ∃ x, gi T (i : Int) = x := ⟨_, rfl⟩
  obtain ⟨y, hy⟩ : ∃ y, gi T' (i : Int) = y := ⟨_, rfl⟩
  rw [hx, hy] at hE h57
  obtain ⟨xk, xt, xn, xa⟩ := x
  obtain ⟨yk, yt, yn, ya⟩ := y
  simp only [tv, et] at h57
  cases hb : tkEq false ⟨xk, xt, xn, xa⟩ ⟨yk, yt, yn, ya⟩ with
  | true =>
    rw [hb] at h57 hE
    simp only [Bool.true_and] at hE
    simp [e1, e2, e15, e16, e17, hm, hli, hli2, hx, hy, et, h57, w1.eq, objCells, -et_def, -Int.natCast_add]
    exact ⟨T.length - (i + 1), by omega, i + 1, rfl, by omega, rfl, hE⟩
  | false =>
    rw [hb] at h57 hE
    simp only [Bool.false_and] at hE
    simp [e1, e2, e15, e16, e17, hm, hli, hli2, hx, hy, et, h57, ← hE, objCells, -et_def, -Int.natCast_add]
theorem eqL_ne {p : Bool} : ∀ {A B : List Ln}, A.length ≠ B.length → eqL p A B = false
  | [], [], h => absurd rfl h
  | [], _ :: _, _ => rfl
  | _ :: _, [], _ => rfl
  | x :: A, y :: B, h => by
    rw [eqL, eqL_ne (A := A) (B := B) (by simpa using h), Bool.and_false]
theorem q27 : ∀ (N : Nat) (A B : List Ln) (a b : AV) (m : Mem) (lo hi lo' hi' : Nat), szL A < N → N ≤ 1000000 → TV m lo hi A a → TV m lo' hi' B b → callL T10 27 [a, b] m = some (.bool (eqL false A B), m) := by
  intro N
  induction N with
  | zero => intro A B a b m lo hi lo' hi' h1; omega
  | succ N ih =>
    intro A B a b m lo hi lo' hi' h1 h2 ha hb
    obtain ⟨⟨ea, hea, la, ha'⟩⟩ := ha.at
    obtain ⟨⟨eb, heb, lb, hb'⟩⟩ := hb.at
    -- two lines
    have q55 : ∀ (T T' : List Tk) (n1 n2 h h' : Bool) (K K' : List Ln) (ka kb : AV) (x y : Int), 1 + T.length + szL K ≤ szL A → TV m lo hi K ka.view → TV m lo' hi' K' kb.view → ka.one = true → kb.one = true →
        callL T10 55 [.agg [vv none n1 tv T, .bool h, ka, AV.int IntKind.i64 x], .agg [vv none n2 tv T', .bool h', kb, AV.int IntKind.i64 y]] m = some (.bool (eqN false (.mk T h K x) (.mk T' h' K' y)), m) := by
      intro T T' n1 n2 h h' K K' ka kb x y hs hka hkb oa ob
      have h27 := ih K K' ka.view kb.view m lo hi lo' hi' (by omega) (by omega) hka hkb
      have h56 := q56 T T' n1 n2 m (by omega)
      obtain ⟨⟨eka, heka, -⟩⟩ := hka.at
      obtain ⟨⟨ekb, hekb, -⟩⟩ := hkb.at
      apply callL_body (vf := c55) rfl rfl
      simp only [eqN]
      by_cases k1 : h = h'
      rotate_left
      · have hbq : (h == h') = false := by simpa using k1
        simp [c55, objCells, hbq]
      subst k1
      cases h5 : (decide (T.length = T'.length) && toksEq false T T') with
      | false =>
        rw [h5] at h56
        have : (decide (T.length = T'.length) && toksEq false T T') = false := h5
        simp [c55, objCells, h56]
        intro e _
        simpa [e] using this
      | true =>
        rw [h5] at h56
        simp only [Bool.and_eq_true] at h5
        simp [c55, objCells, h56, heka.view, heka.nl, hekb.view, hekb.nl, h27, h5.1, h5.2]
    -- the lists
    have q54 : callL T10 54 [a, b, .fn (.func 55) []] m = some (.bool (eqL false A B), m) := by
      apply callL_body (vf := c54) rfl rfl
      have hlA := szL_len A
      by_cases hT : A.length = B.length
      rotate_left
      · have hTi : ¬ (ea.length : Int) = eb.length := by omega
        have hf : eqL false A B = false := eqL_ne hT
        simp [c54, hea.view, hea.len, heb.view, heb.len, hTi, hf]
      have hTi : (ea.length : Int) = eb.length := by omega
      simp [c54, hea.view, hea.len, heb.view, heb.len, hTi]
      refine wp_loop (fun n t => ∃ i : Nat, n = A.length - i ∧ i ≤ A.length ∧ t.get 1 = b ∧ t.get 2 = .fn (.func 55) [] ∧ t.get 15 = a ∧ t.get 16 = AV.int IntKind.i64 (A.length : Nat) ∧ t.get 17 = AV.int IntKind.i64 (i : Nat) ∧ t.mem = m ∧ eqL false (A.drop i) (B.drop i) = eqL false A B) ?_ A.length _ ?_
      rotate_left
      · exact ⟨0, by simp [← hTi, la]⟩
      rintro n t ⟨i, hn, hi, e1, e2, e15, e16, e17, hm, hE⟩
      by_cases hlt : i < A.length
      rotate_left
      · have hli : ¬ (i : Int) < A.length := by omega
        rw [List.drop_eq_nil_of_le (by omega), List.drop_eq_nil_of_le (by omega)] at hE
        simp only [eqL] at hE
        simp [e15, e16, e17, hm, hli, ← hE]
      have hli : (i : Int) < A.length := by omega
      have hd1 : A.drop i = gi A (i : Int) :: A.drop (i + 1) := by rw [gi_nat hlt]; simp
      have hd2 : B.drop i = gi B (i : Int) :: B.drop (i + 1) := by rw [gi_nat (by omega)]; simp
      have hsz := szL_get A i hlt
      rw [← gi_nat hlt] at hsz
      rw [hd1, hd2] at hE
      simp only [eqL] at hE
      obtain ⟨nta, ka, hxa, hka⟩ := ha' i (by omega)
      obtain ⟨ntb, kb, hxb, hkb⟩ := hb' i (by omega)
      obtain ⟨pa, pa1, pa2, pa3, pa4, pa5, -⟩ := hea.adr i (by omega)
      obtain ⟨pb, pb1, pb2, pb3, pb4, pb5, -⟩ := heb.adr i (by omega)
      rw [hxa] at pa2
      rw [hxb] at pb2
      have w1 : W64 ((i : Int) + 1) ((i + 1 : Nat) : Int) := .mkI rfl (by omega) (by omega)
      obtain ⟨⟨eka, heka, -⟩⟩ := hka.at
      obtain ⟨⟨ekb, hekb, -⟩⟩ := hkb.at
      have oa : ka.one = true := by rw [← one_view]; exact heka.one
      have ob : kb.one = true := by rw [← one_view]; exact hekb.one
      generalize gi A (i : Int) = x at *
      generalize gi B (i : Int) = y at *
      obtain ⟨T, h, K, ax⟩ := x
      obtain ⟨T', h', K', ay⟩ := y
      simp only [Ln.toks, Ln.head, Ln.kids, Ln.at_] at *
      rw [szN] at hsz
      have h55 := q55 T T' nta ntb h h' K K' ka.view kb.view ax ay (by omega) (by rw [view_view]; exact hka) (by rw [view_view]; exact hkb) (by rw [one_view]; exact oa) (by rw [one_view]; exact ob)
      cases hb : eqN false (.mk T h K ax) (.mk T' h' K' ay) with
      | true =>
        rw [hb] at h55 hE
        simp only [Bool.true_and] at hE
        simp [e1, e2, e15, e16, e17, hm, hli, heb.view, pa1, pa2, pb1, pb2, oa, ob, h55, w1.eq, objCells, -Int.natCast_add]
        exact ⟨A.length - (i + 1), by omega, i + 1, rfl, by omega, rfl, hE⟩
      | false =>
        rw [hb] at h55 hE
        simp only [Bool.false_and] at hE
        simp [e1, e2, e15, e16, e17, hm, hli, heb.view, pa1, pa2, pb1, pb2, oa, ob, h55, ← hE, objCells, -Int.natCast_add]
    apply callL_body (vf := c27) rfl rfl
    simp [c27, hea.view, hea.nl, heb.view, heb.nl, q54]
theorem q28 (A B : List Ln) (a b : AV) (hs : szL A ≤ 1000) (ha : TV [] 0 0 A a) (hb : TV [] 0 0 B b) : callL T10 28 [a, b] [] = some (.bool (eqL false A B), []) := by
  have h12 := q12 1001 false A B a b [] 0 0 0 0 (by omega) (by omega) ha hb
  obtain ⟨⟨ea, hea, -⟩⟩ := ha.at
  obtain ⟨⟨eb, heb, -⟩⟩ := hb.at
  apply callL_body (vf := c28) rfl rfl
  simp [c28, hea.view, hea.nl, heb.view, heb.nl, h12]
end Go.Vm.Ch10
