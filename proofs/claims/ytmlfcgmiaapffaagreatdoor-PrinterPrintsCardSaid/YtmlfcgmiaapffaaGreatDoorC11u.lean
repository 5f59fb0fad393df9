/- Chapter 11: what its functions compute. -/
import Derived.Test.YtmlfcgmiaapffaaGreatDoorC11t
namespace Go.Vm.Ch11
open _root_.Ch11 (T11 c18)
set_option maxRecDepth 10000
set_option maxHeartbeats 16000000
def lb12 : VC := (.seq (.seq (.region [⟨(.some 65), (.move (.t 10)), .none⟩, ⟨(.some 66), (.faddr 0 (.t 8)), .none⟩, ⟨(.some 67), (.load .none (.t 66)), .none⟩, ⟨(.some 68), (.lenSl (.t 67)), .none⟩, ⟨(.some 69), (.bin .lss (.t 65) (.t 68)), .none⟩]) (.cond (.t 69) .skip (.exit 2))) (.seq (.block 3 (.seq (.drawn [⟨(.some 72), (.faddr 0 (.t 8)), .none⟩, ⟨(.some 73), (.load .none (.t 72)), .none⟩, ⟨(.some 74), (.move (.t 10)), .none⟩, ⟨(.some 75), (.iaddrSl 4 (.t 73) (.t 74)), .none⟩, ⟨(.some 76), (.load (.some 4) (.t 75)), .none⟩, ⟨(.some 77), (.faddr 0 (.t 9)), .none⟩, ⟨(.some 78), (.load .none (.t 77)), .none⟩, ⟨(.some 79), (.move (.t 10)), .none⟩, ⟨(.some 80), (.iaddrSl 4 (.t 78) (.t 79)), .none⟩, ⟨(.some 81), (.load (.some 4) (.t 80)), .none⟩, ⟨(.some 11), (.alloc .false [(.int .i64 0), (.str []), (.int .i64 0), (.int .i64 0)]), .none⟩, ⟨(.some 12), (.alloc .false [(.int .i64 0), (.str []), (.int .i64 0), (.int .i64 0)]), .none⟩, ⟨.none, (.store 4 (.t 11) (.t 76)), .none⟩, ⟨.none, (.store 4 (.t 12) (.t 81)), .none⟩] [(.false, ((.t 11), (.t 12))), (.false, ((.t 77), (.t 11))), (.false, ((.t 80), (.t 11)))]) (.seq (.seq (.region [⟨(.some 82), (.move (.t 2)), .none⟩, ⟨(.some 83), (.un .not (.t 82)), .none⟩]) (.cond (.t 83) (.region [⟨(.some 84), (.faddr 3 (.t 12)), .none⟩, ⟨(.some 85), (.load .none (.t 84)), .none⟩, ⟨(.some 86), (.faddr 3 (.t 11)), .none⟩, ⟨.none, (.store 1 (.t 86) (.t 85)), .none⟩]) .skip)) (.seq (.region [⟨(.some 87), (.load (.some 4) (.t 11)), .none⟩, ⟨(.some 88), (.load (.some 4) (.t 12)), .none⟩, ⟨(.some 89), (.eqAgg .true [(0, 0), (1, 1), (2, 0), (3, 0)] (.t 87) (.t 88)), .none⟩]) (.cond (.t 89) (.seq (.region [⟨(.some 6), (.assign (.k (.bool .false))), .none⟩]) .ret) .skip))))) (.region [⟨(.some 70), (.move (.t 10)), .none⟩, ⟨(.some 71), (.bin .add (.t 70) (.k (.int .i64 1))), .none⟩, ⟨(.some 10), (.assign (.t 71)), .none⟩])))
structure S12 (s : St) (a b : AV) (p : Bool) (j : Nat) (m : Mem) (c8 c9 : Nat) (X Y : List AV) : Prop where
  e0 : s.get 0 = a
  e1 : s.get 1 = b
  e2 : s.get 2 = .bool p
  e7 : s.get 7 = AV.int .i64 (j : Nat)
  hm : s.mem = m
  e8 : s.get 8 = .ptr (.loc 8 c8) 0
  e9 : s.get 9 = .ptr (.loc 9 c9) 0
  l8 : (s.loc 8)[c8]? = some (.cells false X)
  l9 : (s.loc 9)[c9]? = some (.cells false Y)
theorem lp12 (a b : AV) (p : Bool) (j : Nat) (m : Mem) (c8 c9 : Nat) (T T' : List Tk) (n1 n2 : Bool) (X Y : List AV) (hT : T.length = T'.length) (hl : T.length ≤ 1000000000) (Q : VExit → St → Prop)
    (hF : ∀ s, toksEq p T T' = false → s.get 6 = .bool false → s.mem = m → Q .ret s)
    (hE : ∀ s, toksEq p T T' = true → S12 s a b p j m c8 c9 (vv none n1 tv T :: X) (vv none n2 tv T' :: Y) → Q (.exit 2) s)
    (s : St) (hs : S12 s a b p j m c8 c9 (vv none n1 tv T :: X) (vv none n2 tv T' :: Y)) (e10 : s.get 10 = AV.int .i64 0) : wp T11 (.loop lb12) s Q := by
  unfold lb12
  refine wp_loop (fun n s => ∃ k : Nat, n = T.length - k ∧ k ≤ T.length ∧ S12 s a b p j m c8 c9 (vv none n1 tv T :: X) (vv none n2 tv T' :: Y) ∧ s.get 10 = AV.int .i64 (k : Nat) ∧ toksEq p (T.drop k) (T'.drop k) = toksEq p T T') ?_ _ s ⟨0, rfl, Nat.zero_le _, hs, by simpa using e10, by simp⟩
  clear hs e10 s
  rintro n s ⟨k, hn, hk, hs, e10, hq⟩
  have e0 := hs.e0
  have e1 := hs.e1
  have e2 := hs.e2
  have e7 := hs.e7
  have e8 := hs.e8
  have e9 := hs.e9
  have l8 := hs.l8
  have l9 := hs.l9
  have hm := hs.hm
  by_cases hlt : k < T.length
  rotate_left
  · have hki : ¬ (k : Int) < T.length := by omega
    rw [List.drop_eq_nil_of_le (by omega), List.drop_eq_nil_of_le (by omega)] at hq
    simp [e8, l8, e10, hki, objCells]
    exact hE _ hq.symm ⟨by simp [e0], by simp [e1], by simp [e2], by simp [e7], by simp [hm], by simp [e8], by simp [e9], by simp [l8], by simp [l9]⟩
  have hki : (k : Int) < T.length := by omega
  have hki2 : (k : Int) < T'.length := by omega
  have w1 : W64 ((k : Int) + 1) ((k + 1 : Nat) : Int) := .mkI rfl (by omega) (by omega)
  have hda : T.drop k = gi T (k : Int) :: T.drop (k + 1) := by rw [gi_nat hlt]; simp
  have hdb : T'.drop k = gi T' (k : Int) :: T'.drop (k + 1) := by rw [gi_nat (by omega)]; simp
  rw [hda, hdb] at hq
  simp only [toksEq, tkEq] at hq
  have h8 := (List.getElem?_eq_some_iff.1 l8).1
  have h9 := (List.getElem?_eq_some_iff.1 l9).1
  obtain ⟨x, hx⟩ : ∃ x, gi T (k : Int) = x := ⟨_, rfl⟩
  obtain ⟨y, hy⟩ : ∃ y, gi T' (k : Int) = y := ⟨_, rfl⟩
  rw [hx, hy] at hq
  obtain ⟨xk, xt, xn, xa⟩ := x
  obtain ⟨yk, yt, yn, ya⟩ := y
  have hno : ∀ s', toksEq p T T' = false → s'.get 6 = .bool false → s'.mem = m → Q .ret s' := hF
  by_cases k1 : xk = yk
  rotate_left
  · have hf : toksEq p T T' = false := by rw [← hq]; simp [k1]
    have hb : (xk == yk) = false := beq_false_of_ne k1
    rcases Bool.eq_false_or_eq_true p with rfl | rfl <;>
      (simp [e8, l8, e9, l9, e2, e10, hki, hki2, hx, hy, objCells, et, -et_def, hb]; exact hno _ hf (by simp) (by simp [hm]))
  subst k1
  by_cases k2 : xt = yt
  rotate_left
  · have hf : toksEq p T T' = false := by rw [← hq]; simp [k2]
    have hb : (xt == yt) = false := beq_false_of_ne k2
    rcases Bool.eq_false_or_eq_true p with rfl | rfl <;>
      (simp [e8, l8, e9, l9, e2, e10, hki, hki2, hx, hy, objCells, et, -et_def, hb]; exact hno _ hf (by simp) (by simp [hm]))
  subst k2
  by_cases k3 : xn = yn
  rotate_left
  · have hf : toksEq p T T' = false := by rw [← hq]; simp [k3]
    have hb : (xn == yn) = false := beq_false_of_ne k3
    rcases Bool.eq_false_or_eq_true p with rfl | rfl <;>
      (simp [e8, l8, e9, l9, e2, e10, hki, hki2, hx, hy, objCells, et, -et_def, hb]; exact hno _ hf (by simp) (by simp [hm]))
  subst k3
  rcases Bool.eq_false_or_eq_true p with rfl | rfl
  · by_cases k4 : xa = ya
    · subst k4
      simp at hq
      simp [e8, l8, e9, l9, e2, e10, hki, hki2, hx, hy, objCells, et, -et_def, w1.eq, -Int.natCast_add]
      exact ⟨T.length - (k + 1), by omega, k + 1, rfl, by omega, ⟨by simp [e0], by simp [e1], by simp [e2], by simp [e7], by simp [hm], by simp [e8], by simp [e9], by simp [l8], by simp [l9]⟩, rfl, hq⟩
    · have hf : toksEq true T T' = false := by rw [← hq]; simp [k4]
      have hb : (xa == ya) = false := beq_false_of_ne k4
      simp [e8, l8, e9, l9, e2, e10, hki, hki2, hx, hy, objCells, et, -et_def, hb]
      exact hno _ hf (by simp) (by simp [hm])
  · simp at hq
    simp [e8, l8, e9, l9, e2, e10, hki, hki2, hx, hy, objCells, et, -et_def, w1.eq, -Int.natCast_add]
    exact ⟨T.length - (k + 1), by omega, k + 1, rfl, by omega, ⟨by simp [e0], by simp [e1], by simp [e2], by simp [e7], by simp [hm], by simp [e8], by simp [e9], by simp [l8], by simp [l9]⟩, rfl, hq⟩
theorem eqL_len {p : Bool} : ∀ {A B : List Ln}, eqL p A B = true → A.length = B.length
  | [], [], _ => rfl
  | [], _ :: _, h => by simp [eqL] at h
  | _ :: _, [], h => by simp [eqL] at h
  | x :: A, y :: B, h => by
    simp only [eqL, Bool.and_eq_true] at h
    simp [eqL_len h.2]
theorem q18 : ∀ (N : Nat) (p : Bool) (A B : List Ln) (a b : AV) (m : Mem) (lo hi lo' hi' : Nat), szL A < N → N ≤ 1000000000 → TV m lo hi A a → TV m lo' hi' B b → callL T11 18 [a, b, .bool p] m = some (.bool (eqL p A B), m) := by
  intro N
  induction N with
  | zero => intro p A B a b m lo hi lo' hi' h; omega
  | succ N ih =>
    intro p A B a b m lo hi lo' hi' hN hb hA hB
    obtain ⟨⟨ea, hea, la, ha⟩⟩ := hA.at
    obtain ⟨⟨eb, heb, lb, hb'⟩⟩ := hB.at
    apply callL_body (vf := c18) rfl rfl
    by_cases hl : A.length = B.length
    rotate_left
    · have hli : ¬ (A.length : Int) = B.length := by omega
      have he : eqL p A B = false := by
        cases hq : eqL p A B with
        | false => rfl
        | true => exact absurd (eqL_len hq) hl
      simp [c18, hea.len, hea.view, heb.len, heb.view, la, lb, hli, he]
    simp [c18, hea.len, hea.view, heb.len, heb.view, la, lb, hl]
    refine wp_loop (fun n t => ∃ j : Nat, n = A.length - j ∧ j ≤ A.length ∧ t.get 0 = a ∧ t.get 1 = b ∧ t.get 2 = .bool p ∧ t.get 7 = AV.int .i64 (j : Nat) ∧ t.mem = m ∧ eqL p (A.drop j) (B.drop j) = eqL p A B) ?_ A.length _ ?_
    rotate_left
    · exact ⟨0, by simp⟩
    rintro n t ⟨j, hn, hj, e0, e1, e2, e7, hm, hE⟩
    by_cases hlt : j < A.length
    rotate_left
    · have hli : ¬ (j : Int) < A.length := by omega
      have hli2 : ¬ (j : Int) < B.length := by omega
      rw [List.drop_eq_nil_of_le (by omega), List.drop_eq_nil_of_le (by omega)] at hE
      simp only [eqL] at hE
      simp [e0, e7, hm, hea.len, hea.view, la, hl, hli2, ← hE]
    have hli : (j : Int) < A.length := by omega
    have hli2 : (j : Int) < B.length := by omega
    obtain ⟨nta, ka, hxa, hka⟩ := ha j (by omega)
    obtain ⟨ntb, kb, hxb, hkb⟩ := hb' j (by omega)
    obtain ⟨pa, pa1, pa2, pa3, pa4, pa5, -⟩ := hea.adr j (by omega)
    obtain ⟨pb, pb1, pb2, pb3, pb4, pb5, -⟩ := heb.adr j (by omega)
    rw [hxa] at pa2
    rw [hxb] at pb2
    obtain ⟨⟨eka, heka, lka, -⟩⟩ := hka.at
    obtain ⟨⟨ekb, hekb, lkb, -⟩⟩ := hkb.at
    have hda : A.drop j = gi A (j : Int) :: A.drop (j + 1) := by rw [gi_nat hlt]; simp
    have hdb : B.drop j = gi B (j : Int) :: B.drop (j + 1) := by rw [gi_nat (by omega)]; simp
    have hsz := szL_get A j hlt
    rw [← gi_nat hlt] at hsz
    rw [hda, hdb] at hE
    simp only [eqL] at hE
    generalize gi A (j : Int) = x at *
    generalize gi B (j : Int) = y at *
    obtain ⟨T, h, K, ax⟩ := x
    obtain ⟨T', h', K', ay⟩ := y
    simp only [Ln.toks, Ln.head, Ln.kids, Ln.at_] at *
    simp only [szN] at hsz
    have hoa : ka.one = true := by rw [← one_view]; exact heka.one
    have hob : kb.one = true := by rw [← one_view]; exact hekb.one
    have hrec := ih p K K' ka.view kb.view m lo hi lo' hi' (by omega) (by omega) hka hkb
    simp only [eqN] at hE
    generalize eqL p K K' = R at *
    by_cases t1 : T.length = T'.length
    rotate_left
    · have t1i : ¬ (T.length : Int) = T'.length := by omega
      have hf : eqL p A B = false := by rw [← hE]; simp [t1]
      simp [e0, e1, e2, e7, hm, hea.len, hea.view, heb.view, la, hli, pa1, pb1, pa2, pb2, pb3, hoa, hob, t1i, hf]
    have t1i : (T.length : Int) = T'.length := by omega
    by_cases t2 : h = h'
    rotate_left
    · have hf : eqL p A B = false := by rw [← hE]; simp [t2]
      simp [e0, e1, e2, e7, hm, hea.len, hea.view, heb.view, la, hli, pa1, pb1, pa2, pb2, pb3, hoa, hob, t1i, t2, hf]
    subst t2
    by_cases t3 : p = true ∧ ax ≠ ay
    · obtain ⟨rfl, t3⟩ := t3
      have hf : eqL true A B = false := by rw [← hE]; simp [t3]
      simp [e0, e1, e2, e7, hm, hea.len, hea.view, heb.view, la, hli, pa1, pb1, pa2, pb2, pb3, hoa, hob, t1i, t3, hf]
    by_cases t4 : R = true
    rotate_left
    · have t4' : R = false := by simpa using t4
      subst t4'
      have hf : eqL p A B = false := by rw [← hE]; simp
      rcases Bool.eq_false_or_eq_true p with rfl | rfl
      · have t3' : ax = ay := Classical.byContradiction fun hc => t3 ⟨rfl, hc⟩
        simp [e0, e1, e2, e7, hm, hea.len, hea.view, heb.view, la, hli, pa1, pb1, pa2, pb2, pb3, hoa, heka.nl, heka.view, hekb.view, hekb.nl, hob, t1i, t3', hf, hrec]
      · simp [e0, e1, e2, e7, hm, hea.len, hea.view, heb.view, la, hli, pa1, pb1, pa2, pb2, pb3, hoa, heka.nl, heka.view, hekb.view, hekb.nl, hob, t1i, hf, hrec]
    subst t4
    have t3' : ¬ (p = true ∧ ¬ ax = ay) := t3
    have hgo : eqL p A B = (toksEq p T T' && eqL p (A.drop (j + 1)) (B.drop (j + 1))) := by
      rw [← hE]
      rcases Bool.eq_false_or_eq_true p with rfl | rfl
      · have : ax = ay := Classical.byContradiction fun hc => t3 ⟨rfl, hc⟩
        simp [t1, this]
      · simp [t1]
    rw [hgo]
    clear hE
    have hln := szL_len A
    have w1 : W64 ((j : Int) + 1) ((j + 1 : Nat) : Int) := .mkI rfl (by omega) (by omega)
    rcases Bool.eq_false_or_eq_true p with rfl | rfl
    · have t3' : ax = ay := Classical.byContradiction fun hc => t3 ⟨rfl, hc⟩
      simp [e0, e1, e2, e7, hm, hea.len, hea.view, heb.view, la, hli, pa1, pb1, pa2, pb2, pb3, hoa, heka.nl, heka.view, hekb.view, hekb.nl, hob, t1i, t3', hrec]
      refine lp12 a b true j m (t.loc 8).length (t.loc 9).length T T' nta ntb [.bool h, ka.view, AV.int .i64 ay] [.bool h, kb.view, AV.int .i64 ay] t1 (by omega) _ ?_ ?_ _ ⟨by simp [e0], by simp [e1], by simp [e2], by simp [e7], by simp, by simp, by simp, by simp, by simp⟩ (by simp)
      · intro u hu g6 gm
        simp [g6, gm, hu]
      · intro u hu hs
        simp [hs.e7, w1.eq, -Int.natCast_add]
        exact ⟨A.length - (j + 1), by omega, j + 1, rfl, by omega, hs.e0, hs.e1, hs.e2, rfl, hs.hm, by rw [hu]; simp⟩
    · skip
      simp [e0, e1, e2, e7, hm, hea.len, hea.view, heb.view, la, hli, pa1, pb1, pa2, pb2, pb3, hoa, heka.nl, heka.view, hekb.view, hekb.nl, hob, t1i, hrec]
      refine lp12 a b false j m (t.loc 8).length (t.loc 9).length T T' nta ntb [.bool h, ka.view, AV.int .i64 ax] [.bool h, kb.view, AV.int .i64 ay] t1 (by omega) _ ?_ ?_ _ ⟨by simp [e0], by simp [e1], by simp [e2], by simp [e7], by simp, by simp, by simp, by simp, by simp⟩ (by simp)
      · intro u hu g6 gm
        simp [g6, gm, hu]
      · intro u hu hs
        simp [hs.e7, w1.eq, -Int.natCast_add]
        exact ⟨A.length - (j + 1), by omega, j + 1, rfl, by omega, hs.e0, hs.e1, hs.e2, rfl, hs.hm, by rw [hu]; simp⟩
end Go.Vm.Ch11
