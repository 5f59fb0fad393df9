/- Chapter 11: what its functions compute. -/
import Derived.Test.YtmlfcgmiaapffaaGreatDoorC11zl
import Derived.Test.YtmlfcgmiaapffaaGreatDoorC11zs
import Derived.Test.YtmlfcgmiaapffaaGreatDoorC11zj
namespace Go.Vm.Ch11
open _root_.Ch11 (T11 c57 c58 c39)
set_option maxRecDepth 10000
set_option maxHeartbeats 16000000
theorem q58 : ∀ (N : Nat) (K : List Ln) (v : AV), szL K < N → N ≤ 300000 → TV [] 0 0 K v → callL T11 58 [v] [] = some (.bool (crowL K), []) := by
  intro N
  induction N with
  | zero => intro K v h; omega
  | succ N ih =>
    intro K v h1 h2 hK
    obtain ⟨nn, es, hvv, hE, hEm⟩ := els_of hK
    have hlK := szL_len K
    have hel := hE.len
    have he := hE.el
    apply callL_body (vf := c58) rfl rfl
    simp [c58]
    refine wp_loop (fun n t => ∃ (i : Nat), n = K.length - i ∧ i ≤ K.length ∧ t.get 0 = v ∧ t.get 3 = AV.int .i64 (i : Nat) ∧ t.mem = [] ∧ crowL (K.drop i) = crowL K) ?_ K.length _ ?_
    rotate_left
    · exact ⟨0, by simp⟩
    rintro n t ⟨i, hn, hi, e0, e3, hm, hC⟩
    by_cases hlt : i < K.length
    rotate_left
    · have hli : ¬ (i : Int) < es.length := by omega
      rw [List.drop_eq_nil_of_le (by omega)] at hC
      simp only [crowL] at hC
      simp [e0, e3, hm, he.view, he.len, hli, ← hC]
    have hie : i < es.length := by omega
    have hli : (i : Int) < es.length := by omega
    obtain ⟨nt, kv, hx, hnt, hki, hone⟩ := hE.at_ i hie
    obtain ⟨pa, pa1, pa2, pa3, pa4, pa5, hfa⟩ := he.adr i hie
    rw [hx] at hfa
    obtain ⟨b0, b01, b02, b03, b04⟩ := hfa 0 _ rfl
    obtain ⟨b1, b11, b12, b13, b14⟩ := hfa 1 _ rfl
    obtain ⟨b2, b21, b22, b23, b24⟩ := hfa 2 _ rfl
    have hdr : K.drop i = gi K (i : Int) :: K.drop (i + 1) := by rw [gi_nat hlt]; simp
    have hsz := szL_get K i hlt
    rw [← gi_nat hlt] at hsz
    rw [hdr] at hC
    generalize gi K (i : Int) = x at *
    obtain ⟨T, h, K', a⟩ := x
    simp only [Ln.toks, Ln.head, Ln.kids, Ln.at_] at *
    simp only [crowL, crowN] at hC
    rw [szN] at hsz
    have hr := ih K' kv.view (by omega) (by omega) hki
    obtain ⟨⟨ek, hek, -⟩⟩ := hki.at
    have w1 : W64 ((i : Int) + 1) ((i + 1 : Nat) : Int) := .mkI rfl (by omega) (by omega)
    have w2 : W64 ((T.length : Int) + 1) ((T.length + 1 : Nat) : Int) := .mkI rfl (by omega) (by omega)
    obtain ⟨q, hq⟩ : ∃ q, T.length + (if h then 1 else 0) = q := ⟨_, rfl⟩
    rw [hq] at hC
    have next : crowL (K.drop (i + 1)) = crowL K → ∃ n', n' < n ∧ ∃ i', n' = K.length - i' ∧ i' ≤ K.length ∧ ((i + 1 : Nat) : Int) = (i' : Nat) ∧ crowL (K.drop i') = crowL K := fun hh => ⟨K.length - (i + 1), by omega, i + 1, rfl, by omega, rfl, hh⟩
    by_cases hbig : 64 < q
    · simp only [hbig, decide_true, Bool.true_or] at hC
      cases h with
      | true =>
        simp only [if_true] at hq
        have hb : (64 : Int) < ((T.length + 1 : Nat) : Int) := by omega
        simp [e0, e3, hm, he.view, he.len, hli, pa1, b01, b02, b11, b12, b21, b22, w2.eq, hb, ← hC, -Int.natCast_add]
      | false =>
        simp only [Bool.false_eq_true, if_false, Nat.add_zero] at hq
        have hb : (64 : Int) < (T.length : Int) := by omega
        simp [e0, e3, hm, he.view, he.len, hli, pa1, b01, b02, b11, b12, b21, b22, hb, ← hC, -Int.natCast_add]
    · simp only [hbig, decide_false, Bool.false_or] at hC
      cases hk : crowL K' with
      | true =>
        rw [hk] at hr hC
        simp only [Bool.true_or] at hC
        cases h with
        | true =>
          simp only [if_true] at hq
          have hb : ¬ (64 : Int) < ((T.length + 1 : Nat) : Int) := by omega
          simp [e0, e3, hm, he.view, he.len, hli, pa1, b01, b02, b11, b12, b21, b22, w2.eq, hb, hek.view, hek.nl, hr, ← hC, -Int.natCast_add]
        | false =>
          simp only [Bool.false_eq_true, if_false, Nat.add_zero] at hq
          have hb : ¬ (64 : Int) < (T.length : Int) := by omega
          simp [e0, e3, hm, he.view, he.len, hli, pa1, b01, b02, b11, b12, b21, b22, hb, hek.view, hek.nl, hr, ← hC, -Int.natCast_add]
      | false =>
        rw [hk] at hr hC
        simp only [Bool.false_or] at hC
        cases h with
        | true =>
          simp only [if_true] at hq
          have hb : ¬ (64 : Int) < ((T.length + 1 : Nat) : Int) := by omega
          simp [e0, e3, hm, he.view, he.len, hli, pa1, b01, b02, b11, b12, b21, b22, w1.eq, w2.eq, hb, hek.view, hek.nl, hr, -Int.natCast_add]
          exact next hC
        | false =>
          simp only [Bool.false_eq_true, if_false, Nat.add_zero] at hq
          have hb : ¬ (64 : Int) < (T.length : Int) := by omega
          simp [e0, e3, hm, he.view, he.len, hli, pa1, b01, b02, b11, b12, b21, b22, w1.eq, hb, hek.view, hek.nl, hr, -Int.natCast_add]
          exact next hC
end Go.Vm.Ch11
namespace Go.Vm.Ch11
open _root_.Ch11 (T11 c44 c45)
set_option maxRecDepth 10000
set_option maxHeartbeats 16000000
theorem spl_len {k : Int} {t : List UInt8} {n : Int} (hn : inI n) (ht : t.length ≤ 200) : (spl k t n).length ≤ 202 := by
  unfold spl
  have := itoa_small hn
  split
  · omega
  · split
    · simp; omega
    · omega
theorem q44a (k : Int) (t : List UInt8) (n a : Int) (hn : inI n) (ht : t.length ≤ 100) (m : Mem) : callL T11 44 [.agg [AV.int .i64 k, .str t, AV.int .i64 n, AV.int .i64 a]] m = some (.bool (valP k t n), m) := by
  have h35 := q45 k t n a hn (by omega) []
  have hti : ¬ (100 : Int) < t.length := by omega
  have hsl := spl_len (k := k) (t := t) hn (by omega)
  have hvr := val_ref k t n
  unfold refV at hvr
  apply callL_body (vf := c44) rfl rfl
  generalize spl k t n = s at *
  cases s with
  | nil =>
    have hv : valP k t n = false := by rw [← hvr]; rfl
    rw [hv]
    simp [c44, hti, h35, objCells]
  | cons c r =>
    have h28 := q69 (c :: r) (by omega) 0 (by simp) []
    unfold RefTok at h28
    simp only [List.drop_zero] at h28
    obtain ⟨tk, tt, tn, ta, te, h28, hq⟩ := h28
    have h28' : callL T11 69 [.str (c :: r), AV.int .i64 0] [] = some (.tup [.agg [AV.int .i64 tk, .str tt, AV.int .i64 tn, AV.int .i64 ta], AV.int .i64 te, AV.int .i64 (lexT (c :: r)).e], []) := h28
    by_cases c77 : (c.toNat : Int) = 32
    · have hv : valP k t n = false := by
        rw [← hvr]
        have : (lexT (c :: r)).e = 2 := by
          have hm : c = 32 := UInt8.toNat_inj.1 (by show c.toNat = 32; omega)
          subst hm
          simp [lexT, lxE, letterN, dg, sgB]
        rw [this]; rfl
      rw [hv]
      simp [c44, hti, h35, c77, objCells]
    by_cases c45' : (c.toNat : Int) = 35
    · have hv : valP k t n = false := by
        rw [← hvr]
        have : (lexT (c :: r)).e = 2 := by
          have hm : c = 35 := UInt8.toNat_inj.1 (by show c.toNat = 35; omega)
          subst hm
          simp [lexT, lxE, letterN, dg, sgB]
        rw [this]; rfl
      rw [hv]
      simp [c44, hti, h35, c45', objCells]
    generalize lexT (c :: r) = X at *
    by_cases he : X.e = 0
    · obtain ⟨rfl, rfl, rfl, rfl, rfl⟩ := hq he
      rw [← hvr]
      by_cases hl : X.l = (c :: r).length
      · have hli : ((0 + X.l : Nat) : Int) = (((c :: r).length : Nat) : Int) := by omega
        by_cases e1 : X.k = k
        · by_cases e2 : X.t = t
          · by_cases e3 : X.n = n
            · simp [c44, hti, h35, c77, c45', h28', he, hl, e1, e2, e3, objCells]
            · have b3 : (X.n == n) = false := beq_false_of_ne e3
              simp [c44, hti, h35, c77, c45', h28', he, hl, e1, e2, b3, e3, objCells]
          · have b2 : (X.t == t) = false := beq_false_of_ne e2
            simp [c44, hti, h35, c77, c45', h28', he, hl, e1, b2, e2, objCells]
        · have b1 : (X.k == k) = false := beq_false_of_ne e1
          simp [c44, hti, h35, c77, c45', h28', he, hl, b1, e1, objCells]
      · have hli : ¬ ((X.l : Nat) : Int) = (((c :: r).length : Nat) : Int) := by omega
        have hl' : ¬ X.l = r.length + 1 := by simpa using hl
        have hli' : ¬ ((X.l : Nat) : Int) = (r.length : Int) + 1 := by omega
        simp [c44, hti, h35, c77, c45', h28', he, hl', hli', objCells]
    · rw [← hvr]
      simp [c44, hti, h35, c77, c45', h28', he, objCells]
theorem val_long {k : Int} {t : List UInt8} {n : Int} (h : 100 < t.length) : valP k t n = false := by
  unfold valP
  split
  · have : decide (t.length ≤ 40) = false := by simp; omega
    simp [this]
  · split
    · have : decide (t = []) = false := by
        simp; intro e; subst e; simp at h
      simp [this]
    · split
      · have : labelOK t = false := by
          unfold labelOK
          have : decide (1 ≤ t.length ∧ t.length ≤ 40) = false := by simp; omega
          rw [this]; rfl
        simp [this]
      · split
        · have : decide (t.length = 1) = false := by simp; omega
          simp [this]
        · rfl
theorem q44 (k : Int) (t : List UInt8) (n a : Int) (hn : inI n) (m : Mem) : callL T11 44 [.agg [AV.int .i64 k, .str t, AV.int .i64 n, AV.int .i64 a]] m = some (.bool (valP k t n), m) := by
  by_cases h : 100 < t.length
  · have hti : (100 : Int) < t.length := by omega
    rw [val_long h]
    apply callL_body (vf := c44) rfl rfl
    simp [c44, hti, objCells]
  · exact q44a k t n a hn (by omega) m
end Go.Vm.Ch11
namespace Go.Vm.Ch11
open _root_.Ch11 (T11 c57 c39)
set_option maxRecDepth 10000
set_option maxHeartbeats 16000000
def lb52 : VC := (.seq (.seq (.region [⟨(.some 53), (.move (.t 6)), .none⟩, ⟨(.some 54), (.move (.t 5)), .none⟩, ⟨(.some 55), (.bin .lss (.t 53) (.t 54)), .none⟩]) (.cond (.t 55) .skip (.exit 2))) (.seq (.block 3 (.seq (.region [⟨(.some 58), (.faddr 0 (.t 4)), .none⟩, ⟨(.some 59), (.load .none (.t 58)), .none⟩, ⟨(.some 60), (.move (.t 6)), .none⟩, ⟨(.some 61), (.iaddrSl 4 (.t 59) (.t 60)), .none⟩, ⟨(.some 62), (.load (.some 4) (.t 61)), .none⟩, ⟨(.some 63), (.callP (.k (.fn (.func 44) [])) [(.t 62)]), .none⟩, ⟨(.some 64), (.un .not (.t 63)), .none⟩]) (.cond (.t 64) (.seq (.region [⟨(.some 2), (.assign (.k (.bool .false))), .none⟩]) .ret) .skip))) (.region [⟨(.some 56), (.move (.t 6)), .none⟩, ⟨(.some 57), (.bin .add (.t 56) (.k (.int .i64 1))), .none⟩, ⟨(.some 6), (.assign (.t 57)), .none⟩])))
structure S52 (s : St) (v : AV) (i c4 : Nat) (nt h : Bool) (T : List Tk) (kv : AV) (a : Int) : Prop where
  e0 : s.get 0 = v
  e3 : s.get 3 = AV.int .i64 (i : Nat)
  e4 : s.get 4 = .ptr (.loc 4 c4) 0
  e5 : s.get 5 = AV.int .i64 (T.length : Nat)
  hm : s.mem = []
  l4 : (s.loc 4)[c4]? = some (.cells false [vv none nt tv T, .bool h, kv, AV.int .i64 a])
theorem lp52 (v : AV) (i c4 : Nat) (nt h : Bool) (T : List Tk) (kv : AV) (a : Int) (hl : T.length ≤ 250001000) (hT : ∀ p ∈ T, p.t.length ≤ 200 ∧ inI p.n) (Q : VExit → St → Prop)
    (hF : ∀ s, T.all vT = false → s.get 2 = .bool false → s.mem = [] → Q .ret s)
    (hE : ∀ s, T.all vT = true → S52 s v i c4 nt h T kv a → Q (.exit 2) s)
    (s : St) (hs : S52 s v i c4 nt h T kv a) (e6 : s.get 6 = AV.int .i64 0) : wp T11 (.loop lb52) s Q := by
  unfold lb52
  refine wp_loop (fun n s => ∃ k : Nat, n = T.length - k ∧ k ≤ T.length ∧ S52 s v i c4 nt h T kv a ∧ s.get 6 = AV.int .i64 (k : Nat) ∧ (T.drop k).all vT = T.all vT) ?_ _ s ⟨0, rfl, Nat.zero_le _, hs, by simpa using e6, by simp⟩
  clear hs e6 s
  rintro n s ⟨k, hn, hk, hs, e6, hA⟩
  have e0 := hs.e0
  have e3 := hs.e3
  have e4 := hs.e4
  have e5 := hs.e5
  have hm := hs.hm
  have l4 := hs.l4
  by_cases hlt : k < T.length
  rotate_left
  · have hki : ¬ (k : Int) < T.length := by omega
    rw [List.drop_eq_nil_of_le (by omega)] at hA
    simp [e5, e6, hki]
    exact hE _ hA.symm ⟨by simp [e0], by simp [e3], by simp [e4], by simp [e5], by simp [hm], by simp [l4]⟩
  have hki : (k : Int) < T.length := by omega
  have w1 : W64 ((k : Int) + 1) ((k + 1 : Nat) : Int) := .mkI rfl (by omega) (by omega)
  have hd : T.drop k = gi T (k : Int) :: T.drop (k + 1) := by rw [gi_nat hlt]; simp
  have hmem : gi T (k : Int) ∈ T := by rw [gi_nat hlt]; exact List.getElem_mem _
  rw [hd, List.all_cons] at hA
  obtain ⟨x, hx⟩ : ∃ x, gi T (k : Int) = x := ⟨_, rfl⟩
  rw [hx] at hA hmem
  obtain ⟨xk, xt, xn, xa⟩ := x
  have h73 := q44 xk xt xn xa (hT _ hmem).2 []
  cases hv : vT ⟨xk, xt, xn, xa⟩ with
  | true =>
    rw [hv] at hA
    simp only [vT] at hv
    rw [hv] at h73
    simp only [Bool.true_and] at hA
    simp [e4, e5, e6, l4, hki, hx, et, h73, w1.eq, objCells, -et_def, -Int.natCast_add]
    exact ⟨T.length - (k + 1), by omega, k + 1, rfl, by omega, ⟨by simp [e0], by simp [e3], by simp [e4], by simp [e5], by simp [hm], by simp [l4]⟩, rfl, hA⟩
  | false =>
    rw [hv] at hA
    simp only [vT] at hv
    rw [hv] at h73
    simp only [Bool.false_and] at hA
    simp [e4, e5, e6, l4, hki, hx, et, h73, objCells, -et_def, -Int.natCast_add]
    exact hF _ hA.symm (by simp) (by simp [hm])
theorem q57 : ∀ (N : Nat) (K : List Ln) (v : AV), szL K < N → N ≤ 300000 → allL tkOK K = true → TV [] 0 0 K v → callL T11 57 [v] [] = some (.bool (formL K), []) := by
  intro N
  induction N with
  | zero => intro K v h; omega
  | succ N ih =>
    intro K v h1 h2 hall hK
    obtain ⟨nn, es, hvv, hE, hEm⟩ := els_of hK
    have hlK := szL_len K
    have hel := hE.len
    have he := hE.el
    apply callL_body (vf := c57) rfl rfl
    simp [c57]
    refine wp_loop (fun n t => ∃ (i : Nat), n = K.length - i ∧ i ≤ K.length ∧ t.get 0 = v ∧ t.get 3 = AV.int .i64 (i : Nat) ∧ t.mem = [] ∧ formL (K.drop i) = formL K) ?_ K.length _ ?_
    rotate_left
    · exact ⟨0, by simp⟩
    rintro n t ⟨i, hn, hi, e0, e3, hm, hC⟩
    by_cases hlt : i < K.length
    rotate_left
    · have hli : ¬ (i : Int) < es.length := by omega
      rw [List.drop_eq_nil_of_le (by omega)] at hC
      simp only [formL] at hC
      simp [e0, e3, hm, he.view, he.len, hli, ← hC]
    have hie : i < es.length := by omega
    have hli : (i : Int) < es.length := by omega
    obtain ⟨nt, kv, hx, hnt, hki, hone⟩ := hE.at_ i hie
    obtain ⟨pa, pa1, pa2, pa3, pa4, pa5, -⟩ := he.adr i hie
    rw [hx] at pa2
    have hdr : K.drop i = gi K (i : Int) :: K.drop (i + 1) := by rw [gi_nat hlt]; simp
    have hax := allL_at hall (gi K (i : Int)) (by rw [gi_nat hlt]; exact List.getElem_mem _)
    have hsz := szL_get K i hlt
    rw [← gi_nat hlt] at hsz
    rw [hdr] at hC
    generalize gi K (i : Int) = x at *
    obtain ⟨T, h, K', a⟩ := x
    simp only [Ln.toks, Ln.head, Ln.kids, Ln.at_] at *
    rw [allN, Bool.and_eq_true] at hax
    simp only [formL, formN, formP] at hC
    rw [szN] at hsz
    have hr := ih K' kv.view (by omega) (by omega) hax.2 hki
    obtain ⟨⟨ek, hek, lk, -⟩⟩ := hki.at
    have w1 : W64 ((i : Int) + 1) ((i + 1 : Nat) : Int) := .mkI rfl (by omega) (by omega)
    have hTk := all_txt hax.1
    rcases List.eq_nil_or_concat T with rfl | ⟨T0, p, hTp⟩
    · simp only [ne_eq, not_true_eq_false, decide_false, Bool.false_and] at hC
      simp [e0, e3, hm, he.view, he.len, hli, pa1, pa2, hone, ← hC, objCells]
    rw [List.concat_eq_append] at hTp
    have hTl : ¬ (T.length : Int) = 0 := by rw [hTp]; simp; omega
    have hTz : ¬ T = [] := by rw [hTp]; simp
    have hne : decide (T ≠ []) = true := by simp [hTz]
    have hlast : lastC T = isCol p := by rw [hTp]; simp [lastC]
    have hlT : T.length = T0.length + 1 := by rw [hTp]; simp
    have w2 : W64 ((T.length : Int) - 1) ((T0.length : Nat) : Int) := .mkI (by omega) (by omega) (by omega)
    have hgl : gi T ((T0.length : Nat) : Int) = p := by rw [hTp]; exact gi_app_eq
    have hlt2 : T0.length < T.length := by omega
    have hlti : ((T0.length : Nat) : Int) < (T.length : Int) := by omega
    have hkl : decide (K' = []) = decide (ek.length = 0) := by
      rw [lk, Bool.eq_iff_iff]; simp
    rw [hne, hlast, hkl] at hC
    simp only [Bool.true_and] at hC
    obtain ⟨pk, pt, pn, pat⟩ := p
    -- the loop over the tokens and what follows it
    by_cases hbad : (h || (!isCol ⟨pk, pt, pn, pat⟩ && decide (ek.length = 0))) = true
    rotate_left
    · have hb2 : (h || (!isCol ⟨pk, pt, pn, pat⟩ && decide (ek.length = 0))) = false := by simpa using hbad
      rw [hb2] at hC
      simp only [Bool.and_false, Bool.false_and] at hC
      simp only [Bool.or_eq_false_iff, Bool.and_eq_false_iff, Bool.not_eq_false', decide_eq_false_iff_not] at hb2
      obtain ⟨rfl, hb2⟩ := hb2
      by_cases hk0 : ¬ ek = []
      · simp [e0, e3, hm, he.view, he.len, hli, pa1, pa2, hone, hTz, hek.view, hek.len, hk0, ← hC, objCells]
        skip
      · have hc : isCol ⟨pk, pt, pn, pat⟩ = true := hb2.resolve_right fun h => h (by have : ek = [] := Classical.not_not.1 hk0; rw [this]; rfl)
        have hk0 : ek = [] := Classical.not_not.1 hk0
        subst hk0
        simp only [isCol, Bool.and_eq_true, decide_eq_true_eq] at hc
        obtain ⟨rfl, rfl⟩ := hc
        simp [e0, e3, hm, he.view, he.len, hli, pa1, pa2, hone, hTz, hek.view, hek.len, w2.eq, hgl, hlti, et, ← hC, objCells, -et_def]
        skip
    · rw [hbad] at hC
      simp only [Bool.and_true] at hC
      have hfirst : h = true ∨ (h = false ∧ ek = [] ∧ isCol ⟨pk, pt, pn, pat⟩ = false) := by
        cases h with
        | true => exact .inl rfl
        | false =>
          simp only [Bool.false_or, Bool.and_eq_true, Bool.not_eq_true', decide_eq_true_eq] at hbad
          exact .inr ⟨rfl, List.length_eq_zero_iff.1 hbad.2, hbad.1⟩
      rcases hfirst with rfl | ⟨rfl, hek0, hcol⟩
      · simp [e0, e3, hm, he.view, he.len, hli, pa1, pa2, hone, hTz, objCells]
        refine lp52 v i (t.loc 4).length nt true T kv.view a (by omega) hTk _ ?_ ?_ _ ⟨by simp [e0], by simp [e3], by simp, by simp, by simp [hm], by simp⟩ (by simp)
        · intro u hu g2 gm
          rw [hu] at hC
          simp only [Bool.false_and] at hC
          simp [g2, gm, ← hC]
        · intro u hu hs
          rw [hu] at hC
          simp only [Bool.true_and] at hC
          have u0 := hs.e0
          have u3 := hs.e3
          have u4 := hs.e4
          have um := hs.hm
          have l4 := hs.l4
          cases hk : formL K' with
          | false =>
            rw [hk] at hr hC
            simp only [Bool.false_and] at hC
            simp [u4, um, l4, hek.view, hek.nl, hr, ← hC, objCells]
          | true =>
            rw [hk] at hr hC
            simp only [Bool.true_and] at hC
            simp [u0, u3, u4, um, l4, hek.view, hek.nl, hr, w1.eq, objCells, -Int.natCast_add]
            exact ⟨K.length - (i + 1), by omega, i + 1, rfl, by omega, rfl, hC⟩
      · subst hek0
        by_cases h4 : pk = 4
        · have h58 : ¬ pt = [58] := by
            intro hh
            simp [isCol, h4, hh] at hcol
          simp [e0, e3, hm, he.view, he.len, hli, pa1, pa2, hone, hTz, hek.view, hek.len, w2.eq, hgl, hlti, et, h4, h58, objCells, -et_def]
          refine lp52 v i (t.loc 4).length nt false T kv.view a (by omega) hTk _ ?_ ?_ _ ⟨by simp [e0], by simp [e3], by simp, by simp, by simp [hm], by simp⟩ (by simp)
          · intro u hu g2 gm
            rw [hu] at hC
            simp only [Bool.false_and] at hC
            simp [g2, gm, ← hC]
          · intro u hu hs
            rw [hu] at hC
            simp only [Bool.true_and] at hC
            have u0 := hs.e0
            have u3 := hs.e3
            have u4 := hs.e4
            have um := hs.hm
            have l4 := hs.l4
            cases hk : formL K' with
            | false =>
              rw [hk] at hr hC
              simp only [Bool.false_and] at hC
              simp [u4, um, l4, hek.view, hek.nl, hr, ← hC, objCells]
            | true =>
              rw [hk] at hr hC
              simp only [Bool.true_and] at hC
              simp [u0, u3, u4, um, l4, hek.view, hek.nl, hr, w1.eq, objCells, -Int.natCast_add]
              exact ⟨K.length - (i + 1), by omega, i + 1, rfl, by omega, rfl, hC⟩
        · simp [e0, e3, hm, he.view, he.len, hli, pa1, pa2, hone, hTz, hek.view, hek.len, w2.eq, hgl, hlti, et, h4, objCells, -et_def]
          refine lp52 v i (t.loc 4).length nt false T kv.view a (by omega) hTk _ ?_ ?_ _ ⟨by simp [e0], by simp [e3], by simp, by simp, by simp [hm], by simp⟩ (by simp)
          · intro u hu g2 gm
            rw [hu] at hC
            simp only [Bool.false_and] at hC
            simp [g2, gm, ← hC]
          · intro u hu hs
            rw [hu] at hC
            simp only [Bool.true_and] at hC
            have u0 := hs.e0
            have u3 := hs.e3
            have u4 := hs.e4
            have um := hs.hm
            have l4 := hs.l4
            cases hk : formL K' with
            | false =>
              rw [hk] at hr hC
              simp only [Bool.false_and] at hC
              simp [u4, um, l4, hek.view, hek.nl, hr, ← hC, objCells]
            | true =>
              rw [hk] at hr hC
              simp only [Bool.true_and] at hC
              simp [u0, u3, u4, um, l4, hek.view, hek.nl, hr, w1.eq, objCells, -Int.natCast_add]
              exact ⟨K.length - (i + 1), by omega, i + 1, rfl, by omega, rfl, hC⟩
end Go.Vm.Ch11
namespace Go.Vm.Ch11
open _root_.Ch11 (T11 c59)
set_option maxRecDepth 10000
set_option maxHeartbeats 16000000
theorem q59 : ∀ (N : Nat) (K : List Ln) (v : AV), szL K < N → N ≤ 300000 → TV [] 0 0 K v → callL T11 59 [v] [] = some (.agg [AV.int .i64 (cL K : Nat), AV.int .i64 (tL K : Nat), AV.int .i64 (dL K : Nat)], []) := by
  intro N
  induction N with
  | zero => intro K v h; omega
  | succ N ih =>
    intro K v h1 h2 hK
    obtain ⟨nn, es, hvv, hE, hEm⟩ := els_of hK
    have hlK := szL_len K
    have hel := hE.len
    have he := hE.el
    have hmz := mea_sz K
    apply callL_body (vf := c59) rfl rfl
    simp [c59, objCells]
    refine wp_loop (fun n t => ∃ (i c k d : Nat), n = K.length - i ∧ i ≤ K.length ∧ t.get 0 = v ∧ t.get 2 = .ptr (.loc 2 0) 0 ∧ t.loc 2 = [.cells false [AV.int .i64 0, AV.int .i64 0, AV.int .i64 0]] ∧ t.get 3 = .ptr (.loc 3 0) 0 ∧ t.loc 3 = [.cells false [AV.int .i64 (c : Nat), AV.int .i64 (k : Nat), AV.int .i64 (d : Nat)]] ∧ t.get 4 = AV.int .i64 (i : Nat) ∧ t.mem = [] ∧ c + cL (K.drop i) = cL K ∧ k + tL (K.drop i) = tL K ∧ max d (dL (K.drop i)) = dL K) ?_ K.length _ ?_
    rotate_left
    · refine ⟨0, 0, 0, 0, ?_⟩
      simp
    rintro n t ⟨i, c, k, d, hn, hi, e0, e2, l2, e3, l3, e4, hm, hc, hk, hd⟩
    by_cases hlt : i < K.length
    rotate_left
    · have hli : ¬ (i : Int) < es.length := by omega
      rw [List.drop_eq_nil_of_le (by omega)] at hc hk hd
      simp only [cL, tL, dL, Nat.add_zero, Nat.max_zero] at hc hk hd
      subst hc hk hd
      simp [e0, e2, l2, e3, l3, e4, hm, he.view, he.len, hli, objCells]
    have hie : i < es.length := by omega
    have hli : (i : Int) < es.length := by omega
    obtain ⟨nt, kv, hx, hnt, hki, hone⟩ := hE.at_ i hie
    obtain ⟨pa, pa1, pa2, pa3, pa4, pa5, hfa⟩ := he.adr i hie
    rw [hx] at hfa
    obtain ⟨b0, b01, b02, b03, b04⟩ := hfa 0 _ rfl
    obtain ⟨b2, b21, b22, b23, b24⟩ := hfa 2 _ rfl
    have hdr : K.drop i = gi K (i : Int) :: K.drop (i + 1) := by rw [gi_nat hlt]; simp
    have hsz := szL_get K i hlt
    rw [← gi_nat hlt] at hsz
    rw [hdr] at hc hk hd
    generalize gi K (i : Int) = x at *
    obtain ⟨T, h, K', a⟩ := x
    simp only [Ln.toks, Ln.head, Ln.kids, Ln.at_] at *
    simp only [cL, cN, tL, tN, dL, dN] at hc hk hd
    rw [szN] at hsz
    have hr := ih K' kv.view (by omega) (by omega) hki
    have hmz' := mea_sz K'
    obtain ⟨⟨ek, hek, -⟩⟩ := hki.at
    have w1 : W64 ((i : Int) + 1) ((i + 1 : Nat) : Int) := .mkI rfl (by omega) (by omega)
    have w2 : W64 (1 + (cL K' : Int)) ((1 + cL K' : Nat) : Int) := .mkI (by omega) (by omega) (by omega)
    have w3 : W64 ((c : Int) + ((1 + cL K' : Nat) : Int)) ((c + (1 + cL K') : Nat) : Int) := .mkI (by omega) (by omega) (by omega)
    have w4 : W64 ((T.length : Int) + (tL K' : Int)) ((T.length + tL K' : Nat) : Int) := .mkI (by omega) (by omega) (by omega)
    have w5 : W64 ((k : Int) + ((T.length + tL K' : Nat) : Int)) ((k + (T.length + tL K') : Nat) : Int) := .mkI (by omega) (by omega) (by omega)
    have w6 : W64 (1 + (dL K' : Int)) ((1 + dL K' : Nat) : Int) := .mkI (by omega) (by omega) (by omega)
    simp [e0, e2, l2, e3, l3, e4, hm, he.view, he.len, hli, pa1, b01, b02, b21, b22, hek.view, hek.nl, hr, w1.eq, w2.eq, w3.eq, w4.eq, w5.eq, w6.eq, objCells, -Int.natCast_add]
    exact ⟨K.length - (i + 1), by omega, i + 1, rfl, by omega, _, _, max d (1 + dL K'), ⟨rfl, rfl, by split <;> omega⟩, rfl, by omega, by omega, by omega⟩
end Go.Vm.Ch11
namespace Go.Vm.Ch11
open _root_.Ch11 (T11 c39)
set_option maxRecDepth 10000
set_option maxHeartbeats 16000000
theorem q39 (K : List Ln) (v : AV) (hs : szL K ≤ 250000) (hall : allL tkOK K = true) (hv : TV [] 0 0 K v) : callL T11 39 [v] [] = some (AV.int .i64 (codeF K), []) := by
  have h52 := q57 250001 K v (by omega) (by omega) hall hv
  have h53 := q58 250001 K v (by omega) (by omega) hv
  have h25 := q59 250001 K v (by omega) (by omega) hv
  obtain ⟨⟨es, he, -⟩⟩ := hv.at
  apply callL_body (vf := c39) rfl rfl
  unfold codeF
  cases h1 : formL K with
  | false =>
    rw [h1] at h52
    simp [c39, he.view, he.nl, h52]
  | true =>
    rw [h1] at h52
    cases h2 : crowL K with
    | true =>
      rw [h2] at h53
      simp [c39, he.view, he.nl, h52, h53]
    | false =>
      rw [h2] at h53
      by_cases h3 : dL K ≤ 7
      · have h3i : ¬ (7 : Int) < (dL K : Int) := by omega
        simp [c39, he.view, he.nl, h52, h53, h25, h3, h3i]
      · have h3i : (7 : Int) < (dL K : Int) := by omega
        simp [c39, he.view, he.nl, h52, h53, h25, h3, h3i]
def lOK (p : Tk) : Bool := decide (p.t.length ≤ 200)
mutual
theorem left_txt : ∀ (K : List Ln) (n : Int) (d : Nat), 0 ≤ leftL K n d → allL lOK K = true
  | [], n, d, _ => rfl
  | x :: r, n, d, h => by
    rw [leftL] at h
    split at h
    · omega
    · have h1 := leftL_le r (leftN x n d) d h
      rw [allL, leftN_txt x n d (by omega), left_txt r (leftN x n d) d h]
      rfl
theorem leftN_txt : ∀ (x : Ln) (n : Int) (d : Nat), 0 ≤ leftN x n d → allN lOK x = true
  | .mk T h K a, n, d, h0 => by
    rw [leftN] at h0
    split at h0
    · omega
    · split at h0
      · omega
      · rename_i hp
        rw [allN, left_txt K _ _ h0, Bool.and_true, List.all_eq_true]
        intro p hp2
        simp only [lOK, decide_eq_true_eq]
        refine Classical.byContradiction fun hc => hp ?_
        rw [List.any_eq_true]
        exact ⟨p, hp2, by simp; omega⟩
end
mutual
theorem allL_and {f g : Tk → Bool} : ∀ K, allL f K = true → allL g K = true → allL (fun p => f p && g p) K = true
  | [], _, _ => rfl
  | x :: r, h1, h2 => by
    rw [allL, Bool.and_eq_true] at h1 h2 ⊢
    exact ⟨allN_and x h1.1 h2.1, allL_and r h1.2 h2.2⟩
theorem allN_and {f g : Tk → Bool} : ∀ x, allN f x = true → allN g x = true → allN (fun p => f p && g p) x = true
  | .mk T h K a, h1, h2 => by
    rw [allN, Bool.and_eq_true] at h1 h2 ⊢
    refine ⟨?_, allL_and K h1.2 h2.2⟩
    rw [List.all_eq_true] at *
    intro p hp
    simp [h1.1 p hp, h2.1 p hp]
end
end Go.Vm.Ch11
