/- Chapter 10: what its functions compute. -/
import Derived.Test.YtmncbcgcahfdcaaGreatDoorC10zg
namespace Go.Vm.Ch10
open _root_.Ch10 (T10 c7)
set_option maxRecDepth 10000
set_option maxHeartbeats 16000000
/-! ### how many lines begin with one of the words -/
def cntF (W : List (List UInt8)) (K : List Ln) : Nat := (K.filter fun x => decide (wordF x.toks ≠ []) && decide (wordF x.toks ∈ W)).length
theorem cnt_old {W : List (List UInt8)} {w : List UInt8} {K : List Ln} (h : w = [] ∨ w ∈ W) : cntF (W ++ [w]) K = cntF W K := by
  unfold cntF
  congr 1
  apply List.filter_congr
  intro x _
  rw [Bool.eq_iff_iff]
  simp only [Bool.and_eq_true, decide_eq_true_eq, List.mem_append, List.mem_singleton]
  refine ⟨fun ⟨h1, h2⟩ => ⟨h1, ?_⟩, fun ⟨h1, h2⟩ => ⟨h1, .inl h2⟩⟩
  rcases h2 with h2 | h2
  · exact h2
  · rcases h with h | h
    · exact absurd (h2.trans h) h1
    · rw [h2]; exact h
theorem cnt_new {W : List (List UInt8)} {w : List UInt8} (h0 : w ≠ []) (hn : w ∉ W) : ∀ K : List Ln, cntF (W ++ [w]) K = cntF W K + (pickF w K).length
  | [] => rfl
  | x :: r => by
    have ih := cnt_new h0 hn r
    unfold cntF pickF at ih ⊢
    simp only [List.filter_cons]
    by_cases h1 : wordF x.toks = w
    · have e1 : (decide (wordF x.toks ≠ []) && decide (wordF x.toks ∈ W ++ [w])) = true := by simp [h1, h0]
      have e2 : (decide (wordF x.toks ≠ []) && decide (wordF x.toks ∈ W)) = false := by simp [h1, hn]
      have e3 : decide (wordF x.toks = w) = true := by simp [h1]
      simp only [e1, e2, e3, if_true, Bool.false_eq_true, if_false, List.length_cons]
      omega
    · have e1 : (decide (wordF x.toks ≠ []) && decide (wordF x.toks ∈ W ++ [w])) = (decide (wordF x.toks ≠ []) && decide (wordF x.toks ∈ W)) := by
        congr 1
        rw [Bool.eq_iff_iff]; simp [h1]
      have e3 : decide (wordF x.toks = w) = false := by simp [h1]
      simp only [e1, e3, Bool.false_eq_true, if_false]
      split
      · simp only [List.length_cons]; omega
      · exact ih
theorem cnt_nil (K : List Ln) : cntF [] K = 0 := by
  unfold cntF
  rw [List.length_eq_zero_iff, List.filter_eq_nil_iff]
  intro x _
  simp
theorem cntF_le (W : List (List UInt8)) (K : List Ln) : cntF W K ≤ K.length := List.length_filter_le _ _
def emptyT (T : List Tk) : Bool := match T with
  | p :: _ => decide (p.t = [])
  | [] => false
theorem ok_word {ws : List (List UInt8)} {T : List Tk} (h : emptyT T = false) : okW ws T = (decide (wordF T ≠ []) && decide (wordF T ∈ ws)) := by
  cases T with
  | nil => simp [okW, wordF]
  | cons p T =>
    simp only [emptyT, decide_eq_false_iff_not] at h
    by_cases k : p.k = 1
    · simp [okW, wordF, k, h]
    · simp [okW, wordF, k]
theorem only_cnt {ws : List (List UInt8)} : ∀ {K : List Ln}, (∀ x ∈ K, emptyT x.toks = false) → (onlyF ws K = .agg [AV.int IntKind.i64 0, AV.int IntKind.i64 0, AV.int IntKind.i64 0] ↔ cntF ws K = K.length)
  | [], _ => by simp [onlyF, cntF]
  | x :: r, h => by
    have ih := only_cnt (ws := ws) (K := r) fun y hy => h y (by simp [hy])
    have hx := ok_word (ws := ws) (h x (by simp))
    have hle := cntF_le ws r
    unfold cntF at ih hle ⊢
    rw [onlyF, hx, List.filter_cons]
    split
    · rw [ih]; simp
    · refine ⟨fun h => by simp at h, fun h => ?_⟩
      rw [List.length_cons] at h
      omega
theorem q7 (K : List Ln) (v : AV) (ws : List (List UInt8)) (wn : Bool) (hv : TV [] 0 0 K v) : ∃ m', callL T10 7 [v, vv none wn AV.str ws] [] = some (.bool true, m') := by
  obtain ⟨m, hm0, ha⟩ := Aw.awake0
  have h13 := q13 K v hv
  obtain ⟨nn, es, hvv, hE, hEm⟩ := els_of hv
  have hel := hE.len
  have he := hE.el
  apply callL_ex3 (vf := c7) rfl rfl
  by_cases hsm : 0 ≤ leftL K 300 12
  rotate_left
  · simp [c7, ha, h13, hsm, he.view, he.nl]
  have hs := leftL_le K 300 12 hsm
  have hlK := szL_len K
  by_cases hw : 20 < ws.length
  · have hwi : (20 : Int) < ws.length := by omega
    simp [c7, ha, h13, hsm, he.view, he.nl, hwi]
  have hwi : ¬ (20 : Int) < ws.length := by omega
  simp [c7, ha, h13, hsm, he.view, he.nl, hwi]
  refine wp_loop (fun n t => ∃ (i : Nat), n = ws.length - i ∧ i ≤ ws.length ∧ t.get 0 = v ∧ t.get 1 = vv none wn AV.str ws ∧ t.get 5 = AV.int IntKind.i64 (cntF (ws.take i) K : Nat) ∧ t.get 6 = AV.int IntKind.i64 (i : Nat) ∧ 0 < t.mem.length) ?_ ws.length _ ?_
  rotate_left
  · refine ⟨0, ?_⟩
    simp [hm0, cnt_nil]
  rintro n t ⟨i, hn, hi, e0, e1, e5, e6, hmp⟩
  by_cases hlt : i < ws.length
  · have hli : (i : Int) < ws.length := by omega
    have hTk : ws.take (i + 1) = ws.take i ++ [ws[i]] := by rw [List.take_add_one, List.getElem?_eq_getElem hlt]; rfl
    have w1 : W64 ((i : Int) + 1) ((i + 1 : Nat) : Int) := .mkI rfl (by omega) (by omega)
    obtain ⟨w, hwd⟩ : ∃ w, ws[i] = w := ⟨_, rfl⟩
    rw [hwd] at hTk
    have hgw : gi ws (i : Int) = w := by rw [gi_nat hlt, hwd]
    simp [e1, e6, hli, hgw]
    refine wp_loop (fun n u => ∃ (k : Nat), n = i - k ∧ k ≤ i ∧ u.get 0 = v ∧ u.get 1 = vv none wn AV.str ws ∧ u.get 5 = AV.int IntKind.i64 (cntF (ws.take i) K : Nat) ∧ u.get 6 = AV.int IntKind.i64 (i : Nat) ∧ u.get 7 = .bool (decide (w = [] ∨ w ∈ ws.take k)) ∧ u.get 8 = AV.int IntKind.i64 (k : Nat) ∧ u.mem = t.mem) ?_ i _ ?_
    rotate_left
    · refine ⟨0, ?_⟩
      simp [e0, e1, e5, e6]
      rw [Bool.eq_iff_iff]; simp
    rintro n2 u ⟨k, hn2, hk, u0, u1, u5, u6, u7, u8, um⟩
    by_cases hkt : k < i
    · have hki : (k : Int) < i := by omega
      have hkl : k < ws.length := by omega
      have w2 : W64 ((k : Int) + 1) ((k + 1 : Nat) : Int) := .mkI rfl (by omega) (by omega)
      have hTk2 : ws.take (k + 1) = ws.take k ++ [ws[k]] := by rw [List.take_add_one, List.getElem?_eq_getElem hkl]; rfl
      by_cases hag : w = [] ∨ w ∈ ws.take k
      · have hd : (w = [] ∨ w ∈ ws.take (k + 1)) := hag.imp id fun h => by rw [hTk2]; exact List.mem_append.2 (.inl h)
        simp only [hag, decide_true] at u7
        simp [u0, u1, u5, u6, u7, u8, um, hki, hli, hgw, w2.eq, -Int.natCast_add]
        exact ⟨i - (k + 1), by omega, k + 1, rfl, by omega, by simpa using hd, rfl⟩
      · simp only [hag, decide_false] at u7
        simp [u0, u1, u5, u6, u7, u8, um, hki, hli, hgw, gi_nat hkl, hkl, w2.eq, -Int.natCast_add]
        refine ⟨i - (k + 1), by omega, k + 1, rfl, by omega, ?_, rfl⟩
        rw [Bool.eq_iff_iff]
        simp only [beq_iff_eq, Bool.or_eq_true, decide_eq_true_eq]
        rw [hTk2]
        refine ⟨fun h => .inr (List.mem_append.2 (.inr (by simp [h]))), fun h => ?_⟩
        rcases h with h | h
        · exact absurd (.inl h) hag
        · rcases List.mem_append.1 h with h | h
          · exact absurd (.inr h) hag
          · exact List.mem_singleton.1 h
    · have hki : ¬ (k : Int) < i := by omega
      obtain rfl : k = i := by omega
      by_cases hag : w = [] ∨ w ∈ ws.take k
      · have hc := cnt_old (K := K) hag
        rw [← hTk] at hc
        simp only [hag, decide_true] at u7
        simp [u0, u1, u5, u6, u7, u8, um, w1.eq, -Int.natCast_add]
        exact ⟨ws.length - (k + 1), by omega, k + 1, rfl, by omega, by rw [hc], rfl, hmp⟩
      · simp only [hag, decide_false] at u7
        have hc := cnt_new (w := w) (W := ws.take k) (fun h => hag (.inl h)) (fun h => hag (.inr h)) K
        rw [← hTk] at hc
        obtain ⟨M, hM⟩ : ∃ M, t.mem = M := ⟨_, rfl⟩
        rw [hM] at um hmp
        obtain ⟨r, m1, h16, c1, c2, c3, c4, c5, c6⟩ := q16 K v w M (by omega) hv hmp
        obtain ⟨⟨er, her, hrl, hre⟩⟩ := c4.at
        have hpl : (pickF w K).length ≤ K.length := List.length_filter_le _ _
        have hcl := cntF_le (ws.take k) K
        have hcl2 := cntF_le (ws.take (k + 1)) K
        have w3 : W64 ((cntF (ws.take k) K : Int) + (er.length : Int)) ((cntF (ws.take (k + 1)) K : Nat) : Int) := .mkI (by omega) (by omega) (by omega)
        simp [u0, u1, u5, u6, u7, u8, um, he.view, he.nl, hli, hgw, h16, her.tk, -Int.natCast_add]
        refine wp_loop (fun n x => ∃ (j : Nat), n = er.length - j ∧ j ≤ er.length ∧ x.get 0 = v ∧ x.get 1 = vv none wn AV.str ws ∧ x.get 5 = AV.int IntKind.i64 (cntF (ws.take k) K : Nat) ∧ x.get 6 = AV.int IntKind.i64 (k : Nat) ∧ x.get 9 = r ∧ x.get 10 = AV.int IntKind.i64 (j : Nat) ∧ x.mem = m1) ?_ er.length _ ?_
        rotate_left
        · refine ⟨0, ?_⟩
          simp [u0, u1, u5, u6]
          skip
        rintro n3 x ⟨j, hn3, hj, x0, x1, x5, x6, x9, x10, xm⟩
        by_cases hjt : j < er.length
        · have hji : (j : Int) < er.length := by omega
          obtain ⟨nt, kv, hx, hkv⟩ := hre j hjt
          obtain ⟨pa, pa1, pa2, pa3, pa4, pa5, -⟩ := her.adr j hjt
          rw [hx] at pa2
          obtain ⟨⟨ek, hek, -⟩⟩ := hkv.at
          have hone : kv.one = true := by rw [← one_view]; exact hek.one
          have hmemx : gi (pickF w K) (j : Int) ∈ pickF w K := by rw [gi_nat (by omega)]; exact List.getElem_mem _
          have hwx : wordF (gi (pickF w K) (j : Int)).toks = w := by
            unfold pickF at hmemx
            have := (List.mem_filter.1 hmemx).2
            simpa [pickF] using this
          generalize gi (pickF w K) (j : Int) = y at *
          obtain ⟨T, h, K', a⟩ := y
          simp only [Ln.toks, Ln.head, Ln.kids, Ln.at_] at *
          have h14 := q14 T nt h kv a hone
          rw [hwx] at h14
          have w4 : W64 ((j : Int) + 1) ((j + 1 : Nat) : Int) := .mkI rfl (by omega) (by omega)
          simp [x0, x1, x5, x6, x9, x10, xm, hji, hli, hgw, her.view, her.len, pa1, pa2, h14, w4.eq, -Int.natCast_add]
          exact ⟨er.length - (j + 1), by omega, j + 1, rfl, by omega, rfl⟩
        · have hji : ¬ (j : Int) < er.length := by omega
          simp [x0, x1, x5, x6, x9, x10, xm, hji, her.view, her.len, w1.eq, w3.eq, -Int.natCast_add]
          exact ⟨ws.length - (k + 1), by omega, k + 1, rfl, by omega, rfl, rfl, by omega⟩
  have hli : ¬ (i : Int) < ws.length := by omega
  rw [List.take_of_length_le (by omega)] at e5
  simp [e1, e6, hli, -Int.natCast_add]
  refine wp_loop (fun n u => ∃ (k : Nat), n = K.length - k ∧ k ≤ K.length ∧ u.get 0 = v ∧ u.get 1 = vv none wn AV.str ws ∧ u.get 5 = AV.int IntKind.i64 (cntF ws K : Nat) ∧ u.get 11 = AV.int IntKind.i64 (k : Nat) ∧ ∀ x ∈ K.take k, emptyT x.toks = false) ?_ K.length _ ?_
  rotate_left
  · refine ⟨0, ?_⟩
    simp [e0, e1, e5]
    skip
  rintro n2 u ⟨k, hn2, hk, u0, u1, u5, u11, hemp⟩
  by_cases hkt : k < K.length
  · have hie : k < es.length := by omega
    have hki : (k : Int) < es.length := by omega
    obtain ⟨M, hM⟩ : ∃ M, u.mem = M := ⟨_, rfl⟩
    obtain ⟨nt, kv, hx, hnt, hkk, hone⟩ := hE.at_ k hie
    obtain ⟨pa, pa1, pa2, pa3, pa4, pa5, hfa⟩ := (hEm M).adr k hie
    rw [hx] at hfa
    obtain ⟨b0, b01, b02, b03, b04⟩ := hfa 0 _ rfl
    have hTk := take_succ hkt
    generalize gi K (k : Int) = x at *
    obtain ⟨T, h, K', a⟩ := x
    simp only [Ln.toks, Ln.head, Ln.kids, Ln.at_] at *
    have w1 : W64 ((k : Int) + 1) ((k + 1 : Nat) : Int) := .mkI rfl (by omega) (by omega)
    have next : emptyT T = false → ∀ x ∈ K.take (k + 1), emptyT x.toks = false := by
      intro h0 x hx
      rw [hTk] at hx
      rcases List.mem_append.1 hx with hx | hx
      · exact hemp x hx
      · rw [List.mem_singleton.1 hx]; exact h0
    cases T with
    | nil =>
      simp [u0, u1, u5, u11, hM, hki, he.view, he.nl, he.len, pa1, b01, b02, w1.eq, -Int.natCast_add]
      exact ⟨K.length - (k + 1), by omega, k + 1, rfl, by omega, rfl, next rfl⟩
    | cons p T =>
      have hg0 : gi (p :: T) (0 : Int) = p := rfl
      have hTl : (0 : Int) < (T.length : Int) + 1 := by omega
      by_cases h0 : p.t = []
      · simp [u0, u1, u5, u11, hM, hki, he.view, he.nl, he.len, pa1, b01, b02, hg0, et, h0, -et_def, -Int.natCast_add]
      · simp [u0, u1, u5, u11, hM, hki, he.view, he.nl, he.len, pa1, b01, b02, hg0, et, h0, w1.eq, -et_def, -Int.natCast_add]
        exact ⟨K.length - (k + 1), by omega, k + 1, rfl, by omega, rfl, next (by simp [emptyT, h0])⟩
  · have hki : ¬ (k : Int) < es.length := by omega
    rw [List.take_of_length_le (by omega)] at hemp
    have hoc := only_cnt (ws := ws) hemp
    have h18 := q18 K v ws wn (by omega) [] (by omega) hv
    obtain ⟨a, b, c, hO⟩ := only_agg ws K
    rw [hO] at h18 hoc
    by_cases hc : cntF ws K = K.length
    · have hz := hoc.2 hc
      simp only [AV.agg.injEq, List.cons.injEq, AV.int.injEq, true_and, and_true] at hz
      obtain ⟨rfl, rfl, rfl⟩ := hz
      have hcc : (cntF ws K : Int) = (es.length : Int) := by omega
      simp [u0, u1, u5, u11, hki, he.view, he.nl, he.len, h18, hcc, -Int.natCast_add]
    · have hcc : ¬ (cntF ws K : Int) = (es.length : Int) := by omega
      have hcb : ((cntF ws K : Int) == (es.length : Int)) = false := by simp [hcc]
      have hnz : ¬ (a = 0 ∧ b = 0 ∧ c = 0) := fun h => hc (hoc.1 (by rw [h.1, h.2.1, h.2.2]))
      by_cases h1 : a = 0
      · subst h1
        by_cases h2 : b = 0
        · subst h2
          have h3 : (c == 0) = false := beq_false_of_ne fun h => hnz ⟨rfl, rfl, h⟩
          simp [u0, u1, u5, u11, hki, he.view, he.nl, he.len, h18, h3, hcb, -Int.natCast_add]
        · have h3 : (b == 0) = false := beq_false_of_ne h2
          simp [u0, u1, u5, u11, hki, he.view, he.nl, he.len, h18, h3, hcb, -Int.natCast_add]
      · have h3 : (a == 0) = false := beq_false_of_ne h1
        simp [u0, u1, u5, u11, hki, he.view, he.nl, he.len, h18, h3, hcb, -Int.natCast_add]
theorem law7_args {P : Program} (H : Ty10 P) : ∀ as, ArgsT P [23, 31] as → ∃ m, callL T10 7 as [] = some (.bool true, m)
  | [a, b], h => by
    obtain ⟨K, hK⟩ := argT_lines H h.1
    obtain ⟨wn, ws, rfl⟩ := argT_words H h.2.1
    exact q7 K a ws wn hK
  | [], h => h.elim
  | [_], h => h.2.elim
  | _ :: _ :: _ :: _, h => h.2.2.elim
end Go.Vm.Ch10
