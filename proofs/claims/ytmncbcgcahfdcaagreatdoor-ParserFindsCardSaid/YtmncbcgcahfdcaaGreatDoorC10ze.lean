/- Chapter 10: what its functions compute. -/
import Derived.Test.YtmncbcgcahfdcaaGreatDoorC10zd
namespace Go.Vm.Ch10
open _root_.Ch10 (T10 c30 c38 c37 c65 c18 c19)
set_option maxRecDepth 10000
set_option maxHeartbeats 16000000
/-! ### only these words -/
def colF : List Tk → Int
  | p :: _ => p.a
  | [] => 1
theorem q30 (T : List Tk) (b h : Bool) (kv : AV) (a : Int) (_ : kv.one = true) (hl : T.length ≤ 1000000) : callL T10 30 [AV.int IntKind.i64 2, .agg [vv none b tv T, .bool h, kv, AV.int IntKind.i64 a], AV.int IntKind.i64 0] [] = some (.agg [AV.int IntKind.i64 2, AV.int IntKind.i64 a, AV.int IntKind.i64 (colF T)], []) := by
  apply callL_body (vf := c30) rfl rfl
  cases T with
  | nil => simp [c30, objCells, colF]
  | cons x T =>
    simp only [List.length_cons] at hl
    have hg0 : gi (x :: T) (0 : Int) = x := rfl
    have hTl : (0 : Int) < (T.length : Int) + 1 := by omega
    have w1 : W64 ((T.length : Int) + 1 - 1) (T.length : Int) := .mkI (by omega) (by omega) (by omega)
    have w2 : W64 ((T.length : Int)) (T.length : Int) := .mkI rfl (by omega) (by omega)
    have hlt : (T.length : Int) < (T.length : Int) + 1 := by omega
    obtain ⟨y, hy⟩ : ∃ y, gi (x :: T) (T.length : Int) = y := ⟨_, rfl⟩
    simp [c30, objCells, hTl, hg0, hy, et, w2.eq, hlt, colF, -et_def]
theorem q38 (T : List Tk) (b h : Bool) (kv : AV) (a : Int) (_ : kv.one = true) (hl : T.length ≤ 1000000) : callL T10 38 [AV.int IntKind.i64 2, .agg [vv none b tv T, .bool h, kv, AV.int IntKind.i64 a], AV.int IntKind.i64 0] [] = some (.agg [AV.int IntKind.i64 2, AV.int IntKind.i64 a, AV.int IntKind.i64 (colF T)], []) := by
  apply callL_body (vf := c38) rfl rfl
  cases T with
  | nil => simp [c38, objCells, colF]
  | cons x T =>
    simp only [List.length_cons] at hl
    have hg0 : gi (x :: T) (0 : Int) = x := rfl
    have hTl : (0 : Int) < (T.length : Int) + 1 := by omega
    have w1 : W64 ((T.length : Int) + 1 - 1) (T.length : Int) := .mkI (by omega) (by omega) (by omega)
    have w2 : W64 ((T.length : Int)) (T.length : Int) := .mkI rfl (by omega) (by omega)
    have hlt : (T.length : Int) < (T.length : Int) + 1 := by omega
    obtain ⟨y, hy⟩ : ∃ y, gi (x :: T) (T.length : Int) = y := ⟨_, rfl⟩
    simp [c38, objCells, hTl, hg0, hy, et, w2.eq, hlt, colF, -et_def]
theorem q65 (ws : List (List UInt8)) (nn : Bool) (w : List UInt8) (hl : ws.length ≤ 1000000) : ∃ i : Int, callL T10 65 [vv none nn AV.str ws, .str w] [] = some (AV.int IntKind.i64 i, []) ∧ (0 ≤ i ↔ w ∈ ws) := by
  have key : ∃ r m', callL T10 65 [vv none nn AV.str ws, .str w] [] = some (r, m') ∧ m' = [] ∧ ∃ i, r = AV.int IntKind.i64 i ∧ (0 ≤ i ↔ w ∈ ws) := by
    apply callL_exP (vf := c65) rfl rfl
    simp [c65]
    refine wp_loop (fun n t => ∃ i : Nat, n = ws.length - i ∧ i ≤ ws.length ∧ t.get 0 = vv none nn AV.str ws ∧ t.get 1 = .str w ∧ t.get 7 = AV.int IntKind.i64 (ws.length : Nat) ∧ t.get 8 = AV.int IntKind.i64 (i : Nat) ∧ t.mem = [] ∧ w ∉ ws.take i) ?_ ws.length _ ?_
    rotate_left
    · exact ⟨0, by simp⟩
    rintro n t ⟨i, hn, hi, e0, e1, e7, e8, hm, hno⟩
    by_cases hlt : i < ws.length
    rotate_left
    · have hli : ¬ (i : Int) < ws.length := by omega
      rw [List.take_of_length_le (by omega)] at hno
      simp [e0, e1, e7, e8, hm, hli]
      exact hno
    have hli : (i : Int) < ws.length := by omega
    have w1 : W64 ((i : Int) + 1) ((i + 1 : Nat) : Int) := .mkI rfl (by omega) (by omega)
    have hT : ws.take (i + 1) = ws.take i ++ [ws[i]] := by rw [List.take_add_one, List.getElem?_eq_getElem hlt]; rfl
    by_cases hw : w = ws[i]
    · have hin : w ∈ ws := by rw [hw]; exact List.getElem_mem _
      simp [e0, e1, e7, e8, hm, hli, gi_nat hlt, hw, -Int.natCast_add]
    · simp [e0, e1, e7, e8, hm, hli, gi_nat hlt, hw, w1.eq, -Int.natCast_add]
      exact ⟨ws.length - (i + 1), by omega, i + 1, rfl, by omega, rfl, by
        rw [hT]
        intro hc
        rcases List.mem_append.1 hc with hc | hc
        · exact hno hc
        · exact hw (List.mem_singleton.1 hc)⟩
  obtain ⟨r, m', h1, rfl, i, rfl, h2⟩ := key
  exact ⟨i, h1, h2⟩
theorem q37 (ws : List (List UInt8)) (nn : Bool) (w : List UInt8) (hl : ws.length ≤ 1000000) : callL T10 37 [vv none nn AV.str ws, .str w] [] = some (.bool (decide (w ∈ ws)), []) := by
  obtain ⟨i, h1, h2⟩ := q65 ws nn w hl
  apply callL_body (vf := c37) rfl rfl
  simp [c37, h1, h2]
/-- Is it one of the words? -/
def okW (ws : List (List UInt8)) (T : List Tk) : Bool := match T with
  | p :: _ => decide (p.k = 1) && decide (p.t ∈ ws)
  | [] => false
def onlyF (ws : List (List UInt8)) : List Ln → AV
  | [] => .agg [AV.int IntKind.i64 0, AV.int IntKind.i64 0, AV.int IntKind.i64 0]
  | x :: r => if okW ws x.toks then onlyF ws r else .agg [AV.int IntKind.i64 2, AV.int IntKind.i64 x.at_, AV.int IntKind.i64 (colF x.toks)]
theorem q18 (K : List Ln) (v : AV) (ws : List (List UInt8)) (wn : Bool) (hwl : ws.length ≤ 1000000) (m : Mem) (hs : szL K ≤ 900) (hv : TV [] 0 0 K v) : callL T10 18 [v, vv none wn AV.str ws] m = some (onlyF ws K, m) := by
  obtain ⟨nn, es, hvv, hE, hEm⟩ := els_of hv
  have hlK := szL_len K
  have hel := hE.len
  apply callL_body (vf := c18) rfl rfl
  have he := hE.el
  simp [c18, he.view, he.len]
  refine wp_loop (fun n t => ∃ (i : Nat), n = K.length - i ∧ i ≤ K.length ∧ t.get 1 = vv none wn AV.str ws ∧ t.get 4 = .ptr (.loc 4 0) 0 ∧ t.loc 4 = [.cells false [AV.int IntKind.i64 0, AV.int IntKind.i64 0, AV.int IntKind.i64 0]] ∧ t.get 7 = v ∧ t.get 8 = AV.int IntKind.i64 (K.length : Nat) ∧ t.get 9 = AV.int IntKind.i64 (i : Nat) ∧ t.mem = m ∧ onlyF ws (K.drop i) = onlyF ws K) ?_ K.length _ ?_
  rotate_left
  · exact ⟨0, by simp [hel]⟩
  rintro n t ⟨i, hn, hi, e1, e4, l4, e7, e8, e9, hm, hO⟩
  by_cases hlt : i < K.length
  rotate_left
  · have hli : ¬ (i : Int) < K.length := by omega
    rw [List.drop_eq_nil_of_le (by omega)] at hO
    simp only [onlyF] at hO
    simp [e4, l4, e7, e8, e9, hm, hli, ← hO, objCells]
  have hie : i < es.length := by omega
  have hli : (i : Int) < K.length := by omega
  obtain ⟨nt, kv, hx, hnt, hki, hone⟩ := hE.at_ i hie
  obtain ⟨pa, pa1, pa2, pa3, pa4, pa5, -⟩ := (hEm m).adr i hie
  rw [hx] at pa2
  have hd : K.drop i = gi K (i : Int) :: K.drop (i + 1) := by rw [gi_nat hlt]; simp
  have hsz := szL_get K i hlt
  rw [← gi_nat hlt] at hsz
  rw [hd] at hO
  generalize gi K (i : Int) = x at *
  obtain ⟨T, h, K', a⟩ := x
  simp only [Ln.toks, Ln.head, Ln.kids, Ln.at_, onlyF] at *
  rw [szN] at hsz
  have h30 := q30 T nt h kv.view a (by rw [one_view]; exact hone) (by omega)
  have w1 : W64 ((i : Int) + 1) ((i + 1 : Nat) : Int) := .mkI rfl (by omega) (by omega)
  cases T with
  | nil =>
    simp only [okW, Bool.false_eq_true, if_false, colF] at hO h30
    simp [e1, e4, l4, e7, e8, e9, hm, hli, pa1, pa2, hone, h30, ← hO, objCells]
  | cons p T =>
    have hg0 : gi (p :: T) (0 : Int) = p := rfl
    have hTl : ¬ (T.length : Int) + 1 = 0 := by omega
    have h37 := q37 ws wn p.t hwl
    simp only [colF] at hO h30
    by_cases k1 : p.k = 1
    · by_cases k2 : p.t ∈ ws
      · have hok : okW ws (p :: T) = true := by simp [okW, k1, k2]
        simp only [hok, if_true] at hO
        simp [e1, e4, l4, e7, e8, e9, hm, hli, pa1, pa2, hone, hg0, et, k1, k2, h37, w1.eq, objCells, -et_def, -Int.natCast_add]
        exact ⟨K.length - (i + 1), by omega, i + 1, rfl, by omega, rfl, hO⟩
      · have hok : okW ws (p :: T) = false := by simp [okW, k2]
        simp only [hok, Bool.false_eq_true, if_false] at hO
        simp [e1, e4, l4, e7, e8, e9, hm, hli, pa1, pa2, hone, hg0, et, k1, k2, h37, h30, ← hO, objCells, -et_def, -Int.natCast_add]
    · have hok : okW ws (p :: T) = false := by simp [okW, k1]
      simp only [hok, Bool.false_eq_true, if_false] at hO
      simp [e1, e4, l4, e7, e8, e9, hm, hli, pa1, pa2, hone, hg0, et, k1, h30, ← hO, objCells, -et_def, -Int.natCast_add]
/-- The words up to j have it. -/
def fndW (ws : List (List UInt8)) (T : List Tk) : Bool := ws.any fun w => match T with
  | p :: _ => decide (p.k = 1) && decide (p.t = w)
  | [] => false
theorem fndW_ok (ws : List (List UInt8)) (T : List Tk) : fndW ws T = okW ws T := by
  cases T with
  | nil => simp [fndW, okW]
  | cons p T =>
    rw [Bool.eq_iff_iff]
    simp only [fndW, okW, List.any_eq_true, Bool.and_eq_true, decide_eq_true_eq]
    exact ⟨fun ⟨w, h1, h2, h3⟩ => ⟨h2, h3 ▸ h1⟩, fun ⟨h1, h2⟩ => ⟨_, h2, h1, rfl⟩⟩
theorem q19 (K : List Ln) (v : AV) (ws : List (List UInt8)) (wn : Bool) (hwl : ws.length ≤ 1000000) (hs : szL K ≤ 900) (hv : TV [] 0 0 K v) : callL T10 19 [v, vv none wn AV.str ws] [] = some (onlyF ws K, []) := by
  obtain ⟨nn, es, hvv, hE, hEm⟩ := els_of hv
  have hlK := szL_len K
  have hel := hE.len
  apply callL_body (vf := c19) rfl rfl
  have he := hE.el
  simp [c19]
  refine wp_loop (fun n t => ∃ (i : Nat), n = K.length - i ∧ i ≤ K.length ∧ t.get 0 = v ∧ t.get 1 = vv none wn AV.str ws ∧ t.get 4 = .ptr (.loc 4 0) 0 ∧ t.loc 4 = [.cells false [AV.int IntKind.i64 0, AV.int IntKind.i64 0, AV.int IntKind.i64 0]] ∧ t.get 5 = AV.int IntKind.i64 (i : Nat) ∧ t.mem = [] ∧ onlyF ws (K.drop i) = onlyF ws K) ?_ K.length _ ?_
  rotate_left
  · exact ⟨0, by simp⟩
  rintro n t ⟨i, hn, hi, e0, e1, e4, l4, e5, hm, hO⟩
  by_cases hlt : i < K.length
  rotate_left
  · have hli : ¬ (i : Int) < es.length := by omega
    rw [List.drop_eq_nil_of_le (by omega)] at hO
    simp only [onlyF] at hO
    simp [e0, e4, l4, e5, hm, hli, he.view, he.len, ← hO, objCells]
  have hie : i < es.length := by omega
  have hli : (i : Int) < es.length := by omega
  obtain ⟨nt, kv, hx, hnt, hki, hone⟩ := hE.at_ i hie
  obtain ⟨pa, pa1, pa2, pa3, pa4, pa5, -⟩ := he.adr i hie
  rw [hx] at pa2
  have hd : K.drop i = gi K (i : Int) :: K.drop (i + 1) := by rw [gi_nat hlt]; simp
  have hsz := szL_get K i hlt
  rw [← gi_nat hlt] at hsz
  rw [hd] at hO
  generalize gi K (i : Int) = x at *
  obtain ⟨T, h, K', a⟩ := x
  simp only [Ln.toks, Ln.head, Ln.kids, Ln.at_, onlyF] at *
  rw [szN] at hsz
  have h38 := q38 T nt h kv.view a (by rw [one_view]; exact hone) (by omega)
  have w1 : W64 ((i : Int) + 1) ((i + 1 : Nat) : Int) := .mkI rfl (by omega) (by omega)
  simp [e0, e4, l4, e5, hm, hli, he.view, he.len, pa1, pa2, hone, objCells]
  refine wp_loop (fun n u => ∃ (j : Nat), n = ws.length - j ∧ j ≤ ws.length ∧ u.get 0 = v ∧ u.get 1 = vv none wn AV.str ws ∧ u.get 4 = .ptr (.loc 4 0) 0 ∧ u.loc 4 = [.cells false [AV.int IntKind.i64 0, AV.int IntKind.i64 0, AV.int IntKind.i64 0]] ∧ u.get 5 = AV.int IntKind.i64 (i : Nat) ∧ u.get 6 = .ptr (.loc 6 (t.loc 6).length) 0 ∧ u.loc 6 = t.loc 6 ++ [.cells false [vv none nt tv T, .bool h, kv.view, AV.int IntKind.i64 a]] ∧ u.get 7 = .bool (fndW (ws.take j) T) ∧ u.get 8 = AV.int IntKind.i64 (j : Nat) ∧ u.mem = []) ?_ ws.length _ ?_
  rotate_left
  · refine ⟨0, ?_⟩
    simp [e0, e1, e4, l4, e5, hm, fndW]
  rintro k u ⟨j, hk, hj, u0, u1, u4, m4, u5, u6, m6, u7, u8, um⟩
  by_cases hjt : j < ws.length
  · have hji : (j : Int) < ws.length := by omega
    have w2 : W64 ((j : Int) + 1) ((j + 1 : Nat) : Int) := .mkI rfl (by omega) (by omega)
    have hT : ws.take (j + 1) = ws.take j ++ [ws[j]] := by rw [List.take_add_one, List.getElem?_eq_getElem hjt]; rfl
    have hF : fndW (ws.take (j + 1)) T = (fndW (ws.take j) T || (match T with | p :: _ => decide (p.k = 1) && decide (p.t = ws[j]) | [] => false)) := by
      rw [hT]
      unfold fndW
      rw [List.any_append, List.any_cons, List.any_nil, Bool.or_false]
    cases hb : fndW (ws.take j) T with
    | true =>
      rw [hb] at u7 hF
      simp only [Bool.true_or] at hF
      simp [u0, u1, u4, m4, u5, u6, m6, u7, u8, um, hji, w2.eq, objCells, -Int.natCast_add]
      exact ⟨ws.length - (j + 1), by omega, j + 1, rfl, by omega, hF, rfl⟩
    | false =>
      rw [hb] at u7 hF
      simp only [Bool.false_or] at hF
      cases T with
      | nil =>
        simp [u0, u1, u4, m4, u5, u6, m6, u7, u8, um, hji, w2.eq, objCells, -Int.natCast_add]
        exact ⟨ws.length - (j + 1), by omega, j + 1, rfl, by omega, hF, rfl⟩
      | cons p T =>
        have hg0 : gi (p :: T) (0 : Int) = p := rfl
        have hTl : (0 : Int) < (T.length : Int) + 1 := by omega
        by_cases k1 : p.k = 1
        · simp [u0, u1, u4, m4, u5, u6, m6, u7, u8, um, hji, gi_nat hjt, hg0, et, k1, w2.eq, objCells, -et_def, -Int.natCast_add]
          exact ⟨ws.length - (j + 1), by omega, j + 1, rfl, by omega, by rw [hF, Bool.eq_iff_iff]; simp [k1], rfl⟩
        · simp [u0, u1, u4, m4, u5, u6, m6, u7, u8, um, hji, gi_nat hjt, hg0, et, k1, w2.eq, objCells, -et_def, -Int.natCast_add]
          exact ⟨ws.length - (j + 1), by omega, j + 1, rfl, by omega, by rw [hF]; simp [k1], rfl⟩
  · have hji : ¬ (j : Int) < ws.length := by omega
    rw [List.take_of_length_le (by omega), fndW_ok] at u7
    cases hb : okW ws T with
    | true =>
      rw [hb] at u7
      simp only [hb, if_true] at hO
      simp [u0, u1, u4, m4, u5, u6, m6, u7, u8, um, hji, w1.eq, objCells, -Int.natCast_add]
      exact ⟨K.length - (i + 1), by omega, i + 1, rfl, by omega, rfl, hO⟩
    | false =>
      rw [hb] at u7
      simp only [hb, Bool.false_eq_true, if_false] at hO
      simp [u0, u1, u4, m4, u5, u6, m6, u7, u8, um, hji, h38, ← hO, objCells, -Int.natCast_add]
end Go.Vm.Ch10
