/- Chapter 27: what its functions compute. -/
import Derived.Test.YtjlbiebejodecaaDoorC27i
namespace Go.Vm.Ch27
open _root_.Ch27 (T27 c20 c21 c22 c23 c25 c4)
set_option maxRecDepth 10000
set_option maxHeartbeats 8000000
abbrev lay (a b : Bool) (pl : List Plc) (lf : List Int) : AV := .agg [lv a pl, iv b lf]
theorem layV_eq (s : PS) : layV s = lay (!s.pl.isEmpty) (!s.lf.isEmpty) s.pl s.lf := rfl
theorem ord_ix (P : List Prt) : ∀ i ∈ ord P, 0 ≤ i ∧ i < P.length := by
  intro i hi
  unfold ord at hi
  obtain ⟨x, _, rfl⟩ := List.mem_map.1 hi
  exact x.2
theorem chk_inv {P : List Prt} {w h kf : Int} (hc : chk P w h kf = 0) : P.length ≤ 64 ∧ (∀ p ∈ P, (1 ≤ p.w ∧ p.w ≤ 1000000) ∧ (1 ≤ p.h ∧ p.h ≤ 1000000)) ∧ (1 ≤ w ∧ w ≤ 1000000) ∧ (1 ≤ h ∧ h ≤ 1000000) ∧ (0 ≤ kf ∧ kf ≤ 1000) := by
  unfold chk at hc
  split at hc
  · omega
  · split at hc
    · omega
    · split at hc
      · omega
      · rename_i h1 h2 h3
        simp only [Bool.or_eq_true, not_or, Bool.not_eq_true, Bool.not_eq_false', Bool.and_eq_true, decide_eq_true_eq] at h3
        obtain ⟨⟨h4, h5⟩, h6⟩ := h3
        rw [List.any_eq_false] at h4
        unfold sideB at h5
        simp only [decide_eq_true_eq] at h5
        refine ⟨by omega, fun p hp => ?_, h5.1, h5.2, by simpa using h6⟩
        have := h4 p hp
        unfold badP sideB at this
        simpa using this
theorem ok_of_chk {P : List Prt} {w h kf : Int} (hc : chk P w h kf = 0) : OK P w kf (ord P) := by
  obtain ⟨h1, h2, h3, h4, h5⟩ := chk_inv hc
  exact ⟨fun p hp => (h2 p hp).1, fun p hp => (h2 p hp).2, h3, h5, by rw [ord_len]; omega, ord_ix P⟩
theorem q20 (P : List Prt) (nn : Bool) (w h kf : Int) (hs : Sml P) (m : Mem) :
    callL T27 20 [pv nn P, AV.int IntKind.i64 w, AV.int IntKind.i64 h, AV.int IntKind.i64 kf] m = some (if chk P w h kf = 0 then (.tup [layV (packS P w h kf (ord P)), AV.int IntKind.i64 0], ordM P m) else (.tup [lay false false [] [], AV.int IntKind.i64 (chk P w h kf)], m)) := by
  have h14 := q14 P nn w h kf hs []
  have hl := hs.len
  by_cases hc : chk P w h kf = 0
  · rw [if_pos hc]
    apply callL_body (vf := c20) rfl rfl
    rw [hc] at h14
    have h18 := q18 P nn (by omega) m
    have hsl := ordV_sl P m
    obtain ⟨h1, h2, h3, h4, h5⟩ := chk_inv hc
    have h50 := q50 P nn w h kf (ord P) _ _ hsl (ok_of_chk hc) ⟨by omega, h4.2⟩
    simp [c20, h14, h18, h50, hsl.view, hsl.nl, layV]
  · rw [if_neg hc]
    apply callL_body (vf := c20) rfl rfl
    simp [c20, h14, hc]
    exact ⟨rfl, rfl⟩
theorem q23 (P : List Prt) (nn : Bool) (w h kf : Int) (hlen : P.length ≤ 1000000) (hok : OK P w kf (ord P)) (hh : 0 ≤ h ∧ h ≤ 1000000000) (m : Mem) :
    callL T27 23 [pv nn P, AV.int IntKind.i64 w, AV.int IntKind.i64 h, AV.int IntKind.i64 kf] m = some (layV (packS P w h kf (ord P)), m) := by
  have h19 := q19 P nn hlen []
  have h51 := q51 P nn w h kf (ord P) _ [] (IntSl.vec true [] (ord P)) hok hh
  apply callL_body (vf := c23) rfl rfl
  simp [c23, h19, h51, layV]
theorem q22 (a b : Bool) (pl : List Plc) (lf : List Int) (hl : pl.length ≤ 1000000) (m : Mem) : callL T27 22 [lay a b pl lf] m = some (lay (!pl.isEmpty) b pl lf, m) := by
  apply callL_body (vf := c22) rfl rfl
  simp [c22]
  refine wp_loop (fun n s => ∃ (i : Nat) (os : List LObj), n = pl.length - i ∧ i ≤ pl.length ∧ s.get 1 = .ptr (.loc 1 0) 0 ∧ s.loc 1 = [.cells false [lv a pl, iv b lf]] ∧ s.get 2 = .ptr (.loc 2 0) 0 ∧ s.loc 2 = [.cells false [.vec none false [], .vec none false []]] ∧
      s.get 3 = .ptr (.loc 3 0) 0 ∧ s.loc 3 = [.cells false [ov 4 eL (pl.take i), iv b lf]] ∧ s.get 4 = AV.int IntKind.i64 i ∧ s.loc 5 = os ∧ s.mem = m) ?_ pl.length _ ?_
  rotate_left
  · refine ⟨0, [], ?_⟩
    simp [ov]
  rintro n s ⟨i, os, hn, hi, e1, l1, e2, l2, e3, l3, e4, l5, hm⟩
  by_cases hlt : i < pl.length
  · have w1 : IntKind.wrap .i64 ((i : Int) + 1) = (i : Int) + 1 := wrap64 (by omega) (by omega)
    simp [e1, l1, e2, l2, e3, l3, e4, l5, hm, hlt, gi_nat hlt, w1]
    refine ⟨by omega, pl.length - (i + 1), by omega, i + 1, rfl, by omega, ?_, rfl⟩
    rw [List.take_succ_eq_append_getElem hlt, ← ov_snoc, List.map_take]
    rfl
  · have : i = pl.length := by omega
    subst this
    rw [List.take_length] at l3
    simp [e1, l1, e2, l2, e3, l3, e4, hm]
theorem q25 (a b : Bool) (pl : List Plc) (lf : List Int) (hl : pl.length ≤ 1000000) (m : Mem) : callL T27 25 [lay a b pl lf] m = some (lay (!pl.isEmpty) b pl lf, m) := by
  apply callL_body (vf := c25) rfl rfl
  simp [c25]
  refine wp_loop (fun n s => ∃ (i : Nat) (os : List LObj), n = pl.length - i ∧ i ≤ pl.length ∧ s.get 1 = .ptr (.loc 1 0) 0 ∧ s.loc 1 = [.cells false [lv a pl, iv b lf]] ∧ s.get 2 = .ptr (.loc 2 0) 0 ∧ s.loc 2 = [.cells false [.vec none false [], .vec none false []]] ∧
      s.get 3 = .ptr (.loc 3 0) 0 ∧ s.loc 3 = [.cells false [ov 4 eL (pl.take i), iv b lf]] ∧ s.get 4 = AV.int IntKind.i64 i ∧ s.loc 5 = os ∧ s.mem = m) ?_ pl.length _ ?_
  rotate_left
  · refine ⟨0, [], ?_⟩
    simp [ov]
  rintro n s ⟨i, os, hn, hi, e1, l1, e2, l2, e3, l3, e4, l5, hm⟩
  by_cases hlt : i < pl.length
  · have w1 : IntKind.wrap .i64 ((i : Int) + 1) = (i : Int) + 1 := wrap64 (by omega) (by omega)
    simp [e1, l1, e2, l2, e3, l3, e4, l5, hm, hlt, gi_nat hlt, w1]
    refine ⟨by omega, pl.length - (i + 1), by omega, i + 1, rfl, by omega, ?_, rfl⟩
    rw [List.take_succ_eq_append_getElem hlt, ← ov_snoc, List.map_take]
    rfl
  · have : i = pl.length := by omega
    subst this
    rw [List.take_length] at l3
    simp [e1, l1, e2, l2, e3, l3, e4, hm]
theorem plc_eq (p q : Plc) : eqCells (el p) (el q) [(0, 0), (1, 0), (2, 0), (3, 0)] = some (decide (p = q)) := by
  cases p; cases q
  rename_i a b c d a' b' c' d'
  have e : ∀ x y : Int, (x == y) = decide (x = y) := fun x y => rfl
  by_cases h1 : a = a'
  · by_cases h2 : b = b'
    · by_cases h3 : c = c'
      · by_cases h4 : d = d' <;> simp [el, e, h1, h2, h3, h4]
      · simp [el, e, h1, h2, h3]
    · simp [el, e, h1, h2]
  · simp [el, e, h1]
theorem q21 (a b c d : Bool) (pl pl' : List Plc) (lf lf' : List Int) (hl : pl.length ≤ 1000000) (hl2 : lf.length ≤ 1000000) (m : Mem) :
    callL T27 21 [lay a b pl lf, lay c d pl' lf'] m = some (.bool (decide (pl = pl' ∧ lf = lf')), m) := by
  apply callL_body (vf := c21) rfl rfl
  by_cases h1 : pl.length = pl'.length
  rotate_left
  · have h1' : ¬ (pl.length : Int) = pl'.length := by omega
    have hd : ¬ pl = pl' := by intro e; rw [e] at h1; exact absurd rfl h1
    simp [c21, h1', hd]
  have h1' : (pl.length : Int) = pl'.length := by omega
  by_cases h2 : lf.length = lf'.length
  rotate_left
  · have h2' : ¬ (lf.length : Int) = lf'.length := by omega
    have hd : ¬ lf = lf' := by intro e; rw [e] at h2; exact absurd rfl h2
    simp [c21, h1', h2', hd]
  have h2' : (lf.length : Int) = lf'.length := by omega
  simp [c21, h1', h2']
  refine wp_loop (fun n s => ∃ (i : Nat), n = pl.length - i ∧ i ≤ pl.length ∧ s.get 2 = .ptr (.loc 2 0) 0 ∧ s.loc 2 = [.cells false [lv a pl, iv b lf]] ∧ s.get 3 = .ptr (.loc 3 0) 0 ∧ s.loc 3 = [.cells false [lv c pl', iv d lf']] ∧ s.get 5 = AV.int IntKind.i64 i ∧ s.mem = m ∧ ∀ j, j < i → pl[j]? = pl'[j]?) ?_ pl.length _ ?_
  rotate_left
  · exact ⟨0, by simp⟩
  rintro n s ⟨i, hn, hi, e2, l2, e3, l3, e5, hm, hbef⟩
  by_cases hlt : i < pl.length
  · have w1 : IntKind.wrap .i64 ((i : Int) + 1) = (i : Int) + 1 := wrap64 (by omega) (by omega)
    have hlt' : i < pl'.length := by omega
    have hlI : (i : Int) < pl'.length := by omega
    have he := plc_eq pl[i] pl'[i]
    have hpe : pl[i]? = some pl[i] := List.getElem?_eq_getElem hlt
    have hpe' : pl'[i]? = some pl'[i] := List.getElem?_eq_getElem hlt'
    have gp := gi_nat hlt
    have gp' := gi_nat hlt'
    have hne : ¬ pl[i] = pl'[i] → ¬ pl = pl' := fun h e => h (by subst e; rfl)
    generalize pl[i] = p at *
    generalize pl'[i] = p' at *
    by_cases hz : p = p'
    · simp only [hz, decide_true] at he
      simp [e2, l2, e3, l3, e5, hm, hlt, hlI, gp, gp', hz, he, w1, -eqCells]
      refine ⟨pl.length - (i + 1), by omega, i + 1, rfl, by omega, rfl, fun j hj => ?_⟩
      by_cases e : j = i
      · subst e; rw [hpe, hpe', hz]
      · exact hbef j (by omega)
    · simp only [hz, decide_false] at he
      simp [e2, l2, e3, l3, e5, hm, hlt, hlI, gp, gp', he, hne hz, -eqCells]
  have hii : i = pl.length := by omega
  have hpl : pl = pl' := by
    apply List.ext_getElem? 
    intro j
    by_cases hj : j < i
    · exact hbef j hj
    · rw [List.getElem?_eq_none (by omega), List.getElem?_eq_none (by omega)]
  subst hpl
  simp [e2, l2, e5, hlt]
  refine wp_loop (fun n s => ∃ (i : Nat), n = lf.length - i ∧ i ≤ lf.length ∧ s.get 2 = .ptr (.loc 2 0) 0 ∧ s.loc 2 = [.cells false [lv a pl, iv b lf]] ∧ s.get 3 = .ptr (.loc 3 0) 0 ∧ s.loc 3 = [.cells false [lv c pl, iv d lf']] ∧ s.get 6 = AV.int IntKind.i64 i ∧ s.mem = m ∧ ∀ j, j < i → lf[j]? = lf'[j]?) ?_ lf.length _ ?_
  rotate_left
  · exact ⟨0, by simp [e2, l2, e3, l3, hm]⟩
  clear hii hbef e2 l2 e3 l3 e5 hm hlt hi hn
  rintro n s ⟨i, hn, hi, e2, l2, e3, l3, e6, hm, hbef⟩
  by_cases hlt : i < lf.length
  · have w1 : IntKind.wrap .i64 ((i : Int) + 1) = (i : Int) + 1 := wrap64 (by omega) (by omega)
    have hlt' : i < lf'.length := by omega
    have hlI : (i : Int) < lf'.length := by omega
    have hpe : lf[i]? = some lf[i] := List.getElem?_eq_getElem hlt
    have hpe' : lf'[i]? = some lf'[i] := List.getElem?_eq_getElem hlt'
    have gp := gi_nat hlt
    have gp' := gi_nat hlt'
    have hne : ¬ lf[i] = lf'[i] → ¬ lf = lf' := fun h e => h (by subst e; rfl)
    generalize lf[i] = p at *
    generalize lf'[i] = p' at *
    by_cases hz : p = p'
    · simp [e2, l2, e3, l3, e6, hm, hlt, hlI, gp, gp', hz, w1]
      refine ⟨lf.length - (i + 1), by omega, i + 1, rfl, by omega, rfl, fun j hj => ?_⟩
      by_cases e : j = i
      · subst e; rw [hpe, hpe', hz]
      · exact hbef j (by omega)
    · simp [e2, l2, e3, l3, e6, hm, hlt, hlI, gp, gp', hz, hne hz]
  have hlf : lf = lf' := by
    apply List.ext_getElem?
    intro j
    by_cases hj : j < i
    · exact hbef j hj
    · rw [List.getElem?_eq_none (by omega), List.getElem?_eq_none (by omega)]
  subst hlf
  simp [e2, l2, e6, hm, hlt]
theorem law4 (P : List Prt) (nn : Bool) (w h kf : Int) (hlen : (P.length : Int) ≤ 9223372036854775807) : ∃ m, callL T27 4 [pv nn P, AV.int IntKind.i64 w, AV.int IntKind.i64 h, AV.int IntKind.i64 kf] [] = some (.bool true, m) := by
  obtain ⟨m0, haw⟩ := awake
  have h13 := q13' P nn 80 hlen []
  by_cases hs : (P.length : Int) ≤ 80 ∧ ∀ b ∈ P, b.name.length ≤ 60
  rotate_left
  · refine ⟨m0, ?_⟩
    rw [decide_eq_false hs] at h13
    apply callL_body (vf := c4) rfl rfl
    simp [c4, haw, h13]
  have hsm := sml_of (n := 80) (by omega) hs
  have hl := hsm.len
  rw [decide_eq_true hs] at h13
  have h15 := q15 P nn (by omega) []
  have h20 := q20 P true w h kf hsm m0
  have h16 := q16 P nn w h kf hsm []
  by_cases hc : chk P w h kf = 0
  · obtain ⟨h1, h2, h3, h4, h5⟩ := chk_inv hc
    have hok := ok_of_chk hc
    have h23 := q23 P nn w h kf (by omega) hok (by omega) []
    have hinv := inv_pack (h := h) hok (ord P).length (Nat.le_refl _)
    rw [List.take_length] at hinv
    have hol := ord_len P
    rw [if_pos hc] at h20
    rw [hc] at h16
    generalize packS P w h kf (ord P) = S at *
    have h22 := q22 (!S.pl.isEmpty) (!S.lf.isEmpty) S.pl S.lf (by have := hinv.pl; omega) []
    have h21 := q21 (!S.pl.isEmpty) (!S.lf.isEmpty) (!S.pl.isEmpty) (!S.lf.isEmpty) S.pl S.pl S.lf S.lf (by have := hinv.pl; omega) (by have := hinv.lf; omega) []
    refine ⟨ordM P m0, ?_⟩
    apply callL_body (vf := c4) rfl rfl
    simp only [layV] at h20 h23
    simp [c4, haw, h13, h15, h20, h16, h22, h23, h21]
  · rw [if_neg hc] at h20
    have h22 := q22 false false [] [] (by simp) []
    have h21 : callL T27 21 [lay false false [] [], .agg [.vec none false [], .vec none false []]] [] = some (.bool true, []) := by
      have := q21 false false false false [] [] [] [] (by simp) (by simp) []
      rw [decide_eq_true ⟨rfl, rfl⟩] at this
      exact this
    refine ⟨m0, ?_⟩
    apply callL_body (vf := c4) rfl rfl
    have hc' : ¬ chk P w h kf = 0 := hc
    generalize chk P w h kf = C at *
    have h22' : callL T27 22 [lay false false [] []] [] = some (lay false false [] [], []) := h22
    simp [c4, haw, h13, h15, h20, h16, hc', h22', h21]
end Go.Vm.Ch27
