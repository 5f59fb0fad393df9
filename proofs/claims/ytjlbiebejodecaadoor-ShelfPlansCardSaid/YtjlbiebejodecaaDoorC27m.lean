/- Chapter 27: what its functions compute. -/
import Derived.Test.YtjlbiebejodecaaDoorC27l
namespace Go.Vm.Ch27
open _root_.Ch27 (T27 c34 c62 c35 c63 c36 c8)
set_option maxRecDepth 10000
set_option maxHeartbeats 8000000
def bigB (P : List Prt) (w h : Int) : Bool := P.any fun p => decide (w < p.w ∨ h < p.h)
def highB (P : List Prt) (h : Int) : Bool := P.any fun p => decide (h < p.h)
theorem big_or (P : List Prt) (w h : Int) : bigB P w h = (wideB P w || highB P h) := by
  rw [Bool.eq_iff_iff]
  unfold bigB wideB highB
  simp only [List.any_eq_true, Bool.or_eq_true, decide_eq_true_eq]
  constructor
  · rintro ⟨p, hp, h | h⟩
    · exact .inl ⟨p, hp, h⟩
    · exact .inr ⟨p, hp, h⟩
  · rintro (⟨p, hp, h⟩ | ⟨p, hp, h⟩)
    · exact ⟨p, hp, .inl h⟩
    · exact ⟨p, hp, .inr h⟩
def lrg (P : List Prt) (w h kf : Int) : Int := if chk P w h kf = 0 then (if bigB P w h then 12 else 0) else chk P w h kf
theorem q62 (p : Prt) (w h : Int) (m : Mem) : callL T27 62 [.agg (ep p), .vptr [AV.int IntKind.i64 w] 0, .vptr [AV.int IntKind.i64 h] 0] m = some (.bool (decide (w < p.w ∨ h < p.h)), m) := by
  apply callL_body (vf := c62) rfl rfl
  by_cases h1 : w < p.w
  · simp [c62, h1]
  · by_cases h2 : h < p.h <;> simp [c62, h1, h2]
theorem q63 (P : List Prt) (nn : Bool) (w : Int) (hl : P.length ≤ 1000000) (m : Mem) : callL T27 63 [pv nn P, AV.int IntKind.i64 w] m = some (.bool (highB P w), m) := by
  apply callL_body (vf := c63) rfl rfl
  simp [c63]
  refine wp_loop (fun n s => ∃ i : Nat, n = P.length - i ∧ i ≤ P.length ∧ s.get 0 = pv nn P ∧ s.get 1 = AV.int IntKind.i64 w ∧ s.get 5 = AV.int IntKind.i64 i ∧ s.mem = m ∧ ∀ j (h : j < P.length), j < i → ¬ w < P[j].h) ?_ P.length _ ?_
  rotate_left
  · exact ⟨0, by simp⟩
  rintro n s ⟨i, hn, hi, e0, e1, e5, hm, hbef⟩
  have w1 : IntKind.wrap .i64 ((i : Int) + 1) = (i : Int) + 1 := wrap64 (by omega) (by omega)
  by_cases hlt : i < P.length
  · by_cases hz : w < P[i].h
    · have : highB P w = true := by unfold highB; rw [List.any_eq_true]; exact ⟨_, List.getElem_mem hlt, by simpa using hz⟩
      simp [e0, e1, e5, hm, hlt, gi_nat hlt, hz, this]
    · simp [e0, e1, e5, hm, hlt, gi_nat hlt, hz, w1]
      refine ⟨P.length - (i + 1), by omega, i + 1, rfl, by omega, rfl, fun j hj hlt => ?_⟩
      by_cases e : j = i
      · subst e; omega
      · have := hbef j hj (by omega); omega
  have hna : highB P w = false := by
    unfold highB
    rw [List.any_eq_false]
    intro x hx
    obtain ⟨j, hj, rfl⟩ := List.getElem_of_mem hx
    simpa using hbef j hj (by omega)
  simp [e0, e5, hm, hlt, hna]
theorem q35 (P : List Prt) (nn : Bool) (w h kf : Int) (hs : Sml P) (m : Mem) : callL T27 35 [pv nn P, AV.int IntKind.i64 w, AV.int IntKind.i64 h, AV.int IntKind.i64 kf] m = some (AV.int IntKind.i64 (lrg P w h kf), m) := by
  have hl := hs.len
  have h16 := q16 P nn w h kf hs []
  have h58 := q58 P nn w (by omega) []
  have h63 := q63 P nn h (by omega) []
  apply callL_body (vf := c35) rfl rfl
  unfold lrg
  by_cases hc : chk P w h kf = 0
  · rw [hc] at h16
    rw [big_or]
    cases hW : wideB P w <;> cases hH : highB P h <;> rw [hW] at h58 <;> rw [hH] at h63 <;> simp [c35, h16, h58, h63, hc]
  · simp [c35, h16, hc]
structure Fit (P : List Prt) (w h : Int) (o : List Int) : Prop where
  w : ∀ i ∈ o, (gi P i).w ≤ w
  h : ∀ i ∈ o, (gi P i).h ≤ h
theorem pack_len {P : List Prt} {w h kf : Int} {o : List Int} (hok : OK P w kf o) : (packS P w h kf o).pl.length + (packS P w h kf o).lf.length = o.length :=
  pack_ind (I := fun i S => S.pl.length + S.lf.length = i) hok (by simp [ini]) fun i hi S hI hv => by
    unfold stepP
    split
    · simp; omega
    · split <;> (simp; omega)
theorem pack_sub {P : List Prt} {w h kf : Int} {o : List Int} (hok : OK P w kf o) : ∀ i ∈ (packS P w h kf o).lf, i ∈ o :=
  pack_ind (I := fun _ S => ∀ i ∈ S.lf, i ∈ o) hok (by simp [ini]) fun i hi S hI hv => by
    unfold stepP
    split
    · exact hI
    · split
      · intro j hj
        rcases List.mem_append.1 hj with hj | hj
        · exact hI j hj
        · rw [List.mem_singleton.1 hj]; exact List.getElem_mem hi
      · exact hI
theorem pack_pos {P : List Prt} {w h kf : Int} {o : List Int} (hok : OK P w kf o) (hf : Fit P w h o) (hne : o ≠ []) : (packS P w h kf o).pl ≠ [] := by
  have := pack_ind (h := h) (I := fun i S => (0 < i → S.pl ≠ []) ∧ (i = 0 → S = ini kf)) hok (by simp) fun i hi S hI hv => by
    refine ⟨fun _ => ?_, by omega⟩
    by_cases h0 : i = 0
    · have := hI.2 h0
      subst this
      have a1 := hf.w _ (List.getElem_mem hi)
      have a2 := hf.h _ (List.getElem_mem hi)
      unfold stepP
      rw [if_neg (by simp [ini]), if_neg (by simp only [ini]; omega)]
      simp
    · have := hI.1 (by omega)
      unfold stepP
      split
      · simp
      · split
        · exact this
        · simp
  exact this.1 (List.length_pos_iff.2 hne)
/-- The states of the sheets, one after the other. -/
def sheetsS (P : List Prt) (w h kf : Int) (o : List Int) : List PS :=
  if _hh : o ≠ [] ∧ (packS P w h kf o).lf.length < o.length then packS P w h kf o :: sheetsS P w h kf (packS P w h kf o).lf else []
  termination_by o.length
  decreasing_by exact _hh.2
theorem sheets_nil (P : List Prt) (w h kf : Int) : sheetsS P w h kf [] = [] := by rw [sheetsS, dif_neg (by simp)]
theorem sheets_cons {P : List Prt} {w h kf : Int} {o : List Int} (hok : OK P w kf o) (hf : Fit P w h o) (hne : o ≠ []) : sheetsS P w h kf o = packS P w h kf o :: sheetsS P w h kf (packS P w h kf o).lf ∧ (packS P w h kf o).lf.length < o.length := by
  have h1 := pack_len (h := h) hok
  have h2 := List.length_pos_iff.2 (pack_pos hok hf hne)
  have h3 : (packS P w h kf o).lf.length < o.length := by omega
  refine ⟨?_, h3⟩
  rw [sheetsS, dif_pos ⟨hne, h3⟩]
theorem OK.lf {P : List Prt} {w h kf : Int} {o : List Int} (hok : OK P w kf o) : OK P w kf (packS P w h kf o).lf :=
  ⟨hok.wd, hok.hg, hok.w1, hok.k1, by have := pack_len (h := h) hok; have := hok.len; omega, fun i hi => hok.ix i (pack_sub hok i hi)⟩
theorem Fit.lf {P : List Prt} {w h kf : Int} {o : List Int} (hok : OK P w kf o) (hf : Fit P w h o) : Fit P w h (packS P w h kf o).lf :=
  ⟨fun i hi => hf.w i (pack_sub hok i hi), fun i hi => hf.h i (pack_sub hok i hi)⟩
theorem fit_ord {P : List Prt} {w h : Int} (hb : bigB P w h = false) : Fit P w h (ord P) := by
  unfold bigB at hb
  rw [List.any_eq_false] at hb
  constructor
  · intro i hi
    have := hb _ (gi_memP (ord_ix P i hi))
    simp at this; omega
  · intro i hi
    have := hb _ (gi_memP (ord_ix P i hi))
    simp at this; omega
theorem lrg_inv {P : List Prt} {w h kf : Int} (hl : lrg P w h kf = 0) : chk P w h kf = 0 ∧ bigB P w h = false := by
  unfold lrg at hl
  split at hl
  · rename_i hc
    refine ⟨hc, ?_⟩
    split at hl
    · omega
    · rename_i hb; simpa using hb
  · rename_i hc; exact absurd hl hc
theorem q34 (P : List Prt) (nn : Bool) (w h kf : Int) (hs : Sml P) (m : Mem) :
    callL T27 34 [pv nn P, AV.int IntKind.i64 w, AV.int IntKind.i64 h, AV.int IntKind.i64 kf] m = some (if lrg P w h kf = 0 then (.tup [ovn layV (sheetsS P w h kf (ord P)), AV.int IntKind.i64 0], ordM P m) else (.tup [ovn layV [], AV.int IntKind.i64 (lrg P w h kf)], m)) := by
  have hl := hs.len
  have h14 := q14 P nn w h kf hs []
  have h38 := q38 P nn 62 [.vptr [AV.int IntKind.i64 w] 0, .vptr [AV.int IntKind.i64 h] 0] (fun p => decide (w < p.w ∨ h < p.h)) (fun z _ => q62 z w h []) (by omega) []
  have e : (P.any fun p => decide (w < p.w ∨ h < p.h)) = bigB P w h := rfl
  rw [e] at h38
  by_cases hc : lrg P w h kf = 0
  rotate_left
  · rw [if_neg hc]
    unfold lrg at hc ⊢
    by_cases hk : chk P w h kf = 0
    · rw [if_pos hk] at hc ⊢
      rw [hk] at h14
      cases hB : bigB P w h
      · rw [hB] at hc; exact absurd rfl hc
      · rw [hB] at h38
        apply callL_body (vf := c34) rfl rfl
        simp [c34, h14, h38]
        rfl
    · rw [if_neg hk]
      apply callL_body (vf := c34) rfl rfl
      simp [c34, h14, hk]
      rfl
  rw [if_pos hc]
  obtain ⟨hk, hB⟩ := lrg_inv hc
  rw [hk] at h14
  rw [hB] at h38
  obtain ⟨h1, h2, h3, h4, h5⟩ := chk_inv hk
  have h18 := q18 P nn (by omega) m
  have hsl := ordV_sl P m
  have hok0 := ok_of_chk hk
  have hf0 := fit_ord hB
  have hol := ord_len P
  apply callL_body (vf := c34) rfl rfl
  simp [c34, h14, h38, h18, hsl.tk]
  refine wp_loop (fun n s => ∃ (D : List PS) (o : List Int) (v : AV) (os : List LObj), n = o.length ∧ OK P w kf o ∧ Fit P w h o ∧ D.length + o.length ≤ 80 ∧ IntSl v (ordM P m) o ∧ sheetsS P w h kf (ord P) = D ++ sheetsS P w h kf o ∧ s.get 0 = pv nn P ∧ s.get 3 = AV.int IntKind.i64 kf ∧
      s.get 5 = .ptr (.loc 5 0) 0 ∧ s.loc 5 = [.cells true [AV.int IntKind.i64 w]] ∧ s.get 6 = .ptr (.loc 6 0) 0 ∧ s.loc 6 = [.cells true [AV.int IntKind.i64 h]] ∧ s.get 11 = ov 2 layV D ∧ s.get 12 = v ∧ s.loc 13 = os ∧ s.mem = ordM P m) ?_ (ord P).length _ ?_
  rotate_left
  · refine ⟨[], ord P, ordV P m, [], rfl, hok0, hf0, by simp; omega, hsl, by simp, ?_⟩
    simp [ov]
  rintro n s ⟨D, o, v, os, hn, hok, hf, hlen, hv, hsh, e0, e3, e5, l5, e6, l6, e11, e12, l13, hm⟩
  by_cases hne : o = []
  · subst hne
    rw [sheets_nil, List.append_nil] at hsh
    rw [hsh]
    simp [e12, hv.view, hv.len, e11, hm]
  · obtain ⟨hc1, hc2⟩ := sheets_cons hok hf hne
    have hpos : 0 < o.length := List.length_pos_iff.2 hne
    have h50 := q50 P nn w h kf o v (ordM P m) hv hok (by omega)
    have hok' := hok.lf (h := h)
    have hf' := hf.lf hok
    rw [hc1] at hsh
    generalize packS P w h kf o = S at *
    have hsnoc := ov_snoc (z := 2) (e := layV) (xs := D) (x := S)
    simp only [layV] at hsnoc h50
    simp [e12, hv.view, hv.nl, hv.len, hpos, e0, e3, e5, l5, e6, l6, e11, l13, hm, h50]
    refine ⟨by omega, S.lf.length, by omega, D ++ [S], S.lf, rfl, hok', hf', by simp; omega, ?_⟩
    exact ⟨_, IntSl.vec _ (ordM P m) S.lf, by rw [hsh]; simp, hsnoc, rfl⟩
theorem q36 (P : List Prt) (nn : Bool) (w h kf : Int) (hlen : P.length ≤ 1000000) (hok0 : OK P w kf (ord P)) (hf0 : Fit P w h (ord P)) (h4 : 1 ≤ h ∧ h ≤ 1000000) (m : Mem) :
    callL T27 36 [pv nn P, AV.int IntKind.i64 w, AV.int IntKind.i64 h, AV.int IntKind.i64 kf] m = some (vv none true layV (sheetsS P w h kf (ord P)), m) := by
  have h19 := q19 P nn hlen []
  apply callL_body (vf := c36) rfl rfl
  simp [c36, h19]
  have hol := hok0.len
  refine wp_loop (fun n s => ∃ (D : List PS) (o : List Int) (v : AV) (os : List LObj), n = o.length ∧ OK P w kf o ∧ Fit P w h o ∧ D.length + o.length ≤ 80 ∧ IntSl v [] o ∧ sheetsS P w h kf (ord P) = D ++ sheetsS P w h kf o ∧ s.get 0 = pv nn P ∧ s.get 1 = AV.int IntKind.i64 w ∧ s.get 2 = AV.int IntKind.i64 h ∧ s.get 3 = AV.int IntKind.i64 kf ∧
      s.get 9 = vv (some 2) true layV D ∧ s.get 10 = v ∧ s.loc 11 = os ∧ s.mem = m) ?_ (ord P).length _ ?_
  rotate_left
  · refine ⟨[], ord P, iv true (ord P), [], rfl, hok0, hf0, by simp; omega, IntSl.vec _ _ _, by simp, ?_⟩
    simp [vv]
  rintro n s ⟨D, o, v, os, hn, hok, hf, hlen, hv, hsh, e0, e1, e2, e3, e9, e10, l11, hm⟩
  by_cases hne : o = []
  · subst hne
    rw [sheets_nil, List.append_nil] at hsh
    rw [hsh]
    simp [e10, hv.view, hv.nl, hv.len, e9, hm]
  · obtain ⟨hc1, hc2⟩ := sheets_cons hok hf hne
    have hpos : 0 < o.length := List.length_pos_iff.2 hne
    have h51 := q51 P nn w h kf o v [] hv hok (by omega)
    have hok' := hok.lf (h := h)
    have hf' := hf.lf hok
    rw [hc1] at hsh
    generalize packS P w h kf o = S at *
    have hsnoc : AV.vec (some 2) true (D.map layV ++ [layV S]) = vv (some 2) true layV (D ++ [S]) := by simp [vv]
    simp only [layV] at hsnoc h51
    simp [e10, hv.view, hv.nl, hv.len, hpos, e0, e1, e2, e3, e9, l11, hm, h51]
    refine ⟨by omega, S.lf.length, by omega, D ++ [S], S.lf, rfl, hok', hf', by simp; omega, ?_⟩
    exact ⟨_, IntSl.vec _ [] S.lf, by rw [hsh]; simp, hsnoc, rfl⟩
theorem sheets_b {P : List Prt} {w h kf : Int} : ∀ (n : Nat) (o : List Int), o.length ≤ n → OK P w kf o → Fit P w h o → (sheetsS P w h kf o).length ≤ o.length ∧ ∀ S ∈ sheetsS P w h kf o, S.pl.length ≤ 80 ∧ S.lf.length ≤ 80
  | 0, o, hn, _, _ => by
    have : o = [] := List.length_eq_zero_iff.1 (by omega)
    subst this; rw [sheets_nil]; simp
  | n + 1, o, hn, hok, hf => by
    by_cases hne : o = []
    · subst hne; rw [sheets_nil]; simp
    · obtain ⟨hc1, hc2⟩ := sheets_cons hok hf hne
      obtain ⟨i1, i2⟩ := sheets_b n (packS P w h kf o).lf (by omega) (hok.lf (h := h)) (hf.lf hok)
      have hpl := pack_len (h := h) hok
      have := hok.len
      rw [hc1]
      refine ⟨by simp; omega, fun S hS => ?_⟩
      rcases List.mem_cons.1 hS with rfl | hS
      · omega
      · exact i2 S hS
theorem law8 (P : List Prt) (nn : Bool) (w h kf : Int) (hlen : (P.length : Int) ≤ 9223372036854775807) : ∃ m, callL T27 8 [pv nn P, AV.int IntKind.i64 w, AV.int IntKind.i64 h, AV.int IntKind.i64 kf] [] = some (.bool true, m) := by
  obtain ⟨m0, haw⟩ := awake
  have h13 := q13' P nn 40 hlen []
  by_cases hs : (P.length : Int) ≤ 40 ∧ ∀ b ∈ P, b.name.length ≤ 60
  rotate_left
  · refine ⟨m0, ?_⟩
    rw [decide_eq_false hs] at h13
    apply callL_body (vf := c8) rfl rfl
    simp [c8, haw, h13]
  have hsm := sml_of (n := 40) (by omega) hs
  have hl := hsm.len
  rw [decide_eq_true hs] at h13
  have h15 := q15 P nn (by omega) []
  have h34 := q34 P true w h kf hsm m0
  have h35 := q35 P nn w h kf hsm []
  by_cases hc : lrg P w h kf = 0
  rotate_left
  · rw [if_neg hc] at h34
    refine ⟨m0, ?_⟩
    apply callL_body (vf := c8) rfl rfl
    simp [c8, haw, h13, h15, h34, h35, hc]
  rw [if_pos hc] at h34
  rw [hc] at h35
  obtain ⟨hk, hB⟩ := lrg_inv hc
  obtain ⟨h1, h2, h3, h4, h5⟩ := chk_inv hk
  have hok := ok_of_chk hk
  have hf := fit_ord hB
  have h36 := q36 P nn w h kf (by omega) hok hf h4 []
  have hsb := sheets_b _ (ord P) (Nat.le_refl _) hok hf
  have hol := ord_len P
  generalize sheetsS P w h kf (ord P) = L at *
  refine ⟨ordM P m0, ?_⟩
  apply callL_body (vf := c8) rfl rfl
  simp [c8, haw, h13, h15, h34, h35, h36]
  refine wp_loop (fun n s => ∃ (i : Nat), n = L.length - i ∧ i ≤ L.length ∧ s.get 9 = ovn layV L ∧ s.get 12 = vv none true layV L ∧ s.get 13 = AV.int IntKind.i64 i ∧ s.mem = ordM P m0) ?_ L.length _ ?_
  rotate_left
  · exact ⟨0, by simp⟩
  rintro n s ⟨i, hn, hi, e9, e12, e13, hm⟩
  by_cases hlt : i < L.length
  · have gp := gi_nat hlt
    have hb := hsb.2 _ (List.getElem_mem hlt)
    generalize L[i] = S at *
    have w1 : IntKind.wrap .i64 ((i : Int) + 1) = (i : Int) + 1 := wrap64 (by omega) (by omega)
    have h22 := q22 (!S.pl.isEmpty) (!S.lf.isEmpty) S.pl S.lf (by omega) []
    have h21 := q21 (!S.pl.isEmpty) (!S.lf.isEmpty) (!S.pl.isEmpty) (!S.lf.isEmpty) S.pl S.pl S.lf S.lf (by omega) (by omega) []
    have hlay : layV S = lay (!S.pl.isEmpty) (!S.lf.isEmpty) S.pl S.lf := rfl
    simp [e9, e12, e13, hm, hlt, gp, hlay, h22, h21, w1]
    exact ⟨L.length - (i + 1), by omega, i + 1, rfl, by omega, rfl⟩
  · have hii : i = L.length := by omega
    subst hii
    simp [e9, e13, hm]
end Go.Vm.Ch27
