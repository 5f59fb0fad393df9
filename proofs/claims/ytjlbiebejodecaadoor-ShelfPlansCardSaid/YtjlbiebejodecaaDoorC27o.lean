/- Chapter 27: what its functions compute. -/
import Derived.Test.YtjlbiebejodecaaDoorC27n
namespace Go.Vm.Ch27
open _root_.Ch27 (T27 c11)
set_option maxRecDepth 10000
set_option maxHeartbeats 8000000
structure On (P : List Prt) (w h : Int) (q : Plc) : Prop where
  p : 0 ≤ q.part ∧ q.part < P.length
  x : 0 ≤ q.x ∧ q.x + (gi P q.part).w ≤ w
  y : 0 ≤ q.y ∧ q.y + (gi P q.part).h ≤ h
structure InvO (P : List Prt) (w h kf : Int) (o : List Int) (i : Nat) (S : PS) : Prop where
  on : ∀ q ∈ S.pl, On P w h q
  b : 0 ≤ S.num → S.top ≤ h ∧ (∀ j (hj : j < o.length), i ≤ j → (gi P o[j]).h ≤ S.top - S.y) ∧ 0 ≤ S.y ∧ 0 ≤ S.top
  c : S.num < 0 → S.top = -kf
def Sorted (P : List Prt) (o : List Int) : Prop := o.Pairwise fun i j => (gi P j).h ≤ (gi P i).h
theorem pack_on {P : List Prt} {w h kf : Int} {o : List Int} (hok : OK P w kf o) (hs : Sorted P o) (h0 : 0 ≤ h) : ∀ q ∈ (packS P w h kf o).pl, On P w h q := by
  have := pack_ind (I := InvO P w h kf o) (h := h) hok ⟨by simp [ini], by simp [ini], by simp [ini]⟩ fun i hi S hI hv => by
    have hix := hok.ix _ (List.getElem_mem hi)
    have hpm := gi_memP hix
    have hh := hok.hg _ hpm
    have hk := hok.k1
    have hn := hv.n1
    have hx := hv.x1
    have hsort : ∀ j (hj : j < o.length), i + 1 ≤ j → (gi P o[j]).h ≤ (gi P o[i]).h := fun j hj hij => List.pairwise_iff_getElem.1 hs i j hi hj (by omega)
    obtain ⟨a1, a2, a3⟩ := hI
    unfold stepP
    split
    · rename_i c
      obtain ⟨b1, b2, b3, b4⟩ := a2 c.1
      have hhi := b2 i hi (Nat.le_refl _)
      refine ⟨fun q hq => ?_, fun _ => ⟨b1, fun j hj hij => b2 j hj (by omega), b3, b4⟩, fun hneg => by simp at hneg; omega⟩
      rcases List.mem_append.1 hq with hq | hq
      · exact a1 q hq
      · rw [List.mem_singleton.1 hq]
        exact ⟨hix, ⟨hx.1, c.2⟩, ⟨b3, by simp only; omega⟩⟩
    · split
      · exact ⟨a1, fun hp => ⟨(a2 hp).1, fun j hj hij => (a2 hp).2.1 j hj (by omega), (a2 hp).2.2⟩, a3⟩
      · rename_i c3
        have ht : 0 ≤ S.top + kf := by
          by_cases c0 : 0 ≤ S.num
          · have := (a2 c0).2.2.2; omega
          · have := a3 (by omega); omega
        refine ⟨fun q hq => ?_, fun _ => ⟨by simp only; omega, fun j hj hij => ?_, ht, by simp only; omega⟩, fun hneg => by simp at hneg; omega⟩
        · rcases List.mem_append.1 hq with hq | hq
          · exact a1 q hq
          · rw [List.mem_singleton.1 hq]
            exact ⟨hix, ⟨by simp only; omega, by simp only; omega⟩, ⟨ht, by simp only; omega⟩⟩
        · have := hsort j hj hij
          simp only; omega
  exact this.on
theorem pack_lfsub {P : List Prt} {w h kf : Int} {o : List Int} (hok : OK P w kf o) : (packS P w h kf o).lf.Sublist o := by
  have := pack_ind (I := fun i S => S.lf.Sublist (o.take i)) (h := h) hok (by simp [ini]) fun i hi S hI hv => by
    rw [List.take_succ_eq_append_getElem hi]
    unfold stepP
    split
    · exact hI.trans (List.sublist_append_left _ _)
    · split
      · exact hI.append (List.Sublist.refl _)
      · exact hI.trans (List.sublist_append_left _ _)
  rw [List.take_length] at this
  exact this
theorem pack_perm {P : List Prt} {w h kf : Int} {o : List Int} (hok : OK P w kf o) : ((packS P w h kf o).pl.map (·.part) ++ (packS P w h kf o).lf).Perm o := by
  have := pack_ind (I := fun i S => (S.pl.map (·.part) ++ S.lf).Perm (o.take i)) (h := h) hok (by simp [ini]) fun i hi S hI hv => by
    rw [List.take_succ_eq_append_getElem hi]
    have key : (S.pl.map (·.part) ++ [o[i]] ++ S.lf).Perm (o.take i ++ [o[i]]) := by
      refine List.Perm.trans ?_ (hI.append_right _)
      rw [List.append_assoc, List.append_assoc]
      exact List.Perm.append_left _ List.perm_append_comm
    unfold stepP
    split
    · simpa using key
    · split
      · rw [← List.append_assoc]; exact hI.append_right _
      · simpa using key
  rw [List.take_length] at this
  exact this
def partsOf (L : List PS) : List Int := L.flatMap fun S => S.pl.map (·.part)
theorem sheets_perm {P : List Prt} {w h kf : Int} (h0 : 0 ≤ h) : ∀ (n : Nat) (o : List Int), o.length ≤ n → OK P w kf o → Fit P w h o → Sorted P o → (partsOf (sheetsS P w h kf o)).Perm o ∧ (∀ S ∈ sheetsS P w h kf o, S.pl ≠ [] ∧ ∀ q ∈ S.pl, On P w h q) ∧
    (∀ i (hi : i < (sheetsS P w h kf o).length), ((sheetsS P w h kf o)[i].lf = []) ↔ i + 1 = (sheetsS P w h kf o).length) ∧ (sheetsS P w h kf o = [] ↔ o = [])
  | 0, o, hn, _, _, _ => by
    have : o = [] := List.length_eq_zero_iff.1 (by omega)
    subst this; rw [sheets_nil]; simp [partsOf]
  | n + 1, o, hn, hok, hf, hs => by
    by_cases hne : o = []
    · subst hne; rw [sheets_nil]; simp [partsOf]
    · obtain ⟨hc1, hc2⟩ := sheets_cons hok hf hne
      obtain ⟨i1, i2, i3, i4⟩ := sheets_perm h0 n (packS P w h kf o).lf (by omega) (hok.lf (h := h)) (hf.lf hok) (hs.sublist (pack_lfsub hok))
      have hpp := pack_perm (h := h) hok
      have hpo := pack_on (h := h) hok hs h0
      have hps := pack_pos hok hf hne
      rw [hc1]
      generalize sheetsS P w h kf (packS P w h kf o).lf = L at *
      generalize packS P w h kf o = S at *
      refine ⟨?_, fun S' hS => ?_, fun i hi => ?_, by simp [hne]⟩
      · simp only [partsOf, List.flatMap_cons]
        exact (i1.append_left _).trans hpp
      · rcases List.mem_cons.1 hS with rfl | hS
        · exact ⟨hps, hpo⟩
        · exact i2 S' hS
      · cases i with
        | zero =>
          simp only [List.getElem_cons_zero, List.length_cons]
          constructor
          · intro h; have := i4.2 h; subst this; rfl
          · intro h; exact i4.1 (List.length_eq_zero_iff.1 (by omega))
        | succ i =>
          simp only [List.getElem_cons_succ, List.length_cons]
          have := i3 i (by simpa using hi)
          rw [this]; omega
/-- How often each number below n stands in a list. -/
def cnt (l : List Int) (n : Nat) : List AV := (List.range n).map fun j : Nat => AV.int IntKind.i64 (l.count (j : Int))
theorem cnt_len (l : List Int) (n : Nat) : (cnt l n).length = n := by simp [cnt]
theorem cnt_get {l : List Int} {n : Nat} {p : Int} (hp : 0 ≤ p ∧ p < n) : (cnt l n)[p.toNat]? = some (AV.int IntKind.i64 (l.count p)) := by
  have : p.toNat < n := by omega
  have e : ((p.toNat : Nat) : Int) = p := by omega
  simp [cnt, this, e]
theorem cnt_set {l : List Int} {n : Nat} {p : Int} (hp : 0 ≤ p ∧ p < n) : (cnt l n).set p.toNat (AV.int IntKind.i64 ((l.count p : Nat) + 1)) = cnt (l ++ [p]) n := by
  apply List.ext_getElem?
  intro j
  rw [List.getElem?_set]
  have hlt : p.toNat < n := by omega
  by_cases hj : p.toNat = j
  · subst hj
    have e : ((p.toNat : Nat) : Int) = p := by omega
    simp [cnt, hlt, e]
  · rw [if_neg hj]
    by_cases hjn : j < n
    · have hne : ¬ p = (j : Int) := by omega
      have : ([p] : List Int).count (j : Int) = 0 := by
        rw [List.count_singleton]; simp [hne]
      simp [cnt, hjn, this]
    · simp [cnt, hjn]
theorem cnt_zero (n : Nat) : (flat (List.replicate n (AV.int IntKind.i64 0))).map AV.view = cnt [] n := by
  have h1 : flat (List.replicate n (AV.int IntKind.i64 0)) = List.replicate n (AV.int IntKind.i64 0) := by
    unfold flat
    induction n with
    | zero => rfl
    | succ k ih => rw [List.replicate_succ, List.flatMap_cons, ih]; rfl
  rw [h1]
  apply List.ext_getElem?
  intro j
  by_cases hj : j < n <;> simp [cnt, hj]
theorem cnt_range (n j : Nat) : ((List.range n).map fun i : Nat => (i : Int)).count (j : Int) = if j < n then 1 else 0 := by
  induction n with
  | zero => simp
  | succ n ih =>
    rw [List.range_succ, List.map_append, List.count_append, ih]
    simp only [List.map_cons, List.map_nil, List.count_singleton, beq_iff_eq]
    by_cases h1 : j < n
    · have h2 : ¬ (n : Int) = (j : Int) := by omega
      have h3 : j < n + 1 := by omega
      simp [h1, h2, h3]
    · by_cases h2 : n = j
      · subst h2; simp
      · have h3 : ¬ (n : Int) = (j : Int) := by omega
        have h4 : ¬ j < n + 1 := by omega
        simp [h1, h3, h4]
theorem law11 (P : List Prt) (nn : Bool) (w h kf : Int) (hlen : (P.length : Int) ≤ 9223372036854775807) : ∃ m, callL T27 11 [pv nn P, AV.int IntKind.i64 w, AV.int IntKind.i64 h, AV.int IntKind.i64 kf] [] = some (.bool true, m) := by
  obtain ⟨m0, haw⟩ := awake
  have h13 := q13' P nn 40 hlen []
  by_cases hs : (P.length : Int) ≤ 40 ∧ ∀ b ∈ P, b.name.length ≤ 60
  rotate_left
  · refine ⟨m0, ?_⟩
    rw [decide_eq_false hs] at h13
    apply callL_body (vf := c11) rfl rfl
    simp [c11, haw, h13]
  have hsm := sml_of (n := 40) (by omega) hs
  have hl := hsm.len
  rw [decide_eq_true hs] at h13
  have h15 := q15 P nn (by omega) []
  have h34 := q34 P true w h kf hsm m0
  by_cases hc : lrg P w h kf = 0
  rotate_left
  · rw [if_neg hc] at h34
    refine ⟨m0, ?_⟩
    apply callL_body (vf := c11) rfl rfl
    simp [c11, haw, h13, h15, h34, hc]
  rw [if_pos hc] at h34
  obtain ⟨hk, hB⟩ := lrg_inv hc
  obtain ⟨h1, h2, h3, h4, h5⟩ := chk_inv hk
  have hok := ok_of_chk hk
  have hf := fit_ord hB
  have hsb := sheets_b _ (ord P) (Nat.le_refl _) hok hf
  obtain ⟨g1, g2, g3, g4⟩ := sheets_perm (by omega) _ (ord P) (Nat.le_refl _) hok hf (ord_sorted P)
  have hol := ord_len P
  have hop := ord_perm P
  generalize sheetsS P w h kf (ord P) = L at *
  have hLl : L.length ≤ 80 := by have := hsb.1; omega
  have hcnt : ∀ j : Nat, j < P.length → (partsOf L).count (j : Int) = 1 := fun j hj => by
    rw [(g1.trans hop).count_eq]
    rw [cnt_range, if_pos hj]
  refine ⟨ordM P m0, ?_⟩
  apply callL_body (vf := c11) rfl rfl
  simp [c11, haw, h13, h15, h34, cnt_zero]
  refine ⟨by omega, ?_⟩
  refine wp_loop (fun n s => ∃ (i : Nat) (os : List LObj), n = L.length - i ∧ i ≤ L.length ∧ s.get 0 = pv nn P ∧ s.get 1 = AV.int IntKind.i64 w ∧ s.get 2 = AV.int IntKind.i64 h ∧ s.get 9 = ovn layV L ∧ s.get 11 = .row (.loc 37 0) 0 P.length ∧ s.loc 37 = [.cells false (cnt (partsOf (L.take i)) P.length)] ∧ s.get 12 = AV.int IntKind.i64 i ∧ s.loc 14 = os ∧ s.mem = ordM P m0) ?_ L.length _ ?_
  rotate_left
  · exact ⟨0, [], by simp [partsOf]⟩
  rintro n s ⟨i, os, hn, hi, e0, e1, e2, e9, e11, l37, e12, l14, hm⟩
  by_cases hlt : i < L.length
  rotate_left
  · have hii : i = L.length := by omega
    subst hii
    rw [List.take_length] at l37
    simp [e9, e12]
    refine wp_loop (fun n s => ∃ (i : Nat), n = P.length - i ∧ i ≤ P.length ∧ s.get 11 = .row (.loc 37 0) 0 P.length ∧ s.loc 37 = [.cells false (cnt (partsOf L) P.length)] ∧ s.get 15 = AV.int IntKind.i64 i ∧ s.mem = ordM P m0) ?_ P.length _ ?_
    rotate_left
    · exact ⟨0, by simp [e11, l37, hm]⟩
    clear e0 e1 e2 e9 e11 l37 e12 l14 hm hn
    rintro n s ⟨i, hn, hi, e11, l37, e15, hm⟩
    by_cases hlt2 : i < P.length
    · have hg := cnt_get (l := partsOf L) (n := P.length) (p := (i : Int)) (by omega)
      rw [hcnt i hlt2] at hg
      have e : ((i : Int)).toNat = i := by omega
      rw [e] at hg
      have w1 : IntKind.wrap .i64 ((i : Int) + 1) = (i : Int) + 1 := wrap64 (by omega) (by omega)
      simp [e11, l37, e15, hm, hlt2, hg, w1]
      exact ⟨P.length - (i + 1), by omega, i + 1, rfl, by omega, rfl⟩
    · simp [e11, e15, hm, hlt2]
  have w1 : W64 ((i : Int) + 1) ((i + 1 : Nat) : Int) := .mkI (by omega) (by omega) (by omega)
  have wl : W64 ((L.length : Int) - 1) ((L.length : Int) - 1) := .mkI rfl (by omega) (by omega)
  have gp := gi_nat hlt
  have hb := hsb.2 _ (List.getElem_mem hlt)
  have hq := g2 _ (List.getElem_mem hlt)
  have hlast := g3 i hlt
  have htk : partsOf (L.take (i + 1)) = partsOf (L.take i) ++ L[i].pl.map (·.part) := by
    unfold partsOf
    rw [List.take_succ_eq_append_getElem hlt, List.flatMap_append, List.flatMap_cons, List.flatMap_nil, List.append_nil]
  have hAl : (partsOf (L.take i)).length ≤ 80 := by
    have e1 : (partsOf L).length = (partsOf (L.take i)).length + (partsOf (L.drop i)).length := by
      unfold partsOf
      rw [← List.length_append, ← List.flatMap_append, List.take_append_drop]
    have e2 := g1.length_eq
    omega
  have hnx : ∃ n', n' < n ∧ n' = L.length - (i + 1) := ⟨_, by omega, rfl⟩
  obtain ⟨n', y1, y2⟩ := hnx
  generalize L[i] = S at *
  generalize partsOf (L.take i) = A at *
  have hpe : ¬ (S.pl.length : Int) = 0 := by have := List.length_pos_iff.2 hq.1; omega
  have hbq : ((S.lf.length : Int) == 0) = ((i : Int) == (L.length : Int) - 1) := by
    rw [Bool.eq_iff_iff]
    simp only [beq_iff_eq]
    rw [show ((S.lf.length : Int) = 0 ↔ S.lf = []) from by rw [← List.length_eq_zero_iff]; omega, hlast]
    omega
  simp [e9, e12, hm, hlt, gp, layV, hq.1, wl.eq, -beq_iff_eq]
  refine ⟨hbq, fun _ => ?_⟩
  refine wp_loop (fun n s => ∃ (j : Nat) (os : List LObj), n = S.pl.length - j ∧ j ≤ S.pl.length ∧ s.get 0 = pv nn P ∧ s.get 1 = AV.int IntKind.i64 w ∧ s.get 2 = AV.int IntKind.i64 h ∧ s.get 9 = ovn layV L ∧ s.get 11 = .row (.loc 37 0) 0 P.length ∧ s.loc 37 = [.cells false (cnt (A ++ (S.pl.take j).map (·.part)) P.length)] ∧ s.get 12 = AV.int IntKind.i64 i ∧ s.get 13 = AV.int IntKind.i64 j ∧ s.loc 14 = os ∧ s.mem = ordM P m0) ?_ S.pl.length _ ?_
  rotate_left
  · exact ⟨0, os, by simp [e0, e1, e2, e9, e11, l37, e12, l14, hm]⟩
  clear e0 e1 e2 e9 e11 l37 e12 l14 hm hn
  rintro n2 s ⟨j, os, hn, hj, e0, e1, e2, e9, e11, l37, e12, e13, l14, hm⟩
  by_cases hlj : j < S.pl.length
  · have gq := gi_nat hlj
    have hon := hq.2 _ (List.getElem_mem hlj)
    have hpw := h2 _ (gi_memP hon.p)
    have htq : (S.pl.take (j + 1)).map (·.part) = (S.pl.take j).map (·.part) ++ [S.pl[j].part] := by
      rw [List.take_succ_eq_append_getElem hlj, List.map_append]; rfl
    have hny : ∃ n', n' < n2 ∧ n' = S.pl.length - (j + 1) := ⟨_, by omega, rfl⟩
    obtain ⟨n3, z1, z2⟩ := hny
    generalize S.pl[j] = q at *
    have hg := cnt_get (l := A ++ (S.pl.take j).map (·.part)) (n := P.length) hon.p
    have hst := cnt_set (l := A ++ (S.pl.take j).map (·.part)) (n := P.length) hon.p
    rw [List.append_assoc, ← htq] at hst
    have hcl : (A ++ (S.pl.take j).map (·.part)).count q.part ≤ (A ++ (S.pl.take j).map (·.part)).length := List.count_le_length
    have hcb : (A ++ (S.pl.take j).map (·.part)).length ≤ 10000 := by
      rw [List.length_append, List.length_map, List.length_take]; omega
    generalize (A ++ (S.pl.take j).map (·.part)).count q.part = C at *
    generalize A ++ (S.pl.take j).map (·.part) = A1 at *
    have k1 : ¬ q.part < 0 := by have := hon.p.1; omega
    have k2 := hon.p.2
    have k3 : ¬ q.x < 0 := by have := hon.x.1; omega
    have k4 : ¬ q.y < 0 := by have := hon.y.1; omega
    have k5 : ¬ w < q.x + (gi P q.part).w := by have := hon.x.2; omega
    have k6 : ¬ h < q.y + (gi P q.part).h := by have := hon.y.2; omega
    have wj : W64 ((j : Int) + 1) ((j + 1 : Nat) : Int) := .mkI (by omega) (by omega) (by omega)
    have wx : W64 (q.x + (gi P q.part).w) (q.x + (gi P q.part).w) := .mkI rfl (by have := hon.x; omega) (by have := hon.x; omega)
    have wy : W64 (q.y + (gi P q.part).h) (q.y + (gi P q.part).h) := .mkI rfl (by have := hon.y; omega) (by have := hon.y; omega)
    have wc : W64 ((C : Int) + 1) ((C : Int) + 1) := .mkI rfl (by omega) (by omega)
    have hcl2 := cnt_len A1 P.length
    have hge : ∀ h, (cnt A1 P.length)[q.part.toNat]'h = AV.int IntKind.i64 C := fun h => by rw [List.getElem?_eq_getElem h] at hg; exact Option.some.inj hg
    simp [e0, e1, e2, e9, e11, l37, e12, e13, l14, hm, hlt, gp, layV, hlj, gq, k1, k2, k3, k4, k5, k6, hon.p, wx.eq, wy.eq, hge, wc.eq, wj.eq, hst, hcl2, -Int.natCast_add]
    exact ⟨by have := hon.p; omega, n3, z1, j + 1, z2, by omega, rfl, rfl⟩
  · have hjj : j = S.pl.length := by omega
    subst hjj
    rw [List.take_length, ← htk] at l37
    simp [e0, e1, e2, e9, e11, l37, e12, e13, hm, hlt, gp, layV, w1.eq, -Int.natCast_add]
    exact ⟨n', y1, i + 1, y2, by omega, rfl, rfl⟩
end Go.Vm.Ch27
