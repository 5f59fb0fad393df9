/- Chapter 27: what its functions compute. -/
import Derived.Test.YtjlbiebejodecaaDoorC27d
namespace Go.Vm.Ch27
open _root_.Ch27 (T27 c16 c17 c19 c49)
open Go.Vm.Stable
set_option maxRecDepth 10000
set_option maxHeartbeats 4000000
theorem q17 {v : AV} {zs ys : List Int} {nn : Bool} {m : Mem} (hv : IntSl v m zs) (hlen : zs.length ≤ 1000000) : callL T27 17 [v, iv nn ys] m = some (.bool (zs == ys), m) := by
  apply callL_body (vf := c17) rfl rfl
  by_cases hl : zs.length = ys.length
  rotate_left
  · have hl' : ¬ (zs.length : Int) = ys.length := by omega
    have he : (zs == ys) = false := by simp; intro e; rw [e] at hl; exact hl rfl
    simp [c17, hv.len, hv.view, hl', he]
  have hl' : (zs.length : Int) = ys.length := by omega
  simp [c17, hv.len, hv.view, hl']
  refine wp_loop (fun w s => ∃ i : Nat, w = zs.length - i ∧ i ≤ zs.length ∧ s.get 0 = v ∧ s.get 1 = iv nn ys ∧ s.get 5 = AV.int IntKind.i64 i ∧ s.mem = m ∧ ∀ j, j < i → zs.getD j 0 = ys.getD j 0) ?_ zs.length _ ?_
  rotate_left
  · exact ⟨0, by simp⟩
  rintro w s ⟨i, hn, hi, e0, e1, e5, hm, hbef⟩
  have w1 : IntKind.wrap .i64 ((i : Int) + 1) = (i : Int) + 1 := wrap64 (by omega) (by omega)
  by_cases h : i < zs.length
  · obtain ⟨a, ha, hla, -⟩ := hv.adr i h
    have h2 : i < ys.length := by omega
    have hlt : (i : Int) < ys.length := by omega
    have gy : gi ys (i : Int) = ys.getD i 0 := by rw [gi_nat h2]; simp [List.getD, h2]
    have hnx : zs.getD i 0 = ys.getD i 0 → ∃ n', n' < w ∧ ∃ i', n' = zs.length - i' ∧ i' ≤ zs.length ∧ (i : Int) + 1 = (i' : Int) ∧ ∀ j, j < i' → zs[j]?.getD 0 = ys[j]?.getD 0 := fun hz => by
      refine ⟨zs.length - (i + 1), by omega, i + 1, rfl, by omega, rfl, fun j hj => ?_⟩
      by_cases e : j = i
      · subst e; simpa [List.getD] using hz
      · simpa [List.getD] using hbef j (by omega)
    have hne : ¬ zs.getD i 0 = ys.getD i 0 → (zs == ys) = false := fun hz => by simp; intro e; rw [e] at hz; exact hz rfl
    generalize zs.getD i 0 = zi at *
    generalize ys.getD i 0 = yi at *
    by_cases hz : zi = yi
    · simp [e0, e1, e5, hm, hv.len, hv.view, h, ha, hla, hlt, gy, hz, w1]
      exact hnx hz
    · simp [e0, e1, e5, hm, hv.len, hv.view, h, ha, hla, hlt, gy, hz, hne hz]
  · have hi : i = zs.length := by omega
    subst hi
    have he : (zs == ys) = true := by
      simp
      apply List.ext_getElem hl
      intro j h1 h2
      have := hbef j h1
      simpa [List.getD, h1, h2] using this
    simp [e0, e5, hm, he, hv.len, hv.view, hl']
theorem q49 (P : List Prt) (nn : Bool) (x y : Int) (hx : 0 ≤ x ∧ x < P.length) (hy : 0 ≤ y ∧ y < P.length) (hyx : y < x) (m : Mem) : callL T27 49 [pv nn P, AV.int IntKind.i64 x, AV.int IntKind.i64 y] m = some (.bool (ltx P x y), m) := by
  apply callL_body (vf := c49) rfl rfl
  unfold ltx
  by_cases h1 : (gi P x).h = (gi P y).h
  · by_cases h2 : (gi P x).w = (gi P y).w
    · have h3 : ¬ x < y := by omega
      simp [c49, hx, hy, h1, h2, h3]
    · simp [c49, hx, hy, h1, h2]
  · simp [c49, hx, hy, h1]
def eX {P : List Prt} (x : Px P) : AV := AV.int IntKind.i64 x.1
@[simp] theorem eX_cells {P : List Prt} (x : Px P) : (eX x).cells = [eX x] := rfl
@[simp] theorem eX_view {P : List Prt} (x : Px P) : (eX x).view = eX x := rfl
@[simp] theorem eX_nl {P : List Prt} (x : Px P) : (eX x).nl = true := rfl
theorem elems_eX {P : List Prt} {o : Option Nat} {nn : Bool} {xs : List (Px P)} : elems? 1 (vv o nn eX xs) = some (xs.map eX) := by
  rw [vv, elems_vec, if_pos]
  rw [List.all_eq_true]
  intro x hx
  obtain ⟨y, -, rfl⟩ := List.mem_map.1 hx
  rfl
theorem view_eX {P : List Prt} : (AV.view ∘ (eX (P := P))) = eX := rfl
theorem ixs_get (P : List Prt) (i : Nat) (h : i < (ixs P).length) : ((ixs P)[i]).1 = (i : Int) := by
  simp [ixs]
theorem q19 (P : List Prt) (nn : Bool) (hlen : P.length ≤ 1000000) (m : Mem) : callL T27 19 [pv nn P] m = some (iv true (ord P), m) := by
  have hfin : iv true (ord P) = vv none true eX (srt (ltc (cmpS P)) (ixs P)) := by
    unfold iv vv ord; rw [List.map_map]; rfl
  rw [hfin]
  apply callL_body (vf := c19) rfl rfl
  simp [c19]
  refine wp_loop (fun w s => ∃ i : Nat, w = P.length - i ∧ i ≤ P.length ∧ s.get 0 = pv nn P ∧ s.get 3 = vv (some 1) true eX (srt (ltc (cmpS P)) ((ixs P).take i)) ∧ s.get 4 = AV.int IntKind.i64 i ∧ s.mem = m) ?_ P.length _ ?_
  rotate_left
  · exact ⟨0, by simp, by simp, by simp, by simp [vv, srt], by simp, by simp⟩
  rintro w s ⟨i, hn, hi, h0, h3, h4, hm⟩
  by_cases h : i < P.length
  rotate_left
  · have : i = P.length := by omega
    subst this
    rw [List.take_of_length_le (by rw [ixs_len]; omega)] at h3
    simp [h0, h3, h4, hm]
  have hX : i < (ixs P).length := by rw [ixs_len]; exact h
  have w1 : W64 ((i : Int) + 1) ((i + 1 : Nat) : Int) := .mk' (by omega) (by omega) (by omega)
  have hst := stab_srt (swoS P) ((ixs P).take i)
  have hol := srt_len (swoS P) ((ixs P).take i)
  have hxv := ixs_get P i hX
  have hxb : (ixs P)[i].1 < P.length := (ixs P)[i].2.2
  have hmem : ∀ u ∈ srt (ltc (cmpS P)) ((ixs P).take i), u.1 < (i : Int) := fun u hu => by
    have hu' := (hst.2.1.mem (swoS P)).2 hu
    rw [List.mem_take_iff_getElem] at hu'
    obtain ⟨j, hj, rfl⟩ := hu'
    rw [ixs_get]; omega
  have hsn : ∀ B1 B2 : List (Px P), srt (ltc (cmpS P)) ((ixs P).take i) = B1 ++ B2 → (∀ x ∈ B1, ltc (cmpS P) (ixs P)[i] x = false) → (∀ x ∈ B2, ltc (cmpS P) (ixs P)[i] x = true) → srt (ltc (cmpS P)) ((ixs P).take (i + 1)) = B1 ++ (ixs P)[i] :: B2 := fun B1 B2 e h1 h2 => by
    rw [List.take_succ_eq_append_getElem hX]
    exact srt_eq (swoS P) (stab_insert (swoS P) (by rw [← e]; exact hst) h1 h2)
  generalize srt (ltc (cmpS P)) ((ixs P).take i) = O at *
  generalize (ixs P)[i] = X at *
  have hOl : O.length = i := by rw [hol]; simp; omega
  simp [h0, h3, h4, hm, h]
  refine wp_loop (fun w s => ∃ B1 B2 : List (Px P), O = B1 ++ B2 ∧ w = B1.length ∧ (∀ x ∈ B2, ltc (cmpS P) X x = true) ∧ s.get 0 = pv nn P ∧ s.get 3 = vv (some 1) true eX O ∧ s.get 4 = AV.int IntKind.i64 i ∧ s.get 5 = AV.int IntKind.i64 (B1.length : Nat) ∧ s.mem = m) ?_ O.length _ ?_
  rotate_left
  · exact ⟨O, [], by simp, rfl, by simp, by simp [h0], by simp [h3], by simp [h4], by simp, by simp [hm]⟩
  clear h0 h3 h4 hm
  rintro w2 s ⟨B1, B2, hO, hw2, hB2, h0, h3, h4, h5, hm⟩
  have hOl2 : O.length = B1.length + B2.length := by rw [hO]; simp
  have hdone : (∀ x ∈ B1, ltc (cmpS P) X x = false) → ∃ n', n' < w ∧ ∃ i', n' = P.length - i' ∧ i' ≤ P.length ∧ AV.vec (some 1) true ((B1 ++ X :: B2).map eX) = vv (some 1) true eX (srt (ltc (cmpS P)) ((ixs P).take i')) ∧ i + 1 = i' := fun h1 => by
    refine ⟨P.length - (i + 1), by omega, i + 1, rfl, by omega, ?_, rfl⟩
    rw [hsn B1 B2 hO h1 hB2]; rfl
  have htake : (O.take B1.length) = B1 := by rw [hO]; simp
  have hdrop : (O.drop B1.length) = B2 := by rw [hO]; simp
  have w4 : ∀ k : Nat, B1.length = k + 1 → W64 ((B1.length : Int) - 1) (k : Int) := fun k hk => .mk' (by omega) (by omega) (by omega)
  rcases snoc_cases B1 with rfl | ⟨B0, u, rfl⟩
  · obtain ⟨n', y1, i', y2, y3, y4, y5⟩ := hdone (by simp)
    simp only [List.nil_append, List.length_nil, List.map_cons] at y4 htake hdrop h5
    have eXi : eX X = AV.int IntKind.i64 i := by unfold eX; rw [hxv]
    rw [eXi] at y4
    simp [h0, h3, h4, h5, hm, elems_eX, htake, hdrop, view_eX, w1.eq, -Int.natCast_add]
    refine ⟨by omega, n', y1, i', y2, y3, y4, by rw [y5]⟩
  · have hl0 : (B0 ++ [u]).length = B0.length + 1 := by simp
    have w4' := w4 B0.length hl0
    have hbl : B0.length < O.length := by omega
    have hgu : O[B0.length]? = some u := by rw [hO]; simp
    have hposN : (0 : Int) < ((B0 ++ [u]).length : Nat) := by omega
    have hpos : 0 < (B0 ++ [u]).length := by omega
    have hadr : iaddrSlV 1 (vv none true eX O) (AV.int IntKind.i64 (B0.length : Nat)) = some (.vptr [eX u] 0) := by
      simp [vv, hgu]
    have hui := hmem u (List.mem_of_getElem? hgu)
    have h49 := q49 P nn X.1 u.1 X.2 u.2 (by rw [hxv]; exact hui) []
    rw [hxv] at h49
    have hlt : ltx P i u.1 = ltc (cmpS P) X u := by unfold ltc cmpS; rw [ltx_cmp, hxv]
    rw [hlt] at h49
    have h49' : callL T27 49 [pv nn P, AV.int IntKind.i64 i, eX u] [] = some (.bool (ltc (cmpS P) X u), []) := h49
    have eXi : eX X = AV.int IntKind.i64 i := by unfold eX; rw [hxv]
    by_cases hgt : ltc (cmpS P) X u = true
    · have hnx : ∃ n', n' < w2 ∧ ∃ B1' B2' : List (Px P), O = B1' ++ B2' ∧ n' = B1'.length ∧ (∀ x ∈ B2', ltc (cmpS P) X x = true) ∧ B0.length = B1'.length := by
        refine ⟨B0.length, by omega, B0, u :: B2, by rw [hO]; simp, rfl, fun x hx => ?_, rfl⟩
        rcases List.mem_cons.1 hx with rfl | hx
        · exact hgt
        · exact hB2 x hx
      rw [hgt] at h49'
      obtain ⟨n', y1, B1', B2', y2, y3, y4, y5⟩ := hnx
      generalize (B0 ++ [u]).length = bl at *
      simp [h0, h3, h4, h5, hm, hadr, hpos, w4'.eq, h49', -vv_iaddr, -Subtype.forall, -Subtype.exists]
      exact ⟨n', y1, B1', B2', y2, y3, y4, by rw [y5]⟩
    · have hgt' : ltc (cmpS P) X u = false := by simpa using hgt
      have h1 : ∀ x ∈ B0 ++ [u], ltc (cmpS P) X x = false := by
        intro x hx
        rcases List.mem_append.1 hx with hx | hx
        · have hs : Srt (ltc (cmpS P)) (B0 ++ [u]) := Srt.left (B := B2) (by rw [← hO]; exact hst.1)
          exact le_le (swoS P) (hs.cross x hx u (by simp)) hgt'
        · rw [List.mem_singleton.1 hx]; exact hgt'
      obtain ⟨n', y1, i', y2, y3, y4, y5⟩ := hdone h1
      rw [hgt'] at h49'
      simp only [List.map_append, List.map_cons, eXi] at y4
      have hblO : (B0 ++ [u]).length ≤ O.length := by omega
      generalize hbl2 : (B0 ++ [u]).length = bl at *
      simp [h0, h3, h4, h5, hm, hadr, hpos, w4'.eq, h49', hblO, elems_eX, htake, hdrop, view_eX, w1.eq, -Int.natCast_add, -vv_iaddr, -Subtype.forall, -Subtype.exists]
      refine ⟨by omega, by omega, by omega, n', y1, i', y2, y3, by rw [← y4]; simp, by rw [y5]⟩
end Go.Vm.Ch27
