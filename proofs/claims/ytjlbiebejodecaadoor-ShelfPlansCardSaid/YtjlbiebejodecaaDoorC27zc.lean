/- Chapter 27: what its functions compute. -/
import Derived.Test.YtjlbiebejodecaaDoorC27zb
namespace Go.Vm.Ch27
open _root_.Ch27 (T27 c61)
set_option maxRecDepth 10000
set_option maxHeartbeats 8000000
theorem q61 (M : Mem) (P : List Prt) (nn nl : Bool) (pl : List Plc) (w h kf : Int) (hg : Good P) (hk : 0 ≤ kf ∧ kf ≤ 1000) (hw : 0 ≤ w ∧ w ≤ 1000000) (hh : 0 ≤ h ∧ h ≤ 1000000) (hok : ∀ q ∈ pl, PlOK P q) (hpl : pl.length ≤ 1000) : ∀ (f i : Nat) (s : PSt), pl.length - i ≤ f → i ≤ pl.length → s.1.length + 6 * (pl.length - i) ≤ 800 → s.2 + (pl.length - i) + 1 < 100 →
    callL T27 61 [.ptr (.mem M.length) 0, AV.int IntKind.i64 i] (rM M P nn nl pl w h kf s.1 s.2) = some (.tup [], rM M P nn nl pl w h kf (shelvesS P kf w f (pl.drop i) h s).1 (shelvesS P kf w f (pl.drop i) h s).2) := by
  intro f
  induction f with
  | zero =>
    intro i s hf hi hl hr
    have e : shelvesS P kf w 0 (pl.drop i) h s = (s.1 ++ [offN (s.2 + 1)], s.2 + 1) := rfl
    have h83 := q83 M P nn nl pl w h kf s.1 s.2 (by omega) (by omega)
    have hobj := plM_obj M (rcO P nn nl pl w h kf (nodV M.length s.1) s.2) s.1
    rw [e]
    have hi' : (pl.length : Int) ≤ i := by omega
    simp only [rM] at h83 ⊢
    simp only [rcO] at hobj h83 ⊢
    apply callL_body (vf := c61) rfl rfl
    simp [c61, hobj, objCells, hi', h83]
  | succ f ihf =>
    intro i s hf hi hl hr
    have hobj := plM_obj M (rcO P nn nl pl w h kf (nodV M.length s.1) s.2) s.1
    by_cases hi1 : i < pl.length
    · have gp := gi_nat hi1
      have hokq := hok pl[i] (List.getElem_mem hi1)
      obtain ⟨hq, hx, hy⟩ := id hokq
      have hpm := hg _ (gi_memP hq)
      have hk1 : runL (pl.drop i) = 1 + ((pl.drop (i + 1)).takeWhile fun p => p.sh == pl[i].sh).length := by
        rw [List.drop_eq_getElem_cons hi1]; rfl
      have hk2 : ((pl.drop (i + 1)).takeWhile fun p => p.sh == pl[i].sh).length ≤ (pl.drop (i + 1)).length := (List.takeWhile_sublist _).length_le
      rw [List.length_drop] at hk2
      generalize hk0 : runL (pl.drop i) = k at *
      have hst : shelvesS P kf w (f + 1) (pl.drop i) h s = if pl[i].y + (gi P pl[i].part).h + kf < h then shelvesS P kf w f (pl.drop (i + k)) h (setR (stripS P kf w (pl[i].y + (gi P pl[i].part).h) ((pl.drop i).take k) (s.1 ++ [cutN 1 (pl[i].y + (gi P pl[i].part).h) kf ((s.1.length : Int) + 1) 0], s.2)).1 s.1.length, (stripS P kf w (pl[i].y + (gi P pl[i].part).h) ((pl.drop i).take k) (s.1 ++ [cutN 1 (pl[i].y + (gi P pl[i].part).h) kf ((s.1.length : Int) + 1) 0], s.2)).2) else stripS P kf w h ((pl.drop i).take k) s := by
        have hd := List.drop_eq_getElem_cons hi1
        rw [← List.drop_drop, ← hk0]
        rw [hd, shelvesS]; split <;> rfl
      rw [hst]
      clear hst
      have h85 := q85 M P nn nl pl w h kf 1 (pl[i].y + (gi P pl[i].part).h) s.1 s.2 (by omega)
      have h84a := q84 M P nn nl pl w h kf h hg hk (by omega) hw hok hpl (pl.length - i) i s rfl hi1 (by omega) (by omega)
      have h84 := q84 M P nn nl pl w h kf (pl[i].y + (gi P pl[i].part).h) hg hk (by omega) hw hok hpl (pl.length - i) i (s.1 ++ [cutN 1 (pl[i].y + (gi P pl[i].part).h) kf ((s.1.length : Int) + 1) 0], s.2) rfl hi1 (by simp; omega) (by simp only; omega)
      have hln := stripS_len P kf w (pl[i].y + (gi P pl[i].part).h) ((pl.drop i).take k) (s.1 ++ [cutN 1 (pl[i].y + (gi P pl[i].part).h) kf ((s.1.length : Int) + 1) 0], s.2)
      have hlr := stripS_r P kf w (pl[i].y + (gi P pl[i].part).h) ((pl.drop i).take k) (s.1 ++ [cutN 1 (pl[i].y + (gi P pl[i].part).h) kf ((s.1.length : Int) + 1) 0], s.2)
      simp only [List.length_append, List.length_cons, List.length_nil, List.length_take, List.length_drop] at hln hlr
      rw [hk0] at h84 h84a
      have hT := fun S => q86 M P nn nl pl w h kf (stripS P kf w (pl[i].y + (gi P pl[i].part).h) ((pl.drop i).take k) (s.1 ++ [cutN 1 (pl[i].y + (gi P pl[i].part).h) kf ((s.1.length : Int) + 1) 0], s.2)).1 S s.1.length (by omega) (by omega)
      generalize (stripS P kf w (pl[i].y + (gi P pl[i].part).h) ((pl.drop i).take k) (s.1 ++ [cutN 1 (pl[i].y + (gi P pl[i].part).h) kf ((s.1.length : Int) + 1) 0], s.2)) = T1 at *
      have ih := ihf (i + k) (setR T1.1 s.1.length, T1.2) (by omega) (by omega) (by simp only [setR_len]; omega) (by simp only; omega)
      generalize shelvesS P kf w f (pl.drop (i + k)) h (setR T1.1 s.1.length, T1.2) = S1 at *
      generalize stripS P kf w h ((pl.drop i).take k) s = S2 at *
      have hobj2 := plM_obj M (rcO P nn nl pl w h kf (nodV M.length (setR T1.1 s.1.length)) T1.2) (setR T1.1 s.1.length)
      have h86 := hT T1.2
      have w1 : IntKind.wrap .i64 (pl[i].y + (gi P pl[i].part).h) = pl[i].y + (gi P pl[i].part).h := wrap64 (by omega) (by omega)
      have w2 : IntKind.wrap .i64 (h - (pl[i].y + (gi P pl[i].part).h)) = h - (pl[i].y + (gi P pl[i].part).h) := wrap64 (by omega) (by omega)
      have w3 : IntKind.wrap .i64 ((i : Int) + 1) = ((i + 1 : Nat) : Int) := by rw [wrap64 (by omega) (by omega)]; omega
      have hi' : ¬ (pl.length : Int) ≤ i := by omega
      simp only [rM] at h85 h84 h84a h86 ih ⊢
      simp only [rcO] at hobj hobj2 h85 h84 h84a h86 ih ⊢
      apply callL_body (vf := c61) rfl rfl
      by_cases hc : pl[i].y + (gi P pl[i].part).h + kf < h
      · rw [if_pos hc]
        have hc' : ¬ h - (pl[i].y + (gi P pl[i].part).h) ≤ kf := by omega
        simp [c61, hobj, objCells, hi1, hi', gp, hq, w1, w2, hc', h85, h84, h86, w3, -Int.natCast_add]
        refine wp_loop (fun v s' => ∃ j : Nat, v = pl.length - j ∧ i + 1 ≤ j ∧ j ≤ pl.length ∧ s'.get 0 = .ptr (.mem M.length) 0 ∧ s'.get 1 = AV.int IntKind.i64 i ∧ s'.get 6 = AV.int IntKind.i64 j ∧ s'.mem = plM M [pv nn P, lv nl pl, AV.int IntKind.i64 w, AV.int IntKind.i64 h, AV.int IntKind.i64 kf, nodV M.length (setR T1.1 s.1.length), AV.int IntKind.i64 T1.2] (setR T1.1 s.1.length) ∧ i + k = j + ((pl.drop j).takeWhile fun p => p.sh == pl[i].sh).length) ?_ (pl.length - (i + 1)) _ ?_
        rotate_left
        · exact ⟨i + 1, by simp; omega⟩
        rintro v s' ⟨j, hv, hij, hj, g0, g1, g6, hm, hb⟩
        have w4 : IntKind.wrap .i64 ((j : Int) + 1) = ((j + 1 : Nat) : Int) := by rw [wrap64 (by omega) (by omega)]; omega
        by_cases hj1 : j < pl.length
        · have gj := gi_nat hj1
          rw [List.drop_eq_getElem_cons hj1] at hb
          by_cases hs : pl[j].sh = pl[i].sh
          · rw [List.takeWhile_cons, if_pos (by simp [hs])] at hb
            simp only [List.length_cons] at hb
            simp [g0, g1, g6, hm, hobj2, objCells, hi1, gp, hj1, gj, hs, w4, -Int.natCast_add]
            exact ⟨pl.length - (j + 1), by omega, j + 1, rfl, by omega, by omega, rfl, by omega⟩
          · rw [List.takeWhile_cons, if_neg (by simp [hs])] at hb
            simp only [List.length_nil] at hb
            have hjk : j = i + k := by omega
            subst hjk
            simp [g0, g1, g6, hm, hobj2, objCells, hi1, gp, hj1, gj, hs, ih, -Int.natCast_add]
        · have hb0 : pl.drop j = [] := List.drop_eq_nil_of_le (by omega)
          rw [hb0] at hb
          simp only [List.takeWhile_nil, List.length_nil] at hb
          have hjk : j = i + k := by omega
          subst hjk
          simp [g0, g1, g6, hm, hobj2, objCells, hj1, ih, -Int.natCast_add]
      · rw [if_neg hc]
        have hc' : h - (pl[i].y + (gi P pl[i].part).h) ≤ kf := by omega
        simp [c61, hobj, objCells, hi1, hi', gp, hq, w1, w2, hc', h84a]
    · have e : pl.drop i = [] := List.drop_eq_nil_of_le (by omega)
      have e2 : shelvesS P kf w (f + 1) [] h s = (s.1 ++ [offN (s.2 + 1)], s.2 + 1) := rfl
      have h83 := q83 M P nn nl pl w h kf s.1 s.2 (by omega) (by omega)
      rw [e, e2]
      have hi' : (pl.length : Int) ≤ i := by omega
      simp only [rM] at h83 ⊢
      simp only [rcO] at hobj h83 ⊢
      apply callL_body (vf := c61) rfl rfl
      simp [c61, hobj, objCells, hi', h83]
end Go.Vm.Ch27
