/- Chapter 27: what its functions compute. -/
import Derived.Test.YtjlbiebejodecaaDoorC27za
namespace Go.Vm.Ch27
open _root_.Ch27 (T27 c84)
set_option maxRecDepth 10000
set_option maxHeartbeats 8000000
theorem run_take (q : Plc) (r : List Plc) : (q :: r).take (runL (q :: r)) = q :: r.take (r.takeWhile fun p => p.sh == q.sh).length := by
  simp [runL, Nat.add_comm 1]
theorem tw_same {p q : Plc} {r : List Plc} (h : p.sh = q.sh) : (p :: r).take ((p :: r).takeWhile fun x => x.sh == q.sh).length = p :: r.take (r.takeWhile fun x => x.sh == p.sh).length := by
  simp [h]
theorem tw_diff {p q : Plc} {r : List Plc} (h : ¬ p.sh = q.sh) : (p :: r).take ((p :: r).takeWhile fun x => x.sh == q.sh).length = [] := by
  simp [h]
theorem q84 (M : Mem) (P : List Prt) (nn nl : Bool) (pl : List Plc) (w h kf top : Int) (hg : Good P) (hk : 0 ≤ kf ∧ kf ≤ 1000) (ht : 0 ≤ top ∧ top ≤ 3000000) (hw : 0 ≤ w ∧ w ≤ 1000000) (hok : ∀ q ∈ pl, PlOK P q) (hpl : pl.length ≤ 1000) : ∀ (n i : Nat) (s : PSt), pl.length - i = n → i < pl.length → s.1.length + 4 * n ≤ 890 → s.2 + 1 < 100 →
    callL T27 84 [.ptr (.mem M.length) 0, AV.int IntKind.i64 i, AV.int IntKind.i64 top] (rM M P nn nl pl w h kf s.1 s.2) = some (.tup [], rM M P nn nl pl w h kf (stripS P kf w top ((pl.drop i).take (runL (pl.drop i))) s).1 (stripS P kf w top ((pl.drop i).take (runL (pl.drop i))) s).2)
  | 0, i, s, hn, hi, hl, hr => by omega
  | n + 1, i, s, hn, hi, hl, hr => by
    have hokq := hok pl[i] (List.getElem_mem hi)
    have gp := gi_nat hi
    have hcn := prodS_len P kf pl[i] top (s.1 ++ [cutN 0 (pl[i].x + (gi P pl[i].part).w) kf ((s.1.length : Int) + 1) 0], s.2)
    simp only [List.length_append, List.length_cons, List.length_nil] at hcn
    have hir := prodS_r P kf pl[i] top (s.1 ++ [cutN 0 (pl[i].x + (gi P pl[i].part).w) kf ((s.1.length : Int) + 1) 0], s.2)
    have h85 := q85 M P nn nl pl w h kf 0 (pl[i].x + (gi P pl[i].part).w) s.1 s.2 (by omega)
    have h95 := q95 M P nn nl pl w h kf top (s.1 ++ [cutN 0 (pl[i].x + (gi P pl[i].part).w) kf ((s.1.length : Int) + 1) 0], s.2) i hi hokq hg hk ht (by simp; omega) hpl
    have h95b := q95 M P nn nl pl w h kf top s i hi hokq hg hk ht (by omega) hpl
    have hst : stripS P kf w top ((pl.drop i).take (runL (pl.drop i))) s = if pl[i].x + (gi P pl[i].part).w + kf < w then stripS P kf w top ((pl.drop (i + 1)).take ((pl.drop (i + 1)).takeWhile fun p => p.sh == pl[i].sh).length) (setR (prodS P kf pl[i] top (s.1 ++ [cutN 0 (pl[i].x + (gi P pl[i].part).w) kf ((s.1.length : Int) + 1) 0], s.2)).1 s.1.length, (prodS P kf pl[i] top (s.1 ++ [cutN 0 (pl[i].x + (gi P pl[i].part).w) kf ((s.1.length : Int) + 1) 0], s.2)).2) else prodS P kf pl[i] top s := by
      rw [List.drop_eq_getElem_cons hi, run_take, stripS]; split <;> rfl
    rw [hst]
    clear hst
    have hT := fun S => q86 M P nn nl pl w h kf (prodS P kf pl[i] top (s.1 ++ [cutN 0 (pl[i].x + (gi P pl[i].part).w) kf ((s.1.length : Int) + 1) 0], s.2)).1 S s.1.length (by omega) (by omega)
    have ih : ∀ hi1 : i + 1 < pl.length, _ := fun hi1 => q84 M P nn nl pl w h kf top hg hk ht hw hok hpl n (i + 1) (setR (prodS P kf pl[i] top (s.1 ++ [cutN 0 (pl[i].x + (gi P pl[i].part).w) kf ((s.1.length : Int) + 1) 0], s.2)).1 s.1.length, (prodS P kf pl[i] top (s.1 ++ [cutN 0 (pl[i].x + (gi P pl[i].part).w) kf ((s.1.length : Int) + 1) 0], s.2)).2) (by omega) hi1 (by simp only [setR_len]; omega) (by simp only [hir]; exact hr)
    have h83 := q83 M P nn nl pl w h kf (setR (prodS P kf pl[i] top (s.1 ++ [cutN 0 (pl[i].x + (gi P pl[i].part).w) kf ((s.1.length : Int) + 1) 0], s.2)).1 s.1.length) (prodS P kf pl[i] top (s.1 ++ [cutN 0 (pl[i].x + (gi P pl[i].part).w) kf ((s.1.length : Int) + 1) 0], s.2)).2 (by simp only [hir]; exact hr) (by simp only [setR_len]; omega)
    have hcl : ∀ (m : List Nod) (k : Nat), plM M (rcO P nn nl pl w h kf (nodV M.length m) k) m = rM M P nn nl pl w h kf m k := fun _ _ => rfl
    generalize (prodS P kf pl[i] top (s.1 ++ [cutN 0 (pl[i].x + (gi P pl[i].part).w) kf ((s.1.length : Int) + 1) 0], s.2)) = T1 at *
    generalize hS2 : prodS P kf pl[i] top s = S2 at *
    obtain ⟨hq, hx, hy⟩ := hokq
    have hpm := hg _ (gi_memP hq)
    have hobj := plM_obj M (rcO P nn nl pl w h kf (nodV M.length s.1) s.2) s.1
    have hobj2 := plM_obj M (rcO P nn nl pl w h kf (nodV M.length (setR T1.1 s.1.length)) T1.2) (setR T1.1 s.1.length)
    have h86 := hT T1.2
    have w1 : IntKind.wrap .i64 (pl[i].x + (gi P pl[i].part).w) = pl[i].x + (gi P pl[i].part).w := wrap64 (by omega) (by omega)
    have w2 : IntKind.wrap .i64 (w - (pl[i].x + (gi P pl[i].part).w)) = w - (pl[i].x + (gi P pl[i].part).w) := wrap64 (by omega) (by omega)
    have w3 : IntKind.wrap .i64 ((i : Int) + 1) = ((i + 1 : Nat) : Int) := by rw [wrap64 (by omega) (by omega)]; omega
    by_cases hc : pl[i].x + (gi P pl[i].part).w + kf < w
    · rw [if_pos hc]
      have hc' : ¬ w - (pl[i].x + (gi P pl[i].part).w) ≤ kf := by omega
      by_cases hi1 : i + 1 < pl.length
      · have ih := ih hi1
        have gp1 := gi_nat hi1
        rw [List.drop_eq_getElem_cons hi1] at ih ⊢
        rw [run_take] at ih
        by_cases hs : pl[i + 1].sh = pl[i].sh
        · have e : (pl[i + 1] :: pl.drop (i + 1 + 1)).take ((pl[i + 1] :: pl.drop (i + 1 + 1)).takeWhile fun p => p.sh == pl[i].sh).length = pl[i + 1] :: (pl.drop (i + 1 + 1)).take ((pl.drop (i + 1 + 1)).takeWhile fun p => p.sh == pl[i + 1].sh).length := by
            exact tw_same hs
          rw [e]
          generalize stripS P kf w top (pl[i + 1] :: (pl.drop (i + 1 + 1)).take ((pl.drop (i + 1 + 1)).takeWhile fun p => p.sh == pl[i + 1].sh).length) (setR T1.1 s.1.length, T1.2) = S1 at *
          simp only [rM] at h85 h95 h86 ih ⊢
          simp only [rcO] at hobj hobj2 h85 h95 h86 ih ⊢
          apply callL_body (vf := c84) rfl rfl
          simp [c84, hobj, objCells, hi, gp, hq, w1, w2, hc', h85, h95, h86, hobj2, w3, hi1, gp1, hs, ih, -Int.natCast_add]
        · have e : (pl[i + 1] :: pl.drop (i + 1 + 1)).take ((pl[i + 1] :: pl.drop (i + 1 + 1)).takeWhile fun p => p.sh == pl[i].sh).length = [] := by
            exact tw_diff hs
          rw [e]
          have e2 : stripS P kf w top [] (setR T1.1 s.1.length, T1.2) = (setR T1.1 s.1.length ++ [offN (T1.2 + 1)], T1.2 + 1) := rfl
          rw [e2]
          simp only [rM] at h85 h95 h86 h83 ⊢
          simp only [rcO] at hobj hobj2 h85 h95 h86 h83 ⊢
          apply callL_body (vf := c84) rfl rfl
          simp [c84, hobj, objCells, hi, gp, hq, w1, w2, hc', h85, h95, h86, hobj2, w3, hi1, gp1, hs, h83, -Int.natCast_add]
      · have e : pl.drop (i + 1) = [] := List.drop_eq_nil_of_le (by omega)
        rw [e]
        have e2 : stripS P kf w top (([] : List Plc).take (([] : List Plc).takeWhile fun p => p.sh == pl[i].sh).length) (setR T1.1 s.1.length, T1.2) = (setR T1.1 s.1.length ++ [offN (T1.2 + 1)], T1.2 + 1) := rfl
        rw [e2]
        simp only [rM] at h85 h95 h86 h83 ⊢
        simp only [rcO] at hobj hobj2 h85 h95 h86 h83 ⊢
        apply callL_body (vf := c84) rfl rfl
        simp [c84, hobj, objCells, hi, gp, hq, w1, w2, hc', h85, h95, h86, hobj2, w3, hi1, h83, -Int.natCast_add]
    · rw [if_neg hc]
      have hc' : w - (pl[i].x + (gi P pl[i].part).w) ≤ kf := by omega
      simp only [rM] at h95b ⊢
      simp only [rcO] at hobj h95b ⊢
      apply callL_body (vf := c84) rfl rfl
      simp [c84, hobj, objCells, hi, gp, hq, w1, w2, hc', h95b]
end Go.Vm.Ch27
