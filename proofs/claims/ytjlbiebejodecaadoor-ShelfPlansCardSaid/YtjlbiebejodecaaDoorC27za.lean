/- Chapter 27: what its functions compute. -/
import Derived.Test.YtjlbiebejodecaaDoorC27z
namespace Go.Vm.Ch27
open _root_.Ch27 (T27 c95)
set_option maxRecDepth 10000
set_option maxHeartbeats 8000000
theorem q95 (M : Mem) (P : List Prt) (nn nl : Bool) (pl : List Plc) (w h kf top : Int) (s : PSt) (i : Nat) (hi : i < pl.length) (hok : PlOK P pl[i]) (hg : Good P) (_hk : 0 ≤ kf ∧ kf ≤ 1000) (ht : 0 ≤ top ∧ top ≤ 3000000) (hl : s.1.length ≤ 900) (_hpl : pl.length ≤ 1000) :
    callL T27 95 [.ptr (.mem M.length) 0, AV.int IntKind.i64 i, AV.int IntKind.i64 top] (rM M P nn nl pl w h kf s.1 s.2) = some (.tup [], rM M P nn nl pl w h kf (prodS P kf pl[i] top s).1 (prodS P kf pl[i] top s).2) := by
  obtain ⟨ns, r⟩ := s
  simp only at hl ⊢
  obtain ⟨hq, hx, hy⟩ := hok
  have hpm := hg _ (gi_memP hq)
  have gp := gi_nat hi
  generalize pl[i] = q at *
  unfold prodS
  generalize hp : gi P q.part = p at *
  have w1 : IntKind.wrap .i64 (q.y + p.h) = q.y + p.h := wrap64 (by omega) (by omega)
  have w2 : IntKind.wrap .i64 (top - (q.y + p.h)) = top - (q.y + p.h) := wrap64 (by omega) (by omega)
  have hobj := plM_obj M (rcO P nn nl pl w h kf (nodV M.length ns) r) ns
  by_cases hc : q.y + p.h + kf < top
  · rw [if_pos hc]
    have hc' : kf < top - (q.y + p.h) := by omega
    have h85 := q85 M P nn nl pl w h kf 1 (q.y + p.h) ns r (by omega)
    have e : cutS 1 (q.y + p.h) kf (leafS p.name) wasteS (ns, r) = (setR (ns ++ [cutN 1 (q.y + p.h) kf ((ns.length : Int) + 1) 0] ++ [prodN p.name]) ns.length ++ [wasteN], r) := rfl
    rw [e]
    simp only
    have h86 := q86 M P nn nl pl w h kf (ns ++ [cutN 1 (q.y + p.h) kf ((ns.length : Int) + 1) 0] ++ [prodN p.name]) r ns.length (by simp) (by simp; omega)
    have hl1 : (ns ++ [cutN 1 (q.y + p.h) kf ((ns.length : Int) + 1) 0]).length = ns.length + 1 := by simp
    generalize hN1 : ns ++ [cutN 1 (q.y + p.h) kf ((ns.length : Int) + 1) 0] = n1 at *
    have hl2 : (n1 ++ [prodN p.name]).length = ns.length + 2 := by simp [hl1]
    have hobj1 := plM_obj M (rcO P nn nl pl w h kf (nodV M.length n1) r) n1
    have w3 : IntKind.wrap .i64 (((ns.length + 1 + 1 : Nat) : Int) - 2) = ns.length := by rw [wrap64 (by omega) (by omega)]; omega
    simp only [rM] at h85 h86 ⊢
    simp only [rcO] at hobj hobj1 h85 h86 ⊢
    apply callL_body (vf := c95) rfl rfl
    simp [c95, hobj, objCells, hi, gp, hq, hp, w1, w2, hc', h85, hobj1]
    refine (app_nod (M := M) (o := [pv nn P, lv nl pl, AV.int IntKind.i64 w, AV.int IntKind.i64 h, AV.int IntKind.i64 kf, nodV M.length n1, AV.int IntKind.i64 r]) (prodN p.name) ?_ (by omega)).mpr ?_
    · simp
    · simp [plM_obj, plM_set, objCells, hl1, w3, h86, -Int.natCast_add]
      refine (app_nod (M := M) (o := [pv nn P, lv nl pl, AV.int IntKind.i64 w, AV.int IntKind.i64 h, AV.int IntKind.i64 kf, nodV M.length (setR (n1 ++ [prodN p.name]) ns.length), AV.int IntKind.i64 r]) (ns := setR (n1 ++ [prodN p.name]) ns.length) wasteN ?_ (by rw [setR_len]; omega)).mpr ?_
      · simp
      · simp [plM_obj, plM_set, objCells, -Int.natCast_add]
  · rw [if_neg hc]
    have hc' : ¬ kf < top - (q.y + p.h) := by omega
    have e : leafS p.name (ns, r) = (ns ++ [prodN p.name], r) := rfl
    rw [e]
    simp only [rM]
    simp only [rcO] at hobj ⊢
    apply callL_body (vf := c95) rfl rfl
    simp [c95, hobj, objCells, hi, gp, hq, hp, w1, w2, hc']
    refine (app_nod (M := M) (o := [pv nn P, lv nl pl, AV.int IntKind.i64 w, AV.int IntKind.i64 h, AV.int IntKind.i64 kf, nodV M.length ns, AV.int IntKind.i64 r]) (prodN p.name) ?_ (by omega)).mpr ?_
    · simp
    · simp [plM_obj, plM_set, objCells]
end Go.Vm.Ch27
