/- Chapter 27: what its functions compute. -/
import Derived.Test.YtjlbiebejodecaaDoorC27w
namespace Go.Vm.Ch27
open _root_.Ch27 (T27 c79 c85 c86)
set_option maxRecDepth 10000
set_option maxHeartbeats 8000000
theorem setR_len (ns : List Nod) (i : Nat) : (setR ns i).length = ns.length := by simp [setR]
theorem nodV_setR (x : Nat) (ns : List Nod) (i : Nat) : nodV x (setR ns i) = nodV x ns := by
  unfold nodV
  rw [setR_len]
  by_cases h : ns = []
  · subst h; simp [setR]
  · have h2 : setR ns i ≠ [] := by
      intro e; have := setR_len ns i; rw [e] at this; exact h (List.length_eq_zero_iff.1 this.symm)
    rw [if_neg h, if_neg h2]
theorem q86 (M : Mem) (P : List Prt) (nn nl : Bool) (pl : List Plc) (w h kf : Int) (ns : List Nod) (r i : Nat) (hi : i < ns.length) (hl : ns.length ≤ 1000) :
    callL T27 86 [.ptr (.mem M.length) 0, AV.int IntKind.i64 i] (rM M P nn nl pl w h kf ns r) = some (.tup [], rM M P nn nl pl w h kf (setR ns i) r) := by
  have hne : ns ≠ [] := List.length_pos_iff.1 (by omega)
  have hrow := plM_row M (rcO P nn nl pl w h kf (nodV M.length ns) r) ns hne
  have hset := row_setR (M := M) (o := rcO P nn nl pl w h kf (nodV M.length ns) r) hi
  have hadr := nodW_adr (x := M.length) hi
  have hle : i * 7 + 7 ≤ (rowc en ns).length := by rw [rowc_len els_en.len]; omega
  have hobj := plM_obj M (rcO P nn nl pl w h kf (nodV M.length ns) r) ns
  apply callL_body (vf := c86) rfl rfl
  simp only [rM, nodV_setR]
  simp only [rcO] at hrow hset hobj ⊢
  simp [c86, hobj, hrow, objCells, hadr, hset]
  omega
theorem q85 (M : Mem) (P : List Prt) (nn nl : Bool) (pl : List Plc) (w h kf ax at' : Int) (ns : List Nod) (r : Nat) (hl : ns.length ≤ 1000) :
    callL T27 85 [.ptr (.mem M.length) 0, AV.int IntKind.i64 ax, AV.int IntKind.i64 at'] (rM M P nn nl pl w h kf ns r) = some (AV.int IntKind.i64 ns.length, rM M P nn nl pl w h kf (ns ++ [cutN ax at' kf ((ns.length : Int) + 1) 0]) r) := by
  have w1 : IntKind.wrap .i64 ((ns.length : Int) + 1) = (ns.length : Int) + 1 := wrap64 (by omega) (by omega)
  have w2 : IntKind.wrap .i64 (ns.length : Int) = ns.length := wrap64 (by omega) (by omega)
  apply callL_body (vf := c85) rfl rfl
  simp [c85, plM_obj, rcO, objCells, w1]
  refine (app_nod (M := M) (o := [pv nn P, lv nl pl, AV.int IntKind.i64 w, AV.int IntKind.i64 h, AV.int IntKind.i64 kf, nodV M.length ns, AV.int IntKind.i64 r]) (cutN ax at' kf ((ns.length : Int) + 1) 0) ?_ hl).mpr ?_
  · simp
    rfl
  · simp [plM_obj, plM_set, objCells, w2]
    rfl
theorem q79 (M : Mem) (P : List Prt) (nn : Bool) (kf ax at' : Int) (ns n2 n4 : List Nod) (r r2 r4 : Nat) (gl gr : FuncId) (cl cr : List AV) (hl : ns.length ≤ 1000) (hl2 : n2.length ≤ 1000) (hlt : ns.length < n2.length)
    (hL : callL T27 gl (cl.map AV.view) (pM M P nn kf (ns ++ [cutN ax at' kf ((ns.length : Int) + 1) 0]) r) = some (.tup [], pM M P nn kf n2 r2))
    (hR : callL T27 gr (cr.map AV.view) (pM M P nn kf (setR n2 ns.length) r2) = some (.tup [], pM M P nn kf n4 r4)) :
    callL T27 79 [.ptr (.mem M.length) 0, AV.int IntKind.i64 ax, AV.int IntKind.i64 at', .fn (.func gl) cl, .fn (.func gr) cr] (pM M P nn kf ns r) = some (.tup [], pM M P nn kf n4 r4) := by
  have w1 : IntKind.wrap .i64 ((ns.length : Int) + 1) = (ns.length : Int) + 1 := wrap64 (by omega) (by omega)
  have hne : n2 ≠ [] := List.length_pos_iff.1 (by omega)
  have hrow := plM_row M (pcO P nn kf (nodV M.length n2) r2) n2 hne
  have hset := row_setR (M := M) (o := pcO P nn kf (nodV M.length n2) r2) hlt
  have hadr := nodW_adr (x := M.length) hlt
  have hle : ns.length * 7 + 7 ≤ (rowc en n2).length := by rw [rowc_len els_en.len]; omega
  have hobj := plM_obj M (pcO P nn kf (nodV M.length n2) r2) n2
  simp only [pM, nodV_setR] at hR
  apply callL_body (vf := c79) rfl rfl
  simp [c79, plM_obj, pcO, objCells, w1]
  refine (app_nod (M := M) (o := [pv nn P, AV.int IntKind.i64 kf, nodV M.length ns, AV.int IntKind.i64 r]) (cutN ax at' kf ((ns.length : Int) + 1) 0) ?_ hl).mpr ?_
  · simp
    rfl
  · simp only [pM, pcO] at hL hR hrow hset hobj
    simp [plM_obj, plM_set, objCells, hL]
    simp [hrow, hadr, objCells, hset, hR]
    exact ⟨by omega, rfl⟩
end Go.Vm.Ch27
