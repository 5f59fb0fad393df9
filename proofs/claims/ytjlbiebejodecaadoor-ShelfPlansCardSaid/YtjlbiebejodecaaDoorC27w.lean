/- Chapter 27: what its functions compute. -/
import Derived.Test.YtjlbiebejodecaaDoorC27v
namespace Go.Vm.Ch27
open _root_.Ch27 (T27 c76 c79 c83 c85 c86 c99 c100)
set_option maxRecDepth 10000
set_option maxHeartbeats 8000000
def nodW (x : Nat) (ns : List Nod) : AV := if ns = [] then .vec none false [] else .row (.mem (x + ns.length)) 0 ns.length
section
variable {x : Nat} {ns : List Nod}
@[simp] theorem nodV_view : (nodV x ns).view = nodW x ns := by unfold nodV nodW; split <;> rfl
@[simp] theorem nodV_raw : rawCell (some (nodV x ns)) = some (nodV x ns) := by unfold nodV; split <;> rfl
@[simp] theorem nodV_take {s : St} {t : Nat} : takeV s t (nodV x ns) = (nodV x ns, s) := by unfold nodV; split <;> rfl
@[simp] theorem nodV_nl : (nodV x ns).nl = true := by unfold nodV; split <;> rfl
@[simp] theorem nodV_one : (nodV x ns).one = true := by unfold nodV; split <;> rfl
@[simp] theorem nodV_stc {z off : Nat} {cs : List AV} : stCells z off cs (nodV x ns) = if 1 = z ∧ off + z ≤ cs.length then some (cs.set off (nodV x ns)) else none := stCells_one nodV_one
@[simp] theorem nodW_view : (nodW x ns).view = nodW x ns := by unfold nodW; split <;> rfl
@[simp] theorem nodW_nl : (nodW x ns).nl = true := by unfold nodW; split <;> rfl
@[simp] theorem nodW_len : lenSlV (nodW x ns) = some (AV.int IntKind.i64 ns.length) := by
  unfold nodW
  split
  · rename_i h; subst h; rfl
  · rfl
theorem nodW_adr {i : Nat} (h : i < ns.length) : iaddrSlV 7 (nodW x ns) (AV.int IntKind.i64 i) = some (.ptr (.mem (x + ns.length)) (0 + i * 7)) := by
  unfold nodW
  have hne : ns ≠ [] := List.length_pos_iff.1 (by omega)
  rw [if_neg hne]
  simp [h]
end
/-- The program's planner. -/
def pcO (P : List Prt) (nn : Bool) (kf : Int) (v : AV) (r : Nat) : List AV := [pv nn P, AV.int IntKind.i64 kf, v, AV.int IntKind.i64 r]
def offN (k : Nat) : Nod := ⟨2, 111 :: dig k, 0, 0, 0, 0, 0⟩
def cutN (ax at' kf l r : Int) : Nod := ⟨3, [], ax, at', kf, l, r⟩
def prodN (b : List UInt8) : Nod := ⟨1, b, 0, 0, 0, 0, 0⟩
def wasteN : Nod := ⟨0, [], 0, 0, 0, 0, 0⟩
/-- The memory of the program's planner. -/
abbrev pM (M : Mem) (P : List Prt) (nn : Bool) (kf : Int) (ns : List Nod) (r : Nat) : Mem := plM M (pcO P nn kf (nodV M.length ns) r) ns
theorem pcO_len {P : List Prt} {nn : Bool} {kf : Int} {v : AV} {r : Nat} : (pcO P nn kf v r).length = 4 := rfl
theorem q76 (M : Mem) (P : List Prt) (nn : Bool) (kf : Int) (ns : List Nod) (r : Nat) (hr : r + 1 < 100) (hl : ns.length ≤ 1000) :
    callL T27 76 [.ptr (.mem M.length) 0] (pM M P nn kf ns r) = some (.tup [], pM M P nn kf (ns ++ [offN (r + 1)]) (r + 1)) := by
  have h90 := q90 (r + 1) hr
  have w1 : W64 ((r : Int) + 1) ((r + 1 : Nat) : Int) := .mkI (by omega) (by omega) (by omega)
  apply callL_body (vf := c76) rfl rfl
  simp [c76, plM_obj, plM_set, pcO, objCells, w1.eq, h90, -Int.natCast_add]
  refine ⟨by unfold dig; split <;> simp, ?_⟩
  refine (app_nod (M := M) (o := [pv nn P, AV.int IntKind.i64 kf, nodV M.length ns, AV.int IntKind.i64 (r + 1 : Nat)]) (offN (r + 1)) ?_ hl).mpr ?_
  · simp [plM_set, -Int.natCast_add]
  · simp [plM_obj, plM_set, objCells, -Int.natCast_add]
    rfl
/-- The reference's planner. -/
def rcO (P : List Prt) (nn nl : Bool) (pl : List Plc) (w h kf : Int) (v : AV) (r : Nat) : List AV := [pv nn P, lv nl pl, AV.int IntKind.i64 w, AV.int IntKind.i64 h, AV.int IntKind.i64 kf, v, AV.int IntKind.i64 r]
abbrev rM (M : Mem) (P : List Prt) (nn nl : Bool) (pl : List Plc) (w h kf : Int) (ns : List Nod) (r : Nat) : Mem := plM M (rcO P nn nl pl w h kf (nodV M.length ns) r) ns
theorem q83 (M : Mem) (P : List Prt) (nn nl : Bool) (pl : List Plc) (w h kf : Int) (ns : List Nod) (r : Nat) (hr : r + 1 < 100) (hl : ns.length ≤ 1000) :
    callL T27 83 [.ptr (.mem M.length) 0] (rM M P nn nl pl w h kf ns r) = some (.tup [], rM M P nn nl pl w h kf (ns ++ [offN (r + 1)]) (r + 1)) := by
  have h94 := q94 (r + 1) hr
  have w1 : W64 ((r : Int) + 1) ((r + 1 : Nat) : Int) := .mkI (by omega) (by omega) (by omega)
  apply callL_body (vf := c83) rfl rfl
  simp [c83, plM_obj, plM_set, rcO, objCells, w1.eq, h94, -Int.natCast_add]
  refine ⟨by unfold dig; split <;> simp, ?_⟩
  refine (app_nod (M := M) (o := [pv nn P, lv nl pl, AV.int IntKind.i64 w, AV.int IntKind.i64 h, AV.int IntKind.i64 kf, nodV M.length ns, AV.int IntKind.i64 (r + 1 : Nat)]) (offN (r + 1)) ?_ hl).mpr ?_
  · simp [plM_set, -Int.natCast_add]
  · simp [plM_obj, plM_set, objCells, -Int.natCast_add]
    rfl
theorem q99 (M : Mem) (P : List Prt) (nn : Bool) (kf : Int) (ns : List Nod) (r : Nat) (p : Prt) (hl : ns.length ≤ 1000) :
    callL T27 99 [.vptr [.ptr (.mem M.length) 0] 0, .vptr (ep p) 0] (pM M P nn kf ns r) = some (.tup [], pM M P nn kf (ns ++ [prodN p.name]) r) := by
  apply callL_body (vf := c99) rfl rfl
  simp [c99, plM_obj, pcO, objCells, -Int.natCast_add]
  refine (app_nod (M := M) (o := [pv nn P, AV.int IntKind.i64 kf, nodV M.length ns, AV.int IntKind.i64 r]) (prodN p.name) ?_ hl).mpr ?_
  · simp
    rfl
  · simp [plM_obj, plM_set, objCells, -Int.natCast_add]
    rfl
theorem q100 (M : Mem) (P : List Prt) (nn : Bool) (kf : Int) (ns : List Nod) (r : Nat) (hl : ns.length ≤ 1000) :
    callL T27 100 [.vptr [.ptr (.mem M.length) 0] 0] (pM M P nn kf ns r) = some (.tup [], pM M P nn kf (ns ++ [wasteN]) r) := by
  apply callL_body (vf := c100) rfl rfl
  simp [c100, plM_obj, pcO, objCells, -Int.natCast_add]
  refine (app_nod (M := M) (o := [pv nn P, AV.int IntKind.i64 kf, nodV M.length ns, AV.int IntKind.i64 r]) wasteN ?_ hl).mpr ?_
  · simp
    rfl
  · simp [plM_obj, plM_set, objCells, -Int.natCast_add]
    rfl
/-- The right part of a cut begins with the next node. -/
def setR (ns : List Nod) (i : Nat) : List Nod := ns.set i { ns.getD i default with right := ns.length }
theorem row_setR {M : Mem} {o : List AV} {ns : List Nod} {i : Nat} (h : i < ns.length) : (plM M o ns).set (M.length + ns.length) (some (.cells false ((rowc en ns).set (i * 7 + 6) (AV.int IntKind.i64 ns.length)))) = plM M o (setR ns i) := by
  have hne : ns ≠ [] := List.length_pos_iff.1 (by omega)
  have hg : ns.getD i default = ns[i] := by simp [List.getD, h]
  have e : (rowc en ns).set (i * 7 + 6) (AV.int IntKind.i64 ns.length) = rowc en (setR ns i) := by
    unfold setR
    rw [hg, ← rowc_set els_en.len h]
    have hle : i * 7 + 7 ≤ (rowc en ns).length := by rw [rowc_len els_en.len]; omega
    have hget := rowc_get els_en.len h
    unfold putCells
    have e1 : (en { ns[i] with right := (ns.length : Int) }) = (en ns[i]).set 6 (AV.int IntKind.i64 ns.length) := rfl
    rw [e1, ← hget]
    generalize rowc en ns = C at *
    apply List.ext_getElem?
    intro j
    rw [List.getElem?_set]
    simp only [List.length_set, List.length_take, List.length_drop]
    have hm : min 7 (C.length - i * 7) = 7 := by omega
    rw [hm]
    by_cases h1 : j < i * 7
    · rw [if_neg (by omega), List.append_assoc, List.getElem?_append_left (by simp; omega), List.getElem?_take]
      simp [h1]
    · rw [List.append_assoc, List.getElem?_append_right (by simp; omega)]
      simp only [List.length_take]
      have hm2 : min (i * 7) C.length = i * 7 := by omega
      rw [hm2]
      by_cases h2 : j < i * 7 + 7
      · rw [List.getElem?_append_left (by simp; omega), List.getElem?_set]
        simp only [List.length_take, List.length_drop, hm]
        by_cases h3 : i * 7 + 6 = j
        · rw [if_pos h3, if_pos (by omega), if_pos (by omega), if_pos (by omega)]
        · rw [if_neg h3, if_neg (by omega), List.getElem?_take, if_pos (by omega), List.getElem?_drop]
          congr 1; omega
      · rw [if_neg (by omega), List.getElem?_append_right (by simp; omega), List.getElem?_drop]
        simp only [List.length_set, List.length_take, List.length_drop, hm]
        congr 1; omega
  rw [e]
  exact plM_set_row M o ns (setR ns i) hne (by simp [setR])
end Go.Vm.Ch27
