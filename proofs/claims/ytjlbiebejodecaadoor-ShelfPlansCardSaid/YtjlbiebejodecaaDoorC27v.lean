/- Chapter 27: what its functions compute. -/
import Derived.Test.YtjlbiebejodecaaDoorC27o
namespace Go.Vm.Ch27
open _root_.Ch27 (T27 c76 c83)
set_option maxRecDepth 10000
set_option maxHeartbeats 8000000
/-- A small number in digits. -/
def dig (n : Nat) : List UInt8 := if n < 10 then [UInt8.ofNat (48 + n)] else [UInt8.ofNat (48 + n / 10), UInt8.ofNat (48 + n % 10)]
def chk100 (f : FuncId) : Bool := (List.range 100).all fun n => match callN T27 60 f [AV.int IntKind.i64 n] [] with
  | some (.str b, []) => b == dig n
  | _ => false
theorem dig_of {f : FuncId} (h : chk100 f = true) (n : Nat) (hn : n < 100) : callL T27 f [AV.int IntKind.i64 n] [] = some (.str (dig n), []) := by
  unfold chk100 at h
  rw [List.all_eq_true] at h
  have h1 := h n (List.mem_range.2 hn)
  split at h1
  · rename_i b hb
    have : b = dig n := by simpa using h1
    rw [← this]; exact callL_of hb
  · simp at h1
theorem q90 (n : Nat) (hn : n < 100) : callL T27 90 [AV.int IntKind.i64 n] [] = some (.str (dig n), []) := dig_of (by kernel_rfl) n hn
theorem q94 (n : Nat) (hn : n < 100) : callL T27 94 [AV.int IntKind.i64 n] [] = some (.str (dig n), []) := dig_of (by kernel_rfl) n hn
structure Nod where
  kind : Int
  name : List UInt8
  axis : Int
  at' : Int
  kerf : Int
  left : Int
  right : Int
  deriving DecidableEq, Inhabited
def en (n : Nod) : List AV := [AV.int IntKind.i64 n.kind, .str n.name, AV.int IntKind.i64 n.axis, AV.int IntKind.i64 n.at', AV.int IntKind.i64 n.kerf, AV.int IntKind.i64 n.left, AV.int IntKind.i64 n.right]
theorem els_en : Els en 7 := ⟨fun _ => rfl, fun _ => rfl, fun _ => rfl⟩
/-- The objects of the nodes: each appending left a dead one. -/
def rowM (ns : List Nod) : Mem := if ns = [] then [] else List.replicate (ns.length - 1) none ++ [some (.cells false (rowc en ns))]
/-- The shared memory with a planner behind M and its nodes. -/
def plM (M : Mem) (o : List AV) (ns : List Nod) : Mem := M ++ (some (.cells false o) :: rowM ns)
def nodV (x : Nat) (ns : List Nod) : AV := if ns = [] then .vec none false [] else .orow 7 (x + ns.length) ns.length
theorem rowM_len (ns : List Nod) : (rowM ns).length = ns.length := by
  unfold rowM
  by_cases h : ns = []
  · subst h; rfl
  · have := List.length_pos_iff.2 h
    rw [if_neg h]; simp; omega
theorem plM_len (M : Mem) (o : List AV) (ns : List Nod) : (plM M o ns).length = M.length + (ns.length + 1) := by
  unfold plM; simp [rowM_len]
theorem plM_obj (M : Mem) (o : List AV) (ns : List Nod) : (plM M o ns)[M.length]? = some (some (.cells false o)) := by
  unfold plM; simp
theorem plM_set (M : Mem) (o o' : List AV) (ns : List Nod) : (plM M o ns).set M.length (some (.cells false o')) = plM M o' ns := by
  unfold plM; rw [List.set_append_right _ _ (Nat.le_refl _)]; simp
theorem plM_row (M : Mem) (o : List AV) (ns : List Nod) (h : ns ≠ []) : (plM M o ns)[M.length + ns.length]? = some (some (.cells false (rowc en ns))) := by
  have hl := List.length_pos_iff.2 h
  unfold plM rowM
  rw [if_neg h, List.getElem?_append_right (by omega)]
  have e : M.length + ns.length - M.length = (ns.length - 1) + 1 := by omega
  rw [e, List.getElem?_cons_succ, List.getElem?_append_right (by simp)]
  simp
theorem plM_app (M : Mem) (o : List AV) (ns : List Nod) (n : Nod) (h : ns ≠ []) : (plM M o ns).set (M.length + ns.length) none ++ [some (.cells false (rowc en ns ++ en n))] = plM M o (ns ++ [n]) := by
  have hl := List.length_pos_iff.2 h
  have hr : rowc en (ns ++ [n]) = rowc en ns ++ en n := by simp [rowc]
  unfold plM rowM
  rw [if_neg h, if_neg (by simp), List.set_append_right _ _ (by omega), hr]
  have e : M.length + ns.length - M.length = (ns.length - 1) + 1 := by omega
  rw [e, List.set_cons_succ, List.set_append_right _ _ (by simp)]
  have e2 : (ns ++ [n]).length - 1 = (ns.length - 1) + 1 := by simp; omega
  rw [e2]
  simp [List.replicate_succ']
theorem plM_set_row (M : Mem) (o : List AV) (ns ns' : List Nod) (h : ns ≠ []) (hl : ns'.length = ns.length) : (plM M o ns).set (M.length + ns.length) (some (.cells false (rowc en ns'))) = plM M o ns' := by
  have hp := List.length_pos_iff.2 h
  have h' : ns' ≠ [] := List.length_pos_iff.1 (by omega)
  unfold plM rowM
  rw [if_neg h, if_neg h', List.set_append_right _ _ (by omega)]
  have e : M.length + ns.length - M.length = (ns.length - 1) + 1 := by omega
  rw [e, List.set_cons_succ, List.set_append_right _ _ (by simp), hl]
  simp
theorem app_nod {T : FuncId → Option VF} {s : St} {is : List VI} {K : St → Prop} {d : Option Nat} {M : Mem} {o : List AV} {ns : List Nod} (n : Nod) (hm : s.mem = plM M o ns) (hlen : ns.length ≤ 1000) :
    appOK T 7 64 d is s K (nodV M.length ns) (some [.agg (en n)]) = wpo T is ((s.withMem (plM M o (ns ++ [n]))).put d (nodV M.length (ns ++ [n]))) K := by
  have hv : nodV M.length (ns ++ [n]) = .orow 7 (M.length + (ns.length + 1)) (ns.length + 1) := by simp [nodV]
  have hen : (en n).map AV.view = en n := rfl
  rw [hv]
  by_cases h : ns = []
  · subst h
    have e0 : nodV M.length [] = .vec none false [] := rfl
    have e1 : addMem s (.cells false ((flat [AV.agg (en n)]).map AV.view)) = s.withMem (plM M o ([] ++ [n])) := by
      unfold addMem St.withMem
      rw [hm]
      simp [plM, rowM, flat, AV.cells, rowc, hen]
    have e2 : s.mem.length = M.length + 1 := by rw [hm, plM_len]; simp
    rw [e0, appOK_nil, e1, e2]
    simp
  · have e0 : nodV M.length ns = .orow 7 (M.length + ns.length) ns.length := by simp [nodV, h]
    have e3 := plM_app M o ns n h
    have e4 : ((rowc en ns) ++ flat [AV.agg (en n)]).map AV.view = rowc en ns ++ en n := by
      have : flat [AV.agg (en n)] = en n := by simp [flat, AV.cells]
      rw [this, List.map_append, hen]
      congr 1
      unfold rowc; rw [List.map_flatMap]; rfl
    have e5 : s.mem.length = M.length + (ns.length + 1) := by rw [hm, plM_len]
    have hrow : s.mem[M.length + ns.length]? = some (some (.cells false (rowc en ns))) := by rw [hm]; exact plM_row M o ns h
    rw [← hm] at e3
    rw [e0, appOK_orow, hrow, appCellsK_mk, e4, e3, e5]
    have e6 := rowc_len els_en.len ns
    simp [e6]
    omega
end Go.Vm.Ch27
