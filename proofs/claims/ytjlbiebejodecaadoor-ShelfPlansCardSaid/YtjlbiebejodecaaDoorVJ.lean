/- A small machine and its soundness, part VJ. -/
import Derived.Test.YtjlbiebejodecaaDoorVH
/- Rules: vectors in cells that are taken out, appended to and stored again. -/
namespace Go.Vm
section
variable {T : FuncId → Option VF} {s : St} {is : List VI} {K : St → Prop} {d : Option Nat} {α : Type}

/-- What is left of a value that was taken. -/
def own0 : AV → AV
  | .vec (some _) nn xs => .vec none nn xs
  | v => v
theorem setObj_self {s : St} {ix : Ix} {o : LObj} (h : s.obj ix = some o) : s.setObj ix o = s := by
  cases ix with
  | loc t k =>
    simp only [St.obj] at h
    obtain ⟨hk, he⟩ := List.getElem?_eq_some_iff.1 h
    have : (fun j => if j = t then (s.loc t).set k o else s.loc j) = s.loc := by
      funext j
      split
      · rename_i e; subst e; rw [← he]; exact List.set_getElem_self hk
      · rfl
    simp only [St.setObj, this]
  | mem i =>
    simp only [St.obj] at h
    split at h
    · rename_i o' ho
      subst h
      obtain ⟨hk, he⟩ := List.getElem?_eq_some_iff.1 ho
      simp only [St.setObj]
      rw [← he, List.set_getElem_self hk]
    · simp at h
variable (T) in
def ltV (d : Option Nat) (is : List VI) (s : St) (K : St → Prop) (ix : Ix) (o : Nat) (cs : List AV) : Option AV → Prop
  | some v => wpo T is ((s.setObj ix (.cells false (cs.set o (own0 v)))).put d v) K
  | none => False
@[simp] theorem ltV_some {ix : Ix} {o : Nat} {cs : List AV} {v : AV} : ltV T d is s K ix o cs (some v) = wpo T is ((s.setObj ix (.cells false (cs.set o (own0 v)))).put d v) K := rfl
variable (T) in
def ltC (d : Option Nat) (is : List VI) (s : St) (K : St → Prop) (ix : Ix) (o : Nat) : Option (List AV) → Prop
  | some cs => ltV T d is s K ix o cs cs[o]?
  | none => False
@[simp] theorem ltC_some {ix : Ix} {o : Nat} {cs : List AV} : ltC T d is s K ix o (some cs) = ltV T d is s K ix o cs cs[o]? := rfl
variable (T) in
def ltK (d : Option Nat) (is : List VI) (s : St) (K : St → Prop) : AV → Prop
  | .ptr ix o => ltC T d is s K ix o (objCells false (s.obj ix))
  | _ => False
@[simp] theorem ltK_ptr {ix : Ix} {o : Nat} : ltK T d is s K (.ptr ix o) = ltC T d is s K ix o (objCells false (s.obj ix)) := rfl
@[simp] theorem wx_loadTake {x : VO} : wpo T (⟨d, .loadTake x, none⟩ :: is) s K = ltK T d is s K (s.ev x) := by
  rw [wpo_op rfl]
  simp only [exec]
  cases s.ev x with
  | ptr ix o =>
    simp only [ltK]
    cases hc : objCells false (s.obj ix) with
    | none => rfl
    | some cs =>
      simp only [ltC]
      have hob : s.obj ix = some (.cells false cs) := by
        unfold objCells at hc
        split at hc
        · rename_i f cs' e
          split at hc
          · rename_i hf
            simp at hf
            simp only [Option.some.injEq] at hc
            rw [e, hc, hf]
          · simp at hc
        · simp at hc
      cases hv : cs[o]? with
      | none => rfl
      | some v =>
        have hself : own0 v = v → s.setObj ix (.cells false (cs.set o (own0 v))) = s := fun e => by
          obtain ⟨hk, he⟩ := List.getElem?_eq_some_iff.1 hv
          rw [e, ← he, List.set_getElem_self hk]
          exact setObj_self hob
        cases v with
        | vec ow nn xs =>
          cases ow with
          | none => simp only [ltV, hself rfl]; rfl
          | some z => rfl
        | _ => simp only [ltV, hself rfl]; rfl
  | _ => rfl
@[simp] theorem own0_vecs {z : Nat} {nn : Bool} {xs : List AV} : own0 (.vec (some z) nn xs) = .vec none nn xs := rfl
@[simp] theorem own0_vecn {nn : Bool} {xs : List AV} : own0 (.vec none nn xs) = .vec none nn xs := rfl
@[simp] theorem own0_orow {z i l : Nat} : own0 (.orow z i l) = .orow z i l := rfl

/-- A vector that was made by appending alone. -/
def ov (z : Nat) (e : α → AV) (xs : List α) : AV := .vec (if xs.isEmpty then none else some z) (!xs.isEmpty) (xs.map e)
abbrev ovn (e : α → AV) (xs : List α) : AV := vv none (!xs.isEmpty) e xs
theorem ov_nil {z : Nat} {e : α → AV} : AV.vec none false [] = ov z e [] := rfl
theorem ov_snoc {z : Nat} {e : α → AV} {xs : List α} {x : α} : AV.vec (some z) true (xs.map e ++ [e x]) = ov z e (xs ++ [x]) := by simp [ov]
@[simp] theorem ov_view {z : Nat} {e : α → AV} {xs : List α} : (ov z e xs).view = ovn e xs := by
  unfold ov; cases xs <;> rfl
@[simp] theorem ov_own0 {z : Nat} {e : α → AV} {xs : List α} : own0 (ov z e xs) = ovn e xs := by
  unfold ov; cases xs <;> rfl
@[simp] theorem ov_nl {z : Nat} {e : α → AV} {xs : List α} : (ov z e xs).nl = true := rfl
@[simp] theorem ov_good {z : Nat} {e : α → AV} {xs : List α} : (ov z e xs).good = true := rfl
@[simp] theorem ov_one {z : Nat} {e : α → AV} {xs : List α} : (ov z e xs).one = true := rfl
@[simp] theorem ov_cells {z : Nat} {e : α → AV} {xs : List α} : (ov z e xs).cells = [ov z e xs] := rfl
@[simp] theorem ov_len {z : Nat} {e : α → AV} {xs : List α} : lenSlV (ov z e xs) = some (.int .i64 xs.length) := by simp [ov]
@[simp] theorem ov_isnil {z : Nat} {e : α → AV} {xs : List α} : isNil? 0 (ov z e xs) = some xs.isEmpty := by simp [ov]
/-- The state behind a taking. -/
def takeS (s : St) (u : Nat) (v : AV) : St := (takeV s u v).2
@[simp] theorem take_ov {z u : Nat} {e : α → AV} {xs : List α} : takeV s u (ov z e xs) = (ov z e xs, takeS s u (ov z e xs)) := by
  unfold takeS ov
  cases xs <;> rfl
@[simp] theorem takeS_get {u t : Nat} {v : AV} (h : t ≠ u) : (takeS s u v).get t = s.get t := by
  unfold takeS takeV
  split
  · simp [h]
  · rfl
@[simp] theorem takeS_loc {u : Nat} {v : AV} : (takeS s u v).loc = s.loc := by
  unfold takeS takeV
  split <;> rfl
@[simp] theorem takeS_mem {u : Nat} {v : AV} : (takeS s u v).mem = s.mem := by
  unfold takeS takeV
  split <;> rfl
@[simp] theorem takeS_obj {u : Nat} {v : AV} {ix : Ix} : (takeS s u v).obj ix = s.obj ix := by
  unfold takeS takeV
  split
  · cases ix <;> rfl
  · rfl
@[simp] theorem app_ov {z i bytes : Nat} {e : α → AV} {xs : List α} {v : AV} : appV i bytes [v] (ov z e xs) = if (xs = [] ∨ z = i) ∧ 0 < bytes ∧ (xs.length + 1) * bytes ≤ 140737488355328 then some (.vec (some i) true (xs.map e ++ [v.view])) else none := by
  unfold ov
  cases xs with
  | nil => simp
  | cons x r => simp
@[simp] theorem stK_if {ix : Ix} {p : Prop} [Decidable p] {a : Option (List AV)} : stK T d is s K ix (if p then a else none) = (p ∧ stK T d is s K ix a) := by
  by_cases h : p <;> simp [h, stK]
@[simp] theorem stc_int {z off : Nat} {cs : List AV} {k : IntKind} {n : Int} : stCells z off cs (.int k n) = if 1 = z ∧ off + z ≤ cs.length then some (cs.set off (.int k n)) else none := stCells_one rfl
@[simp] theorem stc_str {z off : Nat} {cs : List AV} {b : List UInt8} : stCells z off cs (.str b) = if 1 = z ∧ off + z ≤ cs.length then some (cs.set off (.str b)) else none := stCells_one rfl
@[simp] theorem stc_bool {z off : Nat} {cs : List AV} {b : Bool} : stCells z off cs (.bool b) = if 1 = z ∧ off + z ≤ cs.length then some (cs.set off (.bool b)) else none := stCells_one rfl
@[simp] theorem stc_vec {z off : Nat} {cs : List AV} {o : Option Nat} {nn : Bool} {xs : List AV} : stCells z off cs (.vec o nn xs) = if 1 = z ∧ off + z ≤ cs.length then some (cs.set off (.vec o nn xs)) else none := stCells_one rfl
@[simp] theorem stc_ptr {z off : Nat} {cs : List AV} {k i : Nat} : stCells z off cs (.ptr (.mem k) i) = if 1 = z ∧ off + z ≤ cs.length then some (cs.set off (.ptr (.mem k) i)) else none := stCells_one rfl
@[simp] theorem stc_vptr {z off : Nat} {cs : List AV} {ds : List AV} {i : Nat} : stCells z off cs (.vptr ds i) = if 1 = z ∧ off + z ≤ cs.length then some (cs.set off (.vptr ds i)) else none := stCells_one rfl
@[simp] theorem stc_row {z off : Nat} {cs : List AV} {k i l : Nat} : stCells z off cs (.row (.mem k) i l) = if 1 = z ∧ off + z ≤ cs.length then some (cs.set off (.row (.mem k) i l)) else none := stCells_one rfl
@[simp] theorem stc_orow {z off : Nat} {cs : List AV} {k i l : Nat} : stCells z off cs (.orow k i l) = if 1 = z ∧ off + z ≤ cs.length then some (cs.set off (.orow k i l)) else none := stCells_one rfl
@[simp] theorem stc_ov {z off : Nat} {cs : List AV} {y : Nat} {e : α → AV} {xs : List α} : stCells z off cs (ov y e xs) = if 1 = z ∧ off + z ≤ cs.length then some (cs.set off (ov y e xs)) else none := stCells_one rfl
@[simp] theorem stc_vv {z off : Nat} {cs : List AV} {o : Option Nat} {nn : Bool} {e : α → AV} {xs : List α} : stCells z off cs (vv o nn e xs) = if 1 = z ∧ off + z ≤ cs.length then some (cs.set off (vv o nn e xs)) else none := stCells_one rfl
@[simp] theorem stc_fn {z off : Nat} {cs : List AV} {f : Fn} {cs2 : List AV} : stCells z off cs (.fn f cs2) = if 1 = z ∧ off + z ≤ cs.length then some (cs.set off (.fn f cs2)) else none := stCells_one rfl
@[simp] theorem stc_nilptr {z off : Nat} {cs : List AV}  : stCells z off cs .nilptr = if 1 = z ∧ off + z ≤ cs.length then some (cs.set off .nilptr) else none := stCells_one rfl
@[simp] theorem stc_nilIface {z off : Nat} {cs : List AV}  : stCells z off cs .nilIface = if 1 = z ∧ off + z ≤ cs.length then some (cs.set off .nilIface) else none := stCells_one rfl
@[simp] theorem allApart_nil : allApart s [] = true := rfl
@[simp] theorem allApart_cons {a b : VO} {r : List (VO × VO)} : allApart s ((a, b) :: r) = (apart (s.ev a) (s.ev b) && allApart s r) := by simp [allApart]
@[simp] theorem apart_pp {x y : Ix} {o o' : Nat} : apart (.ptr x o) (.ptr y o') = decide (x ≠ y) := rfl
@[simp] theorem apart_po {x : Ix} {o z i l : Nat} : apart (.ptr x o) (.orow z i l) = decide (x ≠ .mem i) := rfl
@[simp] theorem apart_pv {x : Ix} {o : Nat} {ow : Option Nat} {nn : Bool} {xs : List AV} : apart (.ptr x o) (.vec ow nn xs) = true := rfl
@[simp] theorem apart_vp {cs : List AV} {o : Nat} {v : AV} : apart (.vptr cs o) v = true := by cases v <;> rfl
@[simp] theorem apart_pvp {x : Ix} {cs : List AV} {o o' : Nat} : apart (.ptr x o) (.vptr cs o') = true := rfl
theorem W64.mkI {n k : Int} (e : n = k) (h1 : -9223372036854775808 ≤ k) (h2 : k ≤ 9223372036854775807) : W64 n k := by
  unfold W64; rw [e]; exact wrap64 h1 h2
end
end Go.Vm
