/- A small machine and its soundness, part VG. -/
import Derived.Test.YtmlfcgmiaapffaaGreatDoorVF
/- Rules: rows that are appended to in memory, lists of numbers wherever they lie. -/
namespace Go.Vm
section
variable {T : FuncId → Option VF} {s : St} {is : List VI} {K : St → Prop} {d : Option Nat} {α : Type}

variable (T) in
def appCellsK (esz bytes i len : Nat) (d : Option Nat) (is : List VI) (s : St) (K : St → Prop) (ys : List AV) : Option (Option LObj) → Prop
  | some (some (.cells false cs)) => ys.isEmpty = false ∧ len * esz ≤ cs.length ∧ 0 < bytes ∧ (len + ys.length) * bytes ≤ 140737488355328 ∧
      wpo T is ((s.withMem (s.mem.set i none ++ [some (.cells false ((cs.take (len * esz) ++ flat ys).map AV.view))])).put d (.orow esz s.mem.length (len + ys.length))) K
  | _ => False
@[simp] theorem appCellsK_mk {esz bytes i len : Nat} {ys cs : List AV} : appCellsK T esz bytes i len d is s K ys (some (some (.cells false cs))) = (ys.isEmpty = false ∧ len * esz ≤ cs.length ∧ 0 < bytes ∧ (len + ys.length) * bytes ≤ 140737488355328 ∧
      wpo T is ((s.withMem (s.mem.set i none ++ [some (.cells false ((cs.take (len * esz) ++ flat ys).map AV.view))])).put d (.orow esz s.mem.length (len + ys.length))) K) := rfl
variable (T) in
def appOK (esz bytes : Nat) (d : Option Nat) (is : List VI) (s : St) (K : St → Prop) : AV → Option (List AV) → Prop
  | .vec _ false _, some ys => ys.isEmpty = false ∧ 0 < bytes ∧ ys.length * bytes ≤ 140737488355328 ∧ wpo T is ((addMem s (.cells false ((flat ys).map AV.view))).put d (.orow esz s.mem.length ys.length)) K
  | .zcap _, some ys => ys.isEmpty = false ∧ 0 < bytes ∧ ys.length * bytes ≤ 140737488355328 ∧ wpo T is ((addMem s (.cells false ((flat ys).map AV.view))).put d (.orow esz s.mem.length ys.length)) K
  | .orow z i len, some ys => z = esz ∧ appCellsK T esz bytes i len d is s K ys s.mem[i]?
  | _, _ => False
@[simp] theorem appOK_nil {esz bytes : Nat} {o : Option Nat} {xs ys : List AV} : appOK T esz bytes d is s K (.vec o false xs) (some ys) = (ys.isEmpty = false ∧ 0 < bytes ∧ ys.length * bytes ≤ 140737488355328 ∧ wpo T is ((addMem s (.cells false ((flat ys).map AV.view))).put d (.orow esz s.mem.length ys.length)) K) := rfl
@[simp] theorem appOK_zcap {esz bytes : Nat} {nn : Bool} {ys : List AV} : appOK T esz bytes d is s K (.zcap nn) (some ys) = (ys.isEmpty = false ∧ 0 < bytes ∧ ys.length * bytes ≤ 140737488355328 ∧ wpo T is ((addMem s (.cells false ((flat ys).map AV.view))).put d (.orow esz s.mem.length ys.length)) K) := rfl
@[simp] theorem appOK_orow {esz bytes z i len : Nat} {ys : List AV} : appOK T esz bytes d is s K (.orow z i len) (some ys) = (z = esz ∧ appCellsK T esz bytes i len d is s K ys s.mem[i]?) := rfl
@[simp] theorem wx_appendO {esz bytes : Nat} {a x : VO} : wpo T (⟨d, .appendO esz bytes a x, none⟩ :: is) s K = appOK T esz bytes d is s K (s.ev a) (elems? esz (s.ev x)) := by
  rw [wpo_op rfl]
  simp only [exec]
  cases elems? esz (s.ev x) with
  | none =>
    cases s.ev a with
    | vec o nn xs => cases nn <;> rfl
    | _ => rfl
  | some ys =>
    cases s.ev a with
    | vec o nn xs =>
      cases nn with
      | true => rfl
      | false =>
        simp only [appO, appOK]
        by_cases h : ys.isEmpty = false ∧ 0 < bytes ∧ ys.length * bytes ≤ 140737488355328
        · rw [if_pos h]; simp only [h, true_and]; rfl
        · rw [if_neg h, eq_iff_iff]
          exact ⟨fun h => h.elim, fun h' => (h ⟨h'.1, h'.2.1, h'.2.2.1⟩).elim⟩
    | zcap nn =>
      simp only [appO, appOK]
      by_cases h : ys.isEmpty = false ∧ 0 < bytes ∧ ys.length * bytes ≤ 140737488355328
      · rw [if_pos h]; simp only [h, true_and]; rfl
      · rw [if_neg h, eq_iff_iff]
        exact ⟨fun h => h.elim, fun h' => (h ⟨h'.1, h'.2.1, h'.2.2.1⟩).elim⟩
    | orow z i len =>
      simp only [appO, appOK]
      cases hm : s.mem[i]? with
      | none => simp [appCellsK, putK]
      | some ob =>
        cases ob with
        | none => simp [appCellsK, putK]
        | some ob =>
          cases ob with
          | iter b p => simp [appCellsK, putK]
          | mp kvs => simp [appCellsK, putK]
          | cells f cs =>
            cases f with
            | true => simp [appCellsK, putK]
            | false =>
              simp only [appCellsK]
              by_cases h : z = esz ∧ ys.isEmpty = false ∧ len * esz ≤ cs.length ∧ 0 < bytes ∧ (len + ys.length) * bytes ≤ 140737488355328
              · rw [if_pos h]; simp only [h, true_and]; rfl
              · rw [if_neg h, eq_iff_iff]
                exact ⟨fun h => h.elim, fun h' => (h ⟨h'.1, h'.2.1, h'.2.2.1, h'.2.2.2.1, h'.2.2.2.2.1⟩).elim⟩
    | _ => rfl

/-- A slice of whole numbers, as a vector or as a row in memory. -/
structure IntSl (v : AV) (m : Mem) (zs : List Int) : Prop where
  len : lenSlV v = some (.int .i64 zs.length)
  view : v.view = v
  nl : v.nl = true
  tk : ∀ s t, takeV s t v = (v, s)
  good : v.good = true
  one : v.one = true
  cells : v.cells = [v]
  adr : ∀ i : Nat, i < zs.length → ∃ a, iaddrSlV 1 v (.int .i64 i) = some a ∧ (∀ s : St, s.mem = m → loadV none s a = some (.int .i64 (zs.getD i 0))) ∧ ((∀ t k o, apart (.ptr (.loc t k) o) a = true) ∧ a.view = a ∧ a.nl = true)
theorem IntSl.vec (nn : Bool) (m : Mem) (zs : List Int) : IntSl (vv none nn (AV.int .i64) zs) m zs :=
  { len := by simp
    view := rfl
    nl := rfl
    tk := fun _ _ => rfl
    good := rfl
    one := rfl
    cells := rfl
    adr := fun i h => by
      refine ⟨.vptr [.int .i64 (zs.getD i 0)] 0, ?_, fun s _ => ?_, fun _ _ _ => rfl, rfl, rfl⟩
      · have hg : gi zs (i : Int) = zs.getD i 0 := by rw [gi_nat h]; simp [List.getD, h]
        simp [h, hg]
      · simp }
theorem IntSl.row {m : Mem} {k : Nat} {zs : List Int} (h : m[k]? = some (some (.cells false (zs.map (AV.int .i64))))) : IntSl (.row (.mem k) 0 zs.length) m zs :=
  { len := by simp
    view := rfl
    nl := rfl
    tk := fun _ _ => rfl
    good := rfl
    one := rfl
    cells := rfl
    adr := fun i hi => by
      refine ⟨.ptr (.mem k) (0 + i * 1), ?_, fun s hs => ?_, fun _ _ _ => rfl, rfl, rfl⟩
      · have : (i : Int) < zs.length := by omega
        simp [hi]
      · subst hs
        have ho : s.obj (.mem k) = some (.cells false (zs.map (AV.int .i64))) := by
          show (match s.mem[k]? with | some o => o | none => none) = _
          rw [h]
        simp [ho, objCells, hi, List.getD] }
end
end Go.Vm
