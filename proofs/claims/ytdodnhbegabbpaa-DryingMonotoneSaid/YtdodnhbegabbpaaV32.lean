/- Rules for running by simp: each operation says where it goes on. -/
import Derived.Test.YtdodnhbegabbpaaV31
namespace Go.Vm

section
variable {T : FuncId → Option VF} {s : St} {is : List VI} {K : St → Prop} {d : Option Nat}

@[simp] theorem sget_set (s : St) (a b : Nat) (v : AV) : (s.set a v).get b = if b = a then v else s.get b := rfl
@[simp] theorem sget_init (args : List AV) (m : Mem) (b : Nat) : (St.init args m).get b = args.getD b .undef := rfl
@[simp] theorem sev_t (s : St) (n : Nat) : s.ev (.t n) = s.get n := rfl
@[simp] theorem sev_k (s : St) (v : AV) : s.ev (.k v) = v := rfl
@[simp] theorem sput_some (s : St) (d : Nat) (v : AV) : s.put (some d) v = s.set d v := rfl
@[simp] theorem sput_none (s : St) (v : AV) : s.put none v = s := rfl
@[simp] theorem sget_addLoc (s : St) (d b : Nat) (o : LObj) : (addLoc s d o).get b = s.get b := rfl
@[simp] theorem sget_addMem (s : St) (b : Nat) (o : LObj) : (addMem s o).get b = s.get b := rfl
@[simp] theorem sget_setObj (s : St) (x : Ix) (o : LObj) (b : Nat) : (s.setObj x o).get b = s.get b := by cases x <;> rfl
@[simp] theorem sget_mem (s : St) (m : Mem) (b : Nat) : (s.withMem m).get b = s.get b := rfl
@[simp] theorem sloc_set (s : St) (a : Nat) (v : AV) : (s.set a v).loc = s.loc := rfl
@[simp] theorem sloc_mem (s : St) (m : Mem) : (s.withMem m).loc = s.loc := rfl
@[simp] theorem sloc_addMem (s : St) (o : LObj) : (addMem s o).loc = s.loc := rfl
@[simp] theorem sloc_addLoc (s : St) (d : Nat) (o : LObj) (t : Nat) : (addLoc s d o).loc t = if t = d then s.loc d ++ [o] else s.loc t := rfl
@[simp] theorem sloc_init (args : List AV) (m : Mem) (t : Nat) : (St.init args m).loc t = [] := rfl
@[simp] theorem sloc_setObj (s : St) (t k : Nat) (o : LObj) (u : Nat) : (s.setObj (.loc t k) o).loc u = if u = t then (s.loc t).set k o else s.loc u := rfl
@[simp] theorem sloc_setObjM (s : St) (i : Nat) (o : LObj) : (s.setObj (.mem i) o).loc = s.loc := rfl
@[simp] theorem smem_set (s : St) (a : Nat) (v : AV) : (s.set a v).mem = s.mem := rfl
@[simp] theorem smem_mem (s : St) (m : Mem) : (s.withMem m).mem = m := rfl
@[simp] theorem smem_addLoc (s : St) (d : Nat) (o : LObj) : (addLoc s d o).mem = s.mem := rfl
@[simp] theorem smem_addMem (s : St) (o : LObj) : (addMem s o).mem = s.mem ++ [some o] := rfl
@[simp] theorem smem_init (args : List AV) (m : Mem) : (St.init args m).mem = m := rfl
@[simp] theorem smem_setObj (s : St) (t k : Nat) (o : LObj) : (s.setObj (.loc t k) o).mem = s.mem := rfl
@[simp] theorem smem_setObjM (s : St) (i : Nat) (o : LObj) : (s.setObj (.mem i) o).mem = s.mem.set i (some o) := rfl
@[simp] theorem sobj_loc (s : St) (t k : Nat) : s.obj (.loc t k) = (s.loc t)[k]? := rfl
def memO : Option (Option LObj) → Option LObj
  | some o => o
  | none => none
@[simp] theorem memO_some (o : Option LObj) : memO (some o) = o := rfl
@[simp] theorem sobj_mem (s : St) (i : Nat) : s.obj (.mem i) = memO s.mem[i]? := by
  unfold memO; rfl

attribute [simp] wp_seq wp_region wp_cond wp_ret wp_skip wp_exit wp_block wpo_nil wpo_callP wpo_callM wpo_guard
@[simp] theorem seqK_normal {b : VC} {Q : VExit → St → Prop} : seqK T b Q .normal = fun s => wp T b s Q := rfl
@[simp] theorem seqK_ret {b : VC} {Q : VExit → St → Prop} : seqK T b Q .ret = Q .ret := rfl
@[simp] theorem seqK_exit {b : VC} {Q : VExit → St → Prop} {i : Nat} : seqK T b Q (.exit i) = Q (.exit i) := rfl
@[simp] theorem blockK_normal {i : Nat} {Q : VExit → St → Prop} : blockK i Q .normal = Q .normal := rfl
@[simp] theorem blockK_ret {i : Nat} {Q : VExit → St → Prop} : blockK i Q .ret = Q .ret := rfl
@[simp] theorem blockK_exit {i j : Nat} {Q : VExit → St → Prop} : blockK i Q (.exit j) = fun s => if j = i then Q .normal s else Q (.exit j) s := rfl
@[simp] theorem roundK_normal {I : St → Prop} {Q : VExit → St → Prop} : roundK I Q .normal = I := rfl
@[simp] theorem roundK_ret {I : St → Prop} {Q : VExit → St → Prop} : roundK I Q .ret = Q .ret := rfl
@[simp] theorem roundK_exit {I : St → Prop} {Q : VExit → St → Prop} {i : Nat} : roundK I Q (.exit i) = Q (.exit i) := rfl
@[simp] theorem condK_bool {a b : VC} {Q : VExit → St → Prop} {v : Bool} : condK T a b s Q (.bool v) = ((v = true → wp T a s Q) ∧ (v = false → wp T b s Q)) := rfl
@[simp] theorem retK_ret {rs : List VRes} {P : AV → Mem → Prop} : retK rs P .ret s = ∃ v, result s rs = some v ∧ P v s.mem := rfl
@[simp] theorem retK_normal {rs : List VRes} {P : AV → Mem → Prop} : retK rs P .normal s = ∃ v, result s rs = some v ∧ P v s.mem := rfl
@[simp] theorem calleeP_fn {args : List VO} {g : FuncId} {caps : List AV} : calleeP T d is s K args (.fn (.func g) caps) = ((args.all fun x => (s.ev x).nl) = true ∧ callPK T d is s K (callL T g ((args.map fun x => (s.ev x).view) ++ caps.map AV.view) [])) := rfl
@[simp] theorem calleeM_fn {args : List VO} {g : FuncId} {caps : List AV} : calleeM T d is s K args (.fn (.func g) caps) = ((args.all fun x => (s.ev x).nl) = true ∧ callK T d is s K (callL T g ((args.map fun x => (s.ev x).view) ++ caps.map AV.view) s.mem)) := rfl
@[simp] theorem callPK_some {v : AV} : callPK T d is s K (some (v, [])) = wpo T is (s.put d v) K := rfl
@[simp] theorem callK_some {v : AV} {m : Mem} : callK T d is s K (some (v, m)) = wpo T is ((s.withMem m).put d v) K := rfl
@[simp] theorem guardV_bool {i : VI} {j : Nat} {want b : Bool} : guardV T i j want is s K (.bool b) = ((b = want → wpo T (⟨i.dst, i.op, none⟩ :: is) (s.set j (.bool want)) K) ∧ (b = !want → wpo T is ((s.set j (.bool !want)).put i.dst (.tup [])) K)) := rfl
theorem guard_known {i : VI} {j : Nat} {want b : Bool} (h : s.get j = .bool b) : guardV T i j want is s K (.bool b) = if b = want then wpo T (⟨i.dst, i.op, none⟩ :: is) s K else wpo T is (s.put i.dst (.tup [])) K := by
  have hs : s.set j (.bool b) = s := by rw [← h]; exact set_get s j
  rw [guardV_bool, eq_iff_iff]
  by_cases hb : b = want
  · subst hb; cases b <;> simp [hs]
  · have : want = !b := by cases b <;> cases want <;> simp_all
    subst this; cases b <;> simp [hs]
@[simp high] theorem guardV_tt {i : VI} {j : Nat} (h : s.get j = .bool true) : guardV T i j true is s K (.bool true) = wpo T (⟨i.dst, i.op, none⟩ :: is) s K := by rw [guard_known h]; simp
@[simp high] theorem guardV_ff {i : VI} {j : Nat} (h : s.get j = .bool false) : guardV T i j false is s K (.bool false) = wpo T (⟨i.dst, i.op, none⟩ :: is) s K := by rw [guard_known h]; simp
@[simp high] theorem guardV_tf {i : VI} {j : Nat} (h : s.get j = .bool false) : guardV T i j true is s K (.bool false) = wpo T is (s.put i.dst (.tup [])) K := by rw [guard_known h]; simp
@[simp high] theorem guardV_ft {i : VI} {j : Nat} (h : s.get j = .bool true) : guardV T i j false is s K (.bool true) = wpo T is (s.put i.dst (.tup [])) K := by rw [guard_known h]; simp
@[simp] theorem guardV_skip {i : VI} {j : Nat} {want : Bool} : guardV T i j want is s K (.tup []) = wpo T is (s.put i.dst (.tup [])) K := rfl

@[simp] theorem putK_some {v : AV} : putK T d is K (some (v, s)) = wpo T is (s.put d v) K := rfl

variable (T) in
def valK (d : Option Nat) (is : List VI) (s : St) (K : St → Prop) : Option AV → Prop
  | some v => wpo T is (s.put d v) K
  | none => False
@[simp] theorem valK_some {v : AV} : valK T d is s K (some v) = wpo T is (s.put d v) K := rfl
@[simp] theorem valK_none : valK T d is s K none = False := rfl
variable (T) in
/-- A value under a condition. -/
@[simp] theorem valK_if {p : Prop} [Decidable p] {a : Option AV} : valK T d is s K (if p then a else none) = (p ∧ valK T d is s K a) := by
  by_cases h : p <;> simp [h]

@[simp] theorem valK_ifn {p : Prop} [Decidable p] {a : Option AV} : valK T d is s K (if p then none else a) = (¬p ∧ valK T d is s K a) := by
  by_cases h : p <;> simp [h]

theorem wpo_pure {op : VOp} (hp : isPure op = true) (hc : isCall op = false) : wpo T (⟨d, op, none⟩ :: is) s K = valK T d is s K (pval s.ev op) := by
  rw [wpo_op hc, exec_pure hp]
  cases pval s.ev op <;> rfl

@[simp] theorem wx_move {x : VO} : wpo T (⟨d, .move x, none⟩ :: is) s K = wpo T is (s.put d (s.ev x).view) K := wpo_pure rfl rfl

def nilckV : AV → Option AV
  | .ptr i o => some (.ptr i o)
  | .vptr cs o => some (.vptr cs o)
  | .fn f cs => some (.fn f cs)
  | _ => none
@[simp] theorem wx_nilck {x : VO} : wpo T (⟨d, .nilck x, none⟩ :: is) s K = valK T d is s K (nilckV (s.ev x)) := wpo_pure rfl rfl
@[simp] theorem wx_bin {op : BinOp} {x y : VO} : wpo T (⟨d, .bin op x y, none⟩ :: is) s K = valK T d is s K (bin? op (s.ev x) (s.ev y)) := wpo_pure rfl rfl
@[simp] theorem wx_un {op : UnOp} {x : VO} : wpo T (⟨d, .un op x, none⟩ :: is) s K = valK T d is s K (un? op (s.ev x)) := wpo_pure rfl rfl
def pickV (a b : AV) : AV → Option AV
  | .bool true => some a.view
  | .bool false => some b.view
  | _ => none
@[simp] theorem wx_pick {c a b : VO} : wpo T (⟨d, .pick c a b, none⟩ :: is) s K = valK T d is s K (pickV (s.ev a) (s.ev b) (s.ev c)) := wpo_pure rfl rfl
def eqBoolV (neg : Bool) : AV → AV → Option AV
  | .bool a, .bool b => some (.bool (if neg then !(a == b) else a == b))
  | _, _ => none
@[simp] theorem wx_eqBool {neg : Bool} {x y : VO} : wpo T (⟨d, .eqBool neg x y, none⟩ :: is) s K = valK T d is s K (eqBoolV neg (s.ev x) (s.ev y)) := wpo_pure rfl rfl
def eqNilV (neg : Bool) : Option Bool → Option AV
  | some b => some (.bool (if neg then !b else b))
  | none => none
@[simp] theorem wx_eqNil {k : Nat} {neg : Bool} {x : VO} : wpo T (⟨d, .eqNil k neg x, none⟩ :: is) s K = valK T d is s K (eqNilV neg (isNil? k (s.ev x))) := wpo_pure rfl rfl
def eqAggV (neg : Bool) (spots : List (Nat × Nat)) : AV → AV → Option AV
  | .agg xs, .agg ys => eqNilV neg (eqCells xs ys spots)
  | _, _ => none
@[simp] theorem wx_eqAgg {neg : Bool} {spots : List (Nat × Nat)} {x y : VO} : wpo T (⟨d, .eqAgg neg spots x y, none⟩ :: is) s K = valK T d is s K (eqAggV neg spots (s.ev x) (s.ev y)) := wpo_pure rfl rfl
def cintV (k : IntKind) : AV → Option AV
  | .int _ n => some (.int k (k.wrap n))
  | _ => none
@[simp] theorem wx_cint {k : IntKind} {x : VO} : wpo T (⟨d, .cint k x, none⟩ :: is) s K = valK T d is s K (cintV k (s.ev x)) := wpo_pure rfl rfl
def cstrV : AV → Option AV
  | .str s => some (.str s)
  | _ => none
@[simp] theorem wx_cstr {x : VO} : wpo T (⟨d, .cstr x, none⟩ :: is) s K = valK T d is s K (cstrV (s.ev x)) := wpo_pure rfl rfl
def bytesOfV : AV → Option AV
  | .str s => some (.vec none true (s.map fun b => .int .u8 b.toNat))
  | _ => none
@[simp] theorem wx_bytesOf {x : VO} : wpo T (⟨d, .bytesOf x, none⟩ :: is) s K = valK T d is s K (bytesOfV (s.ev x)) := wpo_pure rfl rfl
def faddrV (off : Nat) : AV → Option AV
  | .ptr i o => some (.ptr i (o + off))
  | .vptr cs o => some (.vptr cs (o + off))
  | _ => none
@[simp] theorem wx_faddr {off : Nat} {x : VO} : wpo T (⟨d, .faddr off x, none⟩ :: is) s K = valK T d is s K (faddrV off (s.ev x)) := wpo_pure rfl rfl
def fieldV (off : Nat) (agg : Option Nat) : AV → Option AV
  | .agg cs => part? agg cs off
  | _ => none
@[simp] theorem wx_field {off : Nat} {agg : Option Nat} {x : VO} : wpo T (⟨d, .field off agg x, none⟩ :: is) s K = valK T d is s K (fieldV off agg (s.ev x)) := wpo_pure rfl rfl
def elV (esz : Nat) : Option AV → Option AV
  | some e => if e.cells.length = esz then some (.vptr e.cells 0) else none
  | none => none
def iaddrSlV (esz : Nat) : AV → AV → Option AV
  | .vec _ _ xs, .int _ i => if 0 ≤ i then elV esz xs[i.toNat]? else none
  | .row ix off len, .int _ i => if 0 ≤ i ∧ i < len then some (.ptr ix (off + i.toNat * esz)) else none
  | _, _ => none
@[simp] theorem wx_iaddrSl {esz : Nat} {x i : VO} : wpo T (⟨d, .iaddrSl esz x i, none⟩ :: is) s K = valK T d is s K (iaddrSlV esz (s.ev x) (s.ev i)) := wpo_pure rfl rfl
def iaddrArrV (n esz : Nat) : AV → AV → Option AV
  | .ptr ix o, .int _ i => if 0 ≤ i ∧ i < n then some (.ptr ix (o + i.toNat * esz)) else none
  | .vptr cs o, .int _ i => if 0 ≤ i ∧ i < n then some (.vptr cs (o + i.toNat * esz)) else none
  | _, _ => none
@[simp] theorem wx_iaddrArr {n esz : Nat} {x i : VO} : wpo T (⟨d, .iaddrArr n esz x i, none⟩ :: is) s K = valK T d is s K (iaddrArrV n esz (s.ev x) (s.ev i)) := wpo_pure rfl rfl
def idxArrV (n esz : Nat) (agg : Option Nat) : AV → AV → Option AV
  | .agg cs, .int _ i => if 0 ≤ i ∧ i < n then part? agg cs (i.toNat * esz) else none
  | _, _ => none
@[simp] theorem wx_idxArr {n esz : Nat} {agg : Option Nat} {x i : VO} : wpo T (⟨d, .idxArr n esz agg x i, none⟩ :: is) s K = valK T d is s K (idxArrV n esz agg (s.ev x) (s.ev i)) := wpo_pure rfl rfl
def byteV : Option UInt8 → Option AV
  | some b => some (.int .u8 b.toNat)
  | none => none
def idxStrV : AV → AV → Option AV
  | .str s, .int _ i => if 0 ≤ i then byteV s[i.toNat]? else none
  | _, _ => none
@[simp] theorem wx_idxStr {x i : VO} : wpo T (⟨d, .idxStr x i, none⟩ :: is) s K = valK T d is s K (idxStrV (s.ev x) (s.ev i)) := wpo_pure rfl rfl
def extV (i : Nat) : AV → Option AV
  | .tup vs => match vs[i]? with
    | some v => some v.view
    | none => none
  | _ => none
@[simp] theorem wx_ext {x : VO} {i : Nat} : wpo T (⟨d, .ext x i, none⟩ :: is) s K = valK T d is s K (extV i (s.ev x)) := wpo_pure rfl rfl
def lenSlV : AV → Option AV
  | .vec _ _ xs => some (.int .i64 xs.length)
  | .row _ _ len => some (.int .i64 len)
  | _ => none
@[simp] theorem wx_lenSl {x : VO} : wpo T (⟨d, .lenSl x, none⟩ :: is) s K = valK T d is s K (lenSlV (s.ev x)) := wpo_pure rfl rfl
def lenStrV : AV → Option AV
  | .str s => some (.int .i64 s.length)
  | _ => none
@[simp] theorem wx_lenStr {x : VO} : wpo T (⟨d, .lenStr x, none⟩ :: is) s K = valK T d is s K (lenStrV (s.ev x)) := wpo_pure rfl rfl
def minmaxV (m : Bool) : List AV → Option AV
  | v :: rest => minmax? m v.view rest
  | [] => none
@[simp] theorem wx_minmax {m : Bool} {xs : List VO} : wpo T (⟨d, .minmax m xs, none⟩ :: is) s K = valK T d is s K (minmaxV m (xs.map s.ev)) := wpo_pure rfl rfl
def buildV (ok : Bool) : Option (List AV) → Option AV
  | some cs => if ok then some (.agg cs) else none
  | none => none
@[simp] theorem wx_build {zero : List AV} {parts : List (Nat × Nat × VO)} : wpo T (⟨d, .build zero parts, none⟩ :: is) s K = valK T d is s K (buildV (parts.all fun p => (s.ev p.2.2).good) (overlay zero (parts.map fun p => (p.1, p.2.1, s.ev p.2.2)))) := wpo_pure rfl rfl
def buildSlV (esz : Nat) (ok : Bool) : Option (List AV) → Option AV
  | some xs => if ok then some (.vec (some esz) true xs) else none
  | none => none
@[simp] theorem wx_buildSl {esz n : Nat} {zero : AV} {parts : List (Nat × VO)} : wpo T (⟨d, .buildSl esz zero n parts, none⟩ :: is) s K =
    valK T d is s K (if zero.cells.length = esz then buildSlV esz (parts.all fun p => (s.ev p.2).good) (overEls esz (List.replicate n zero) (parts.map fun p => (p.1, s.ev p.2))) else none) := wpo_pure rfl rfl
def slStrV : AV → AV → AV → Option AV
  | .str s, .int _ l, .int _ h => if 0 ≤ l ∧ l ≤ h ∧ h ≤ s.length then some (.str ((s.take h.toNat).drop l.toNat)) else none
  | _, _, _ => none
def strLen : AV → AV
  | .str s => .int .i64 s.length
  | _ => .undef
@[simp] theorem wx_slStr {x : VO} {lo hi : Option VO} : wpo T (⟨d, .slStr x lo hi, none⟩ :: is) s K = valK T d is s K (slStrV (s.ev x) (optV s.ev lo (.int .i64 0)) (optV s.ev hi (strLen (s.ev x)))) := by
  rw [wpo_pure rfl rfl]
  congr 1
  simp only [pval]
  cases s.ev x <;> first | rfl | skip
  rename_i b
  simp only [strLen]
  cases optV s.ev lo (.int .i64 0) <;> cases optV s.ev hi (.int .i64 b.length) <;> rfl
@[simp] theorem optV_none (ev : VO → AV) (v : AV) : optV ev none v = v := rfl
@[simp] theorem optV_some (ev : VO → AV) (x : VO) (v : AV) : optV ev (some x) v = ev x := rfl
def mkIfaceV (t : TypeId) (v : AV) : Option AV := if v.nl then some (.iface t v.view) else none
@[simp] theorem wx_mkIface {t : TypeId} {x : VO} : wpo T (⟨d, .mkIface t x, none⟩ :: is) s K = valK T d is s K (mkIfaceV t (s.ev x)) := wpo_pure rfl rfl

/-! ### the operations on memory -/

def takeV (s : St) (t : Nat) : AV → AV × St
  | .vec (some z) nn xs => (.vec (some z) nn xs, s.set t (.vec none nn xs))
  | v => (v, s)
theorem takeT_eq (s : St) (t : Nat) : s.takeT t = takeV s t (s.get t) := rfl
variable (T) in
def takeK (d : Option Nat) (is : List VI) (K : St → Prop) (r : AV × St) : Prop := wpo T is (r.2.put d r.1) K
@[simp] theorem takeK_mk {v : AV} : takeK T d is K (v, s) = wpo T is (s.put d v) K := rfl
@[simp] theorem wx_take {t : Nat} : wpo T (⟨d, .take t, none⟩ :: is) s K = takeK T d is K (takeV s t (s.get t)) := by
  rw [wpo_op rfl]; rfl
@[simp] theorem wx_assign_t {t : Nat} : wpo T (⟨d, .assign (.t t), none⟩ :: is) s K = takeK T d is K (takeV s t (s.get t)) := by
  rw [wpo_op rfl]; rfl
@[simp] theorem wx_assign_k {v : AV} : wpo T (⟨d, .assign (.k v), none⟩ :: is) s K = wpo T is (s.put d v) K := by
  rw [wpo_op rfl]; rfl
@[simp] theorem wx_alloc_loc {d : Nat} {cs : List AV} : wpo T (⟨some d, .alloc false cs, none⟩ :: is) s K = wpo T is ((addLoc s d (.cells false cs)).set d (.ptr (.loc d (s.loc d).length) 0)) K := by
  rw [wpo_op rfl]; rfl
@[simp] theorem wx_alloc_mem {d : Nat} {cs : List AV} : wpo T (⟨some d, .alloc true cs, none⟩ :: is) s K = wpo T is ((addMem s (.cells false cs)).set d (.ptr (.mem s.mem.length) 0)) K := by
  rw [wpo_op rfl]; rfl
@[simp] theorem wx_box_loc {d : Nat} {x : VO} : wpo T (⟨some d, .box false x, none⟩ :: is) s K = ((s.ev x).good = true ∧ wpo T is ((addLoc s d (.cells false ((s.ev x).cells.map AV.view))).set d (.ptr (.loc d (s.loc d).length) 0)) K) := by
  rw [wpo_op rfl]
  simp only [exec]
  by_cases h : (s.ev x).good = true
  · rw [if_pos h]; simp only [h, true_and]; rfl
  · rw [if_neg h]; simp [h, putK]
@[simp] theorem wx_box_mem {d : Nat} {x : VO} : wpo T (⟨some d, .box true x, none⟩ :: is) s K = ((s.ev x).good = true ∧ wpo T is ((addMem s (.cells false ((s.ev x).cells.map AV.view))).set d (.ptr (.mem s.mem.length) 0)) K) := by
  rw [wpo_op rfl]
  simp only [exec]
  by_cases h : (s.ev x).good = true
  · rw [if_pos h]; simp only [h, true_and]; rfl
  · rw [if_neg h]; simp [h, putK]
def partO (agg : Option Nat) (o : Nat) : Option (List AV) → Option AV
  | some cs => part? agg cs o
  | none => none
@[simp] theorem partO_some (agg : Option Nat) (o : Nat) (cs : List AV) : partO agg o (some cs) = part? agg cs o := rfl
def loadV (agg : Option Nat) (s : St) : AV → Option AV
  | .vptr cs o => part? agg cs o
  | .ptr ix o => partO agg o (objCells true (s.obj ix))
  | _ => none
@[simp] theorem loadV_vptr (agg : Option Nat) (s : St) (cs : List AV) (o : Nat) : loadV agg s (.vptr cs o) = part? agg cs o := rfl
@[simp] theorem loadV_ptr (agg : Option Nat) (s : St) (ix : Ix) (o : Nat) : loadV agg s (.ptr ix o) = partO agg o (objCells true (s.obj ix)) := rfl
@[simp] theorem wx_load {agg : Option Nat} {x : VO} : wpo T (⟨d, .load agg x, none⟩ :: is) s K = valK T d is s K (loadV agg s (s.ev x)) := by
  rw [wpo_op rfl]
  simp only [exec]
  cases s.ev x with
  | vptr cs o => simp only [loadV]; cases part? agg cs o <;> rfl
  | ptr ix o =>
    simp only [loadV]
    cases objCells true (s.obj ix) with
    | none => rfl
    | some cs => simp only [partO]; cases part? agg cs o <;> rfl
  | _ => rfl
@[simp] theorem objCells_cells (b f : Bool) (cs : List AV) : objCells b (some (.cells f cs)) = if b || !f then some cs else none := rfl
def stCells (sz : Nat) (o : Nat) (cs : List AV) (v : AV) : Option (List AV) :=
  if v.cells.length = sz ∧ o + sz ≤ cs.length ∧ v.cells.all AV.one then
    match v with
    | .agg vs => some (putCells cs o (vs.map AV.view))
    | v => some (cs.set o v)
  else none
variable (T) in
def stK (d : Option Nat) (is : List VI) (s : St) (K : St → Prop) (ix : Ix) : Option (List AV) → Prop
  | some cs => wpo T is ((s.setObj ix (.cells false cs)).put d .undef) K
  | none => False
@[simp] theorem stK_some {ix : Ix} {cs : List AV} : stK T d is s K ix (some cs) = wpo T is ((s.setObj ix (.cells false cs)).put d .undef) K := rfl
variable (T) in
def storeK (sz : Nat) (d : Option Nat) (is : List VI) (K : St → Prop) (ix : Ix) (o : Nat) (r : AV × St) : Option (List AV) → Prop
  | some cs => stK T d is r.2 K ix (stCells sz o cs r.1)
  | none => False
@[simp] theorem storeK_some {sz : Nat} {ix : Ix} {o : Nat} {r : AV × St} {cs : List AV} : storeK T sz d is K ix o r (some cs) = stK T d is r.2 K ix (stCells sz o cs r.1) := rfl
variable (T) in
def stK0 (sz : Nat) (d : Option Nat) (is : List VI) (s : St) (K : St → Prop) (x : VO) : AV → Prop
  | .ptr ix o => storeK T sz d is K ix o (s.takeO x) (objCells false (s.obj ix))
  | _ => False
@[simp] theorem stK0_ptr {sz : Nat} {x : VO} {ix : Ix} {o : Nat} : stK0 T sz d is s K x (.ptr ix o) = storeK T sz d is K ix o (s.takeO x) (objCells false (s.obj ix)) := rfl
@[simp] theorem takeO_k (s : St) (v : AV) : s.takeO (.k v) = (v, s) := rfl
@[simp] theorem takeO_t (s : St) (n : Nat) : s.takeO (.t n) = takeV s n (s.get n) := rfl
@[simp] theorem wx_store {sz : Nat} {a x : VO} : wpo T (⟨d, .store sz a x, none⟩ :: is) s K = stK0 T sz d is s K x (s.ev a) := by
  rw [wpo_op rfl]
  simp only [exec]
  cases s.ev a with
  | ptr ix o =>
    simp only [stK0]
    cases objCells false (s.obj ix) with
    | none => rfl
    | some cs =>
      simp only [storeK, stCells]
      split
      · generalize (s.takeO x).1 = v
        cases v <;> rfl
      · rfl
  | _ => rfl
@[simp] theorem slV_wx {esz : Nat} {x : VO} {lo hi : Option VO} {o : Option Nat} {nn : Bool} {xs : List AV} (h : s.ev x = .vec o nn xs) : wpo T (⟨d, .slSl esz x lo hi none, none⟩ :: is) s K =
    valK T d is s K (slVec esz nn xs (optV s.ev lo (.int .i64 0)) (optV s.ev hi (.int .i64 xs.length)) none) := by
  rw [wpo_op rfl]
  simp only [exec, h, Option.map_none]
  cases slVec esz nn xs (optV s.ev lo (.int .i64 0)) (optV s.ev hi (.int .i64 xs.length)) none <;> rfl
def appV (esz bytes : Nat) (ys : List AV) : AV → Option AV
  | .vec (some z) nn xs => if z = esz ∧ 0 < bytes ∧ (xs.length + ys.length) * bytes ≤ 140737488355328 then some (.vec (some esz) (nn || !ys.isEmpty) (xs ++ ys.map AV.view)) else none
  | .vec none false xs => if 0 < bytes ∧ (xs.length + ys.length) * bytes ≤ 140737488355328 then some (.vec (some esz) (!ys.isEmpty) (xs ++ ys.map AV.view)) else none
  | _ => none
variable (T) in
def appK (esz bytes : Nat) (d : Option Nat) (is : List VI) (K : St → Prop) (r : AV × St) : Option (List AV) → Prop
  | some ys => valK T d is r.2 K (appV esz bytes ys r.1)
  | none => False
@[simp] theorem appK_some {esz bytes : Nat} {r : AV × St} {ys : List AV} : appK T esz bytes d is K r (some ys) = valK T d is r.2 K (appV esz bytes ys r.1) := rfl
@[simp] theorem wx_append {esz bytes : Nat} {a x : VO} : wpo T (⟨d, .append esz bytes a x, none⟩ :: is) s K = appK T esz bytes d is K (s.takeO a) (elems? esz (s.ev x)) := by
  rw [wpo_op rfl]
  simp only [exec]
  cases elems? esz (s.ev x) with
  | none => rfl
  | some ys =>
    simp only [appK]
    generalize s.takeO a = r
    obtain ⟨v, s'⟩ := r
    cases v with
    | vec o nn xs =>
      cases o with
      | none =>
        cases nn with
        | true => rfl
        | false => simp only [appV]; split <;> rfl
      | some z => simp only [appV]; split <;> rfl
    | _ => rfl
variable (T) in
def capK (d : Option Nat) (is : List VI) (K : St → Prop) (f : Fn) : Option (List AV × St) → Prop
  | some (vs, s) => wpo T is (s.put d (.fn f vs)) K
  | none => False
@[simp] theorem capK_some {f : Fn} {vs : List AV} : capK T d is K f (some (vs, s)) = wpo T is (s.put d (.fn f vs)) K := rfl
@[simp] theorem wx_mkfn {f : Fn} {caps : List VO} : wpo T (⟨d, .mkfn f caps, none⟩ :: is) s K = capK T d is K f (capture (caps.map s.ev) s) := by
  rw [wpo_op rfl]
  simp only [exec]
  cases capture (caps.map s.ev) s <;> rfl

variable {b nn : Bool} {k : IntKind} {n : Int} {l : List UInt8} {cs xs : List AV} {o : Option Nat} {i j off len : Nat} {f : Fn} {t : TypeId} {v : AV}
@[simp] theorem view_undef : AV.view .undef = .undef := rfl
@[simp] theorem cells_undef : AV.cells .undef = [.undef] := rfl
@[simp] theorem nl_undef : AV.nl .undef = true := rfl
@[simp] theorem good_undef : AV.good .undef = false := rfl
@[simp] theorem one_undef : AV.one .undef = false := rfl
@[simp] theorem take_undef {u : Nat} : takeV s u .undef = (.undef, s) := rfl
@[simp] theorem view_bool : AV.view (.bool b) = (.bool b) := rfl
@[simp] theorem cells_bool : AV.cells (.bool b) = [(.bool b)] := rfl
@[simp] theorem nl_bool : AV.nl (.bool b) = true := rfl
@[simp] theorem good_bool : AV.good (.bool b) = true := rfl
@[simp] theorem one_bool : AV.one (.bool b) = true := rfl
@[simp] theorem take_bool {u : Nat} : takeV s u (.bool b) = ((.bool b), s) := rfl
@[simp] theorem view_int : AV.view (.int k n) = (.int k n) := rfl
@[simp] theorem cells_int : AV.cells (.int k n) = [(.int k n)] := rfl
@[simp] theorem nl_int : AV.nl (.int k n) = true := rfl
@[simp] theorem good_int : AV.good (.int k n) = true := rfl
@[simp] theorem one_int : AV.one (.int k n) = true := rfl
@[simp] theorem take_int {u : Nat} : takeV s u (.int k n) = ((.int k n), s) := rfl
@[simp] theorem view_str : AV.view (.str l) = (.str l) := rfl
@[simp] theorem cells_str : AV.cells (.str l) = [(.str l)] := rfl
@[simp] theorem nl_str : AV.nl (.str l) = true := rfl
@[simp] theorem good_str : AV.good (.str l) = true := rfl
@[simp] theorem one_str : AV.one (.str l) = true := rfl
@[simp] theorem take_str {u : Nat} : takeV s u (.str l) = ((.str l), s) := rfl
@[simp] theorem view_agg : AV.view (.agg cs) = (.agg cs) := rfl
@[simp] theorem cells_agg : AV.cells (.agg cs) = cs := rfl
@[simp] theorem nl_agg : AV.nl (.agg cs) = true := rfl
@[simp] theorem good_agg : AV.good (.agg cs) = true := rfl
@[simp] theorem one_agg : AV.one (.agg cs) = false := rfl
@[simp] theorem take_agg {u : Nat} : takeV s u (.agg cs) = ((.agg cs), s) := rfl
@[simp] theorem view_tup : AV.view (.tup cs) = (.tup cs) := rfl
@[simp] theorem cells_tup : AV.cells (.tup cs) = [(.tup cs)] := rfl
@[simp] theorem nl_tup : AV.nl (.tup cs) = true := rfl
@[simp] theorem good_tup : AV.good (.tup cs) = true := rfl
@[simp] theorem one_tup : AV.one (.tup cs) = false := rfl
@[simp] theorem take_tup {u : Nat} : takeV s u (.tup cs) = ((.tup cs), s) := rfl
@[simp] theorem view_vec : AV.view (.vec o nn xs) = .vec none nn xs := rfl
@[simp] theorem cells_vec : AV.cells (.vec o nn xs) = [(.vec o nn xs)] := rfl
@[simp] theorem nl_vec : AV.nl (.vec o nn xs) = true := rfl
@[simp] theorem good_vec : AV.good (.vec o nn xs) = true := rfl
@[simp] theorem one_vec : AV.one (.vec o nn xs) = true := rfl
@[simp] theorem view_rowm : AV.view (.row (.mem i) off len) = (.row (.mem i) off len) := rfl
@[simp] theorem cells_rowm : AV.cells (.row (.mem i) off len) = [(.row (.mem i) off len)] := rfl
@[simp] theorem nl_rowm : AV.nl (.row (.mem i) off len) = true := rfl
@[simp] theorem good_rowm : AV.good (.row (.mem i) off len) = true := rfl
@[simp] theorem one_rowm : AV.one (.row (.mem i) off len) = true := rfl
@[simp] theorem take_rowm {u : Nat} : takeV s u (.row (.mem i) off len) = ((.row (.mem i) off len), s) := rfl
@[simp] theorem view_ptrm : AV.view (.ptr (.mem i) off) = (.ptr (.mem i) off) := rfl
@[simp] theorem cells_ptrm : AV.cells (.ptr (.mem i) off) = [(.ptr (.mem i) off)] := rfl
@[simp] theorem nl_ptrm : AV.nl (.ptr (.mem i) off) = true := rfl
@[simp] theorem good_ptrm : AV.good (.ptr (.mem i) off) = true := rfl
@[simp] theorem one_ptrm : AV.one (.ptr (.mem i) off) = true := rfl
@[simp] theorem take_ptrm {u : Nat} : takeV s u (.ptr (.mem i) off) = ((.ptr (.mem i) off), s) := rfl
@[simp] theorem view_rowl : AV.view (.row (.loc i j) off len) = (.row (.loc i j) off len) := rfl
@[simp] theorem cells_rowl : AV.cells (.row (.loc i j) off len) = [(.row (.loc i j) off len)] := rfl
@[simp] theorem nl_rowl : AV.nl (.row (.loc i j) off len) = false := rfl
@[simp] theorem good_rowl : AV.good (.row (.loc i j) off len) = false := rfl
@[simp] theorem one_rowl : AV.one (.row (.loc i j) off len) = false := rfl
@[simp] theorem take_rowl {u : Nat} : takeV s u (.row (.loc i j) off len) = ((.row (.loc i j) off len), s) := rfl
@[simp] theorem view_ptrl : AV.view (.ptr (.loc i j) off) = (.ptr (.loc i j) off) := rfl
@[simp] theorem cells_ptrl : AV.cells (.ptr (.loc i j) off) = [(.ptr (.loc i j) off)] := rfl
@[simp] theorem nl_ptrl : AV.nl (.ptr (.loc i j) off) = false := rfl
@[simp] theorem good_ptrl : AV.good (.ptr (.loc i j) off) = false := rfl
@[simp] theorem one_ptrl : AV.one (.ptr (.loc i j) off) = false := rfl
@[simp] theorem take_ptrl {u : Nat} : takeV s u (.ptr (.loc i j) off) = ((.ptr (.loc i j) off), s) := rfl
@[simp] theorem view_vptr : AV.view (.vptr cs off) = (.vptr cs off) := rfl
@[simp] theorem cells_vptr : AV.cells (.vptr cs off) = [(.vptr cs off)] := rfl
@[simp] theorem nl_vptr : AV.nl (.vptr cs off) = true := rfl
@[simp] theorem good_vptr : AV.good (.vptr cs off) = true := rfl
@[simp] theorem one_vptr : AV.one (.vptr cs off) = true := rfl
@[simp] theorem take_vptr {u : Nat} : takeV s u (.vptr cs off) = ((.vptr cs off), s) := rfl
@[simp] theorem view_nilptr : AV.view .nilptr = .nilptr := rfl
@[simp] theorem cells_nilptr : AV.cells .nilptr = [.nilptr] := rfl
@[simp] theorem nl_nilptr : AV.nl .nilptr = true := rfl
@[simp] theorem good_nilptr : AV.good .nilptr = true := rfl
@[simp] theorem one_nilptr : AV.one .nilptr = true := rfl
@[simp] theorem take_nilptr {u : Nat} : takeV s u .nilptr = (.nilptr, s) := rfl
@[simp] theorem view_fn : AV.view (.fn f cs) = (.fn f cs) := rfl
@[simp] theorem cells_fn : AV.cells (.fn f cs) = [(.fn f cs)] := rfl
@[simp] theorem nl_fn : AV.nl (.fn f cs) = true := rfl
@[simp] theorem good_fn : AV.good (.fn f cs) = true := rfl
@[simp] theorem one_fn : AV.one (.fn f cs) = true := rfl
@[simp] theorem take_fn {u : Nat} : takeV s u (.fn f cs) = ((.fn f cs), s) := rfl
@[simp] theorem view_nilfn : AV.view .nilfn = .nilfn := rfl
@[simp] theorem cells_nilfn : AV.cells .nilfn = [.nilfn] := rfl
@[simp] theorem nl_nilfn : AV.nl .nilfn = true := rfl
@[simp] theorem good_nilfn : AV.good .nilfn = true := rfl
@[simp] theorem one_nilfn : AV.one .nilfn = true := rfl
@[simp] theorem take_nilfn {u : Nat} : takeV s u .nilfn = (.nilfn, s) := rfl
@[simp] theorem view_iface : AV.view (.iface t v) = (.iface t v) := rfl
@[simp] theorem cells_iface : AV.cells (.iface t v) = [(.iface t v)] := rfl
@[simp] theorem nl_iface : AV.nl (.iface t v) = true := rfl
@[simp] theorem good_iface : AV.good (.iface t v) = true := rfl
@[simp] theorem one_iface : AV.one (.iface t v) = true := rfl
@[simp] theorem take_iface {u : Nat} : takeV s u (.iface t v) = ((.iface t v), s) := rfl
@[simp] theorem view_nilIface : AV.view .nilIface = .nilIface := rfl
@[simp] theorem cells_nilIface : AV.cells .nilIface = [.nilIface] := rfl
@[simp] theorem nl_nilIface : AV.nl .nilIface = true := rfl
@[simp] theorem good_nilIface : AV.good .nilIface = true := rfl
@[simp] theorem one_nilIface : AV.one .nilIface = true := rfl
@[simp] theorem take_nilIface {u : Nat} : takeV s u .nilIface = (.nilIface, s) := rfl
@[simp] theorem view_zcap : AV.view (.zcap nn) = (.zcap nn) := rfl
@[simp] theorem cells_zcap : AV.cells (.zcap nn) = [(.zcap nn)] := rfl
@[simp] theorem nl_zcap : AV.nl (.zcap nn) = true := rfl
@[simp] theorem good_zcap : AV.good (.zcap nn) = true := rfl
@[simp] theorem one_zcap : AV.one (.zcap nn) = true := rfl
@[simp] theorem take_zcap {u : Nat} : takeV s u (.zcap nn) = ((.zcap nn), s) := rfl
@[simp] theorem take_vecn {u : Nat} : takeV s u (.vec none nn xs) = (.vec none nn xs, s) := rfl
@[simp] theorem take_vecs {u z : Nat} : takeV s u (.vec (some z) nn xs) = (.vec (some z) nn xs, s.set u (.vec none nn xs)) := rfl
@[simp] theorem nilck_ptr {ix : Ix} : nilckV (.ptr ix off) = some (.ptr ix off) := rfl
@[simp] theorem nilck_vptr  : nilckV (.vptr cs off) = some (.vptr cs off) := rfl
@[simp] theorem nilck_fn  : nilckV (.fn f cs) = some (.fn f cs) := rfl
@[simp] theorem bin_add {n' : Int} : bin? .add (.int k n) (.int k n') = some (.int k (k.wrap (n + n'))) := by simp [bin?, binInt]
@[simp] theorem bin_sub {n' : Int} : bin? .sub (.int k n) (.int k n') = some (.int k (k.wrap (n - n'))) := by simp [bin?, binInt]
@[simp] theorem bin_mul {n' : Int} : bin? .mul (.int k n) (.int k n') = some (.int k (k.wrap (n * n'))) := by simp [bin?, binInt]
@[simp] theorem bin_quo {n' : Int} : bin? .quo (.int k n) (.int k n') = if n' = 0 then none else some (.int k (k.wrap (n.tdiv n'))) := by simp [bin?, binInt]
@[simp] theorem bin_rem {n' : Int} : bin? .rem (.int k n) (.int k n') = if n' = 0 then none else some (.int k (n.tmod n')) := by simp [bin?, binInt]
@[simp] theorem bin_eql {n' : Int} : bin? .eql (.int k n) (.int k n') = some (.bool (n == n')) := by simp [bin?, binInt]
@[simp] theorem bin_neq {n' : Int} : bin? .neq (.int k n) (.int k n') = some (.bool (n != n')) := by simp [bin?, binInt]
@[simp] theorem bin_lss {n' : Int} : bin? .lss (.int k n) (.int k n') = some (.bool (n < n')) := by simp [bin?, binInt]
@[simp] theorem bin_leq {n' : Int} : bin? .leq (.int k n) (.int k n') = some (.bool (n ≤ n')) := by simp [bin?, binInt]
@[simp] theorem bin_gtr {n' : Int} : bin? .gtr (.int k n) (.int k n') = some (.bool (n > n')) := by simp [bin?, binInt]
@[simp] theorem bin_geq {n' : Int} : bin? .geq (.int k n) (.int k n') = some (.bool (n ≥ n')) := by simp [bin?, binInt]
@[simp] theorem bin_shr {k' : IntKind} {n' : Int} : bin? .shr (.int k n) (.int k' n') = if n' < 0 then none else some (.int k (n.fdiv (2 ^ (min n'.toNat k.bits)))) := by simp [bin?]
@[simp] theorem bin_shl {k' : IntKind} {n' : Int} : bin? .shl (.int k n) (.int k' n') = if n' < 0 then none else some (.int k (k.wrap (n * 2 ^ (min n'.toNat k.bits)))) := by simp [bin?]
@[simp] theorem bins_add {l' : List UInt8} : bin? .add (.str l) (.str l') = binStr .add l l' := rfl
@[simp] theorem bins_eql {l' : List UInt8} : bin? .eql (.str l) (.str l') = binStr .eql l l' := rfl
@[simp] theorem bins_neq {l' : List UInt8} : bin? .neq (.str l) (.str l') = binStr .neq l l' := rfl
@[simp] theorem bins_lss {l' : List UInt8} : bin? .lss (.str l) (.str l') = binStr .lss l l' := rfl
@[simp] theorem bins_leq {l' : List UInt8} : bin? .leq (.str l) (.str l') = binStr .leq l l' := rfl
@[simp] theorem bins_gtr {l' : List UInt8} : bin? .gtr (.str l) (.str l') = binStr .gtr l l' := rfl
@[simp] theorem bins_geq {l' : List UInt8} : bin? .geq (.str l) (.str l') = binStr .geq l l' := rfl
attribute [simp] binStr
@[simp] theorem un_neg  : un? .neg (.int k n) = some (.int k (k.wrap (0 - n))) := rfl
@[simp] theorem un_not  : un? .not (.bool b) = some (.bool !b) := rfl
@[simp] theorem pick_bool {a c : AV} : pickV a c (.bool b) = some (if b then a.view else c.view) := by cases b <;> rfl
@[simp] theorem eqBool_mk {neg b' : Bool} : eqBoolV neg (.bool b) (.bool b') = some (.bool (if neg then !(b == b') else b == b')) := rfl
@[simp] theorem eqNil_some {neg : Bool} : eqNilV neg (some b) = some (.bool (if neg then !b else b)) := rfl
@[simp] theorem eqAgg_mk {neg : Bool} {sp : List (Nat × Nat)} : eqAggV neg sp (.agg cs) (.agg xs) = eqNilV neg (eqCells cs xs sp) := rfl
@[simp] theorem cint_mk {k' : IntKind} : cintV k' (.int k n) = some (.int k' (k'.wrap n)) := rfl
@[simp] theorem cstr_mk  : cstrV (.str l) = some (.str l) := rfl
@[simp] theorem bytesOf_mk  : bytesOfV (.str l) = some (.vec none true (l.map fun b => .int .u8 b.toNat)) := rfl
@[simp] theorem faddr_ptr {ix : Ix} {z : Nat} : faddrV z (.ptr ix off) = some (.ptr ix (off + z)) := rfl
@[simp] theorem faddr_vptr {z : Nat} : faddrV z (.vptr cs off) = some (.vptr cs (off + z)) := rfl
@[simp] theorem field_mk {z : Nat} {agg : Option Nat} : fieldV z agg (.agg cs) = part? agg cs z := rfl
@[simp] theorem el_some {z : Nat} : elV z (some v) = if v.cells.length = z then some (.vptr v.cells 0) else none := rfl
@[simp] theorem el_none {z : Nat} : elV z none = none := rfl
@[simp] theorem iaddrSl_vec {z : Nat} : iaddrSlV z (.vec o nn xs) (.int k n) = if 0 ≤ n then elV z xs[n.toNat]? else none := rfl
@[simp] theorem iaddrSl_row {z : Nat} {ix : Ix} : iaddrSlV z (.row ix off len) (.int k n) = if 0 ≤ n ∧ n < len then some (.ptr ix (off + n.toNat * z)) else none := rfl
@[simp] theorem iaddrArr_ptr {z : Nat} {ix : Ix} : iaddrArrV i z (.ptr ix off) (.int k n) = if 0 ≤ n ∧ n < i then some (.ptr ix (off + n.toNat * z)) else none := rfl
@[simp] theorem iaddrArr_vptr {z : Nat} : iaddrArrV i z (.vptr cs off) (.int k n) = if 0 ≤ n ∧ n < i then some (.vptr cs (off + n.toNat * z)) else none := rfl
@[simp] theorem idxArr_mk {z : Nat} {agg : Option Nat} : idxArrV i z agg (.agg cs) (.int k n) = if 0 ≤ n ∧ n < i then part? agg cs (n.toNat * z) else none := rfl
@[simp] theorem byte_some {u : UInt8} : byteV (some u) = some (.int .u8 u.toNat) := rfl
@[simp] theorem byte_none  : byteV none = none := rfl
@[simp] theorem idxStr_mk  : idxStrV (.str l) (.int k n) = if 0 ≤ n then byteV l[n.toNat]? else none := rfl
@[simp] theorem ext_zero : extV 0 (.tup (v :: cs)) = some v.view := rfl
@[simp] theorem ext_succ : extV (i + 1) (.tup (v :: cs)) = extV i (.tup cs) := rfl
@[simp] theorem ext_one {w : AV} : extV 1 (.tup (v :: w :: cs)) = some w.view := rfl
@[simp] theorem ext_two {w u : AV} : extV 2 (.tup (v :: w :: u :: cs)) = some u.view := rfl
@[simp] theorem ext_three {w u y : AV} : extV 3 (.tup (v :: w :: u :: y :: cs)) = some y.view := rfl
@[simp] theorem lenSl_vec  : lenSlV (.vec o nn xs) = some (.int .i64 xs.length) := rfl
@[simp] theorem lenSl_row {ix : Ix} : lenSlV (.row ix off len) = some (.int .i64 len) := rfl
@[simp] theorem lenStr_mk  : lenStrV (.str l) = some (.int .i64 l.length) := rfl
@[simp] theorem strLen_mk  : strLen (.str l) = .int .i64 l.length := rfl
@[simp] theorem slStr_mk {k' : IntKind} {n' : Int} : slStrV (.str l) (.int k n) (.int k' n') = if 0 ≤ n ∧ n ≤ n' ∧ n' ≤ l.length then some (.str ((l.take n'.toNat).drop n.toNat)) else none := rfl
@[simp] theorem isNil_vec  : isNil? 0 (.vec o nn xs) = some !nn := rfl
@[simp] theorem isNil_row {ix : Ix} : isNil? 0 (.row ix off len) = some false := rfl
@[simp] theorem isNil_fn  : isNil? 2 (.fn f cs) = some false := rfl
@[simp] theorem isNil_nilfn  : isNil? 2 .nilfn = some true := rfl
@[simp] theorem isNil_ptr {ix : Ix} : isNil? 1 (.ptr ix off) = some false := rfl
@[simp] theorem isNil_vptr  : isNil? 1 (.vptr cs off) = some false := rfl
@[simp] theorem isNil_nilptr  : isNil? 1 .nilptr = some true := rfl
@[simp] theorem buildV_some  : buildV b (some cs) = if b then some (.agg cs) else none := rfl
@[simp] theorem buildSlV_some {z : Nat} : buildSlV z b (some cs) = if b then some (.vec (some z) true cs) else none := rfl
@[simp] theorem slVec_mk {z : Nat} {k' : IntKind} {n' : Int} : slVec z nn xs (.int k n) (.int k' n') none = if 0 ≤ n ∧ n ≤ n' ∧ n' ≤ xs.length ∧ (xs.all fun x => x.cells.length = z) then some (.vec none nn ((xs.take n'.toNat).drop n.toNat)) else none := rfl
@[simp] theorem part_some {z : Nat} : part? (some z) cs off = if off + z ≤ cs.length then some (.agg ((cs.drop off).take z)) else none := rfl
def viewO : Option AV → Option AV
  | some v => some v.view
  | none => none
@[simp] theorem viewO_some : viewO (some v) = some v.view := rfl
@[simp] theorem part_none : part? none cs off = viewO cs[off]? := by
  unfold part? viewO; rfl
theorem stCells_agg {z : Nat} : stCells z off cs (.agg xs) = if xs.length = z ∧ off + z ≤ cs.length ∧ xs.all AV.one then some (putCells cs off (xs.map AV.view)) else none := rfl
@[simp] theorem stCells_one {z : Nat} (h : v.one = true) : stCells z off cs v = if 1 = z ∧ off + z ≤ cs.length then some (cs.set off v) else none := by
  cases v <;> simp [AV.one] at h <;> simp [stCells, AV.cells, AV.one, h]
attribute [simp] stCells_agg
@[simp] theorem app_some {z : Nat} {bytes : Nat} {ys : List AV} : appV i bytes ys (.vec (some z) nn xs) = if z = i ∧ 0 < bytes ∧ (xs.length + ys.length) * bytes ≤ 140737488355328 then some (.vec (some i) (nn || !ys.isEmpty) (xs ++ ys.map AV.view)) else none := rfl
@[simp] theorem app_none {bytes : Nat} {ys : List AV} : appV i bytes ys (.vec none false xs) = if 0 < bytes ∧ (xs.length + ys.length) * bytes ≤ 140737488355328 then some (.vec (some i) (!ys.isEmpty) (xs ++ ys.map AV.view)) else none := rfl
@[simp] theorem elems_vec {z : Nat} : elems? z (.vec o nn xs) = if xs.all (fun x => x.cells.length = z && x.cells.all AV.one) then some xs else none := rfl
attribute [simp] overlay overEls putCells eqCells resList result mkIfaceV
@[simp] theorem eqCell_int {n' : Int} : eqCell 0 (.int k n) (.int k n') = some (n == n') := by simp [eqCell]
@[simp] theorem eqCell_str {l' : List UInt8} : eqCell 1 (.str l) (.str l') = some (l == l') := rfl
@[simp] theorem eqCell_bool {b' : Bool} : eqCell 2 (.bool b) (.bool b') = some (b == b') := rfl
@[simp] theorem resOf_tmp {u : Nat} : resOf s (.tmp u) = if (s.get u).nl then some (s.get u).view else none := rfl
def resC (s : St) (agg : Option Nat) : AV → Option AV
  | .ptr ix o => partO agg o (objCells true (s.obj ix))
  | _ => none
@[simp] theorem resC_ptr {ix : Ix} {agg : Option Nat} : resC s agg (.ptr ix off) = partO agg off (objCells true (s.obj ix)) := rfl
@[simp] theorem resOf_cell {u : Nat} {agg : Option Nat} : resOf s (.cell u agg) = resC s agg (s.get u) := by
  simp only [resOf]
  cases s.get u <;> rfl
@[simp] theorem minmaxV_cons {m : Bool} : minmaxV m (v :: xs) = minmax? m v.view xs := rfl
@[simp] theorem minmax_nil {m : Bool} : minmax? m v [] = some v := by cases v <;> rfl
@[simp] theorem minmax_cons {m : Bool} {n' : Int} : minmax? m (.int k n) (.int k n' :: xs) = minmax? m (.int k (if m then (if n' > n then n' else n) else (if n' < n then n' else n))) xs := by simp [minmax?]
@[simp] theorem capture_nil : capture [] s = some ([], s) := rfl

end
end Go.Vm
