/- A small machine and its soundness, part VJ. -/
import Derived.Test.YtmlfcgmiaapffaaGreatDoorVI
import Derived.Test.YtmlfcgmiaapffaaGreatDoorVF
import Derived.Test.YtmlfcgmiaapffaaGreatDoorVG
/- Rules for functions without a body, and for interfaces compared with nil. -/
namespace Go.Vm
section
variable {T : FuncId → Option VF} {s : St} {is : List VI} {K : St → Prop} {d : Option Nat}
@[simp] theorem wx_extn {k : Nat} {xs : List VO} : wpo T (⟨d, .extn k xs, none⟩ :: is) s K = valK T d is s K (extnV k (xs.map s.ev)) := wpo_pure rfl rfl
@[simp] theorem isNil3_iface {t : TypeId} {v : AV} : isNil? 3 (.iface t v) = some false := rfl
@[simp] theorem isNil3_nil : isNil? 3 .nilIface = some true := rfl
@[simp] theorem extn_byte {l : List UInt8} {c : Int} : extnV 0 [.str l, .int .u8 c] = some (.int .i64 (match l.findIdx? (fun b => b == c.toNat.toUInt8) with | some i => (i : Int) | none => -1)) := rfl
end
end Go.Vm
/- Rules: vectors in cells that are taken out, appended to and stored again. -/
namespace Go.Vm
section
variable {T : FuncId → Option VF} {s : St} {is : List VI} {K : St → Prop} {d : Option Nat} {α : Type}

/-- What is left of a value that was taken. -/
def own0 : AV → AV
  | .vec (some _) nn xs => .vec none nn xs
  | v => v
theorem setObj_self {s : St} {ix : Ix} {o : LObj} (h : s.obj ix = some o) : s.setObj ix o = s := by
  cases ix with
  | loc t k =>
    simp only [St.obj] at h
    obtain ⟨hk, he⟩ := List.getElem?_eq_some_iff.1 h
    have : (fun j => if j = t then (s.loc t).set k o else s.loc j) = s.loc := by
      funext j
      split
      · rename_i e; subst e; rw [← he]; exact List.set_getElem_self hk
      · rfl
    simp only [St.setObj, this]
  | mem i =>
    simp only [St.obj] at h
    split at h
    · rename_i o' ho
      subst h
      obtain ⟨hk, he⟩ := List.getElem?_eq_some_iff.1 ho
      simp only [St.setObj]
      rw [← he, List.set_getElem_self hk]
    · simp at h
variable (T) in
def ltV (d : Option Nat) (is : List VI) (s : St) (K : St → Prop) (ix : Ix) (o : Nat) (cs : List AV) : Option AV → Prop
  | some v => wpo T is ((s.setObj ix (.cells false (cs.set o (own0 v)))).put d v) K
  | none => False
@[simp] theorem ltV_some {ix : Ix} {o : Nat} {cs : List AV} {v : AV} : ltV T d is s K ix o cs (some v) = wpo T is ((s.setObj ix (.cells false (cs.set o (own0 v)))).put d v) K := rfl
variable (T) in
def ltC (d : Option Nat) (is : List VI) (s : St) (K : St → Prop) (ix : Ix) (o : Nat) : Option (List AV) → Prop
  | some cs => ltV T d is s K ix o cs cs[o]?
  | none => False
@[simp] theorem ltC_some {ix : Ix} {o : Nat} {cs : List AV} : ltC T d is s K ix o (some cs) = ltV T d is s K ix o cs cs[o]? := rfl
variable (T) in
def ltK (d : Option Nat) (is : List VI) (s : St) (K : St → Prop) : AV → Prop
  | .ptr ix o => ltC T d is s K ix o (objCells false (s.obj ix))
  | _ => False
@[simp] theorem ltK_ptr {ix : Ix} {o : Nat} : ltK T d is s K (.ptr ix o) = ltC T d is s K ix o (objCells false (s.obj ix)) := rfl
@[simp] theorem wx_loadTake {x : VO} : wpo T (⟨d, .loadTake x, none⟩ :: is) s K = ltK T d is s K (s.ev x) := by
  rw [wpo_op rfl]
  simp only [exec]
  cases s.ev x with
  | ptr ix o =>
    simp only [ltK]
    cases hc : objCells false (s.obj ix) with
    | none => rfl
    | some cs =>
      simp only [ltC]
      have hob : s.obj ix = some (.cells false cs) := by
        unfold objCells at hc
        split at hc
        · rename_i f cs' e
          split at hc
          · rename_i hf
            simp at hf
            simp only [Option.some.injEq] at hc
            rw [e, hc, hf]
          · simp at hc
        · simp at hc
      cases hv : cs[o]? with
      | none => rfl
      | some v =>
        have hself : own0 v = v → s.setObj ix (.cells false (cs.set o (own0 v))) = s := fun e => by
          obtain ⟨hk, he⟩ := List.getElem?_eq_some_iff.1 hv
          rw [e, ← he, List.set_getElem_self hk]
          exact setObj_self hob
        cases v with
        | vec ow nn xs =>
          cases ow with
          | none => simp only [ltV, hself rfl]; rfl
          | some z => rfl
        | _ => simp only [ltV, hself rfl]; rfl
  | _ => rfl
@[simp] theorem own0_vecs {z : Nat} {nn : Bool} {xs : List AV} : own0 (.vec (some z) nn xs) = .vec none nn xs := rfl
@[simp] theorem own0_vecn {nn : Bool} {xs : List AV} : own0 (.vec none nn xs) = .vec none nn xs := rfl
@[simp] theorem own0_orow {z i l : Nat} : own0 (.orow z i l) = .orow z i l := rfl

/-- A vector that was made by appending alone. -/
def ov (z : Nat) (e : α → AV) (xs : List α) : AV := .vec (if xs.isEmpty then none else some z) (!xs.isEmpty) (xs.map e)
abbrev ovn (e : α → AV) (xs : List α) : AV := vv none (!xs.isEmpty) e xs
theorem ov_nil {z : Nat} {e : α → AV} : AV.vec none false [] = ov z e [] := rfl
theorem ov_snoc {z : Nat} {e : α → AV} {xs : List α} {x : α} : AV.vec (some z) true (xs.map e ++ [e x]) = ov z e (xs ++ [x]) := by simp [ov]
@[simp] theorem ov_view {z : Nat} {e : α → AV} {xs : List α} : (ov z e xs).view = ovn e xs := by
  unfold ov; cases xs <;> rfl
@[simp] theorem ov_own0 {z : Nat} {e : α → AV} {xs : List α} : own0 (ov z e xs) = ovn e xs := by
  unfold ov; cases xs <;> rfl
@[simp] theorem ov_nl {z : Nat} {e : α → AV} {xs : List α} : (ov z e xs).nl = true := rfl
@[simp] theorem ov_good {z : Nat} {e : α → AV} {xs : List α} : (ov z e xs).good = true := rfl
@[simp] theorem ov_one {z : Nat} {e : α → AV} {xs : List α} : (ov z e xs).one = true := rfl
@[simp] theorem ov_cells {z : Nat} {e : α → AV} {xs : List α} : (ov z e xs).cells = [ov z e xs] := rfl
@[simp] theorem ov_len {z : Nat} {e : α → AV} {xs : List α} : lenSlV (ov z e xs) = some (.int .i64 xs.length) := by simp [ov]
@[simp] theorem ov_isnil {z : Nat} {e : α → AV} {xs : List α} : isNil? 0 (ov z e xs) = some xs.isEmpty := by simp [ov]
/-- The state behind a taking. -/
def takeS (s : St) (u : Nat) (v : AV) : St := (takeV s u v).2
@[simp] theorem take_ov {z u : Nat} {e : α → AV} {xs : List α} : takeV s u (ov z e xs) = (ov z e xs, takeS s u (ov z e xs)) := by
  unfold takeS ov
  cases xs <;> rfl
@[simp] theorem takeS_get {u t : Nat} {v : AV} (h : t ≠ u) : (takeS s u v).get t = s.get t := by
  unfold takeS takeV
  split
  · simp [h]
  · rfl
@[simp] theorem takeS_loc {u : Nat} {v : AV} : (takeS s u v).loc = s.loc := by
  unfold takeS takeV
  split <;> rfl
@[simp] theorem takeS_mem {u : Nat} {v : AV} : (takeS s u v).mem = s.mem := by
  unfold takeS takeV
  split <;> rfl
@[simp] theorem takeS_obj {u : Nat} {v : AV} {ix : Ix} : (takeS s u v).obj ix = s.obj ix := by
  unfold takeS takeV
  split
  · cases ix <;> rfl
  · rfl
@[simp] theorem app_ov {z i bytes : Nat} {e : α → AV} {xs : List α} {v : AV} : appV i bytes [v] (ov z e xs) = if (xs = [] ∨ z = i) ∧ 0 < bytes ∧ (xs.length + 1) * bytes ≤ 140737488355328 then some (.vec (some i) true (xs.map e ++ [v.view])) else none := by
  unfold ov
  cases xs with
  | nil => simp
  | cons x r => simp
@[simp] theorem stK_if {ix : Ix} {p : Prop} [Decidable p] {a : Option (List AV)} : stK T d is s K ix (if p then a else none) = (p ∧ stK T d is s K ix a) := by
  by_cases h : p <;> simp [h, stK]
@[simp] theorem stc_int {z off : Nat} {cs : List AV} {k : IntKind} {n : Int} : stCells z off cs (.int k n) = if 1 = z ∧ off + z ≤ cs.length then some (cs.set off (.int k n)) else none := stCells_one rfl
@[simp] theorem stc_str {z off : Nat} {cs : List AV} {b : List UInt8} : stCells z off cs (.str b) = if 1 = z ∧ off + z ≤ cs.length then some (cs.set off (.str b)) else none := stCells_one rfl
@[simp] theorem stc_bool {z off : Nat} {cs : List AV} {b : Bool} : stCells z off cs (.bool b) = if 1 = z ∧ off + z ≤ cs.length then some (cs.set off (.bool b)) else none := stCells_one rfl
@[simp] theorem stc_vec {z off : Nat} {cs : List AV} {o : Option Nat} {nn : Bool} {xs : List AV} : stCells z off cs (.vec o nn xs) = if 1 = z ∧ off + z ≤ cs.length then some (cs.set off (.vec o nn xs)) else none := stCells_one rfl
@[simp] theorem stc_ptr {z off : Nat} {cs : List AV} {k i : Nat} : stCells z off cs (.ptr (.mem k) i) = if 1 = z ∧ off + z ≤ cs.length then some (cs.set off (.ptr (.mem k) i)) else none := stCells_one rfl
@[simp] theorem stc_vptr {z off : Nat} {cs : List AV} {ds : List AV} {i : Nat} : stCells z off cs (.vptr ds i) = if 1 = z ∧ off + z ≤ cs.length then some (cs.set off (.vptr ds i)) else none := stCells_one rfl
@[simp] theorem stc_row {z off : Nat} {cs : List AV} {k i l : Nat} : stCells z off cs (.row (.mem k) i l) = if 1 = z ∧ off + z ≤ cs.length then some (cs.set off (.row (.mem k) i l)) else none := stCells_one rfl
@[simp] theorem stc_orow {z off : Nat} {cs : List AV} {k i l : Nat} : stCells z off cs (.orow k i l) = if 1 = z ∧ off + z ≤ cs.length then some (cs.set off (.orow k i l)) else none := stCells_one rfl
@[simp] theorem stc_ov {z off : Nat} {cs : List AV} {y : Nat} {e : α → AV} {xs : List α} : stCells z off cs (ov y e xs) = if 1 = z ∧ off + z ≤ cs.length then some (cs.set off (ov y e xs)) else none := stCells_one rfl
@[simp] theorem stc_vv {z off : Nat} {cs : List AV} {o : Option Nat} {nn : Bool} {e : α → AV} {xs : List α} : stCells z off cs (vv o nn e xs) = if 1 = z ∧ off + z ≤ cs.length then some (cs.set off (vv o nn e xs)) else none := stCells_one rfl
@[simp] theorem stc_fn {z off : Nat} {cs : List AV} {f : Fn} {cs2 : List AV} : stCells z off cs (.fn f cs2) = if 1 = z ∧ off + z ≤ cs.length then some (cs.set off (.fn f cs2)) else none := stCells_one rfl
@[simp] theorem stc_nilptr {z off : Nat} {cs : List AV}  : stCells z off cs .nilptr = if 1 = z ∧ off + z ≤ cs.length then some (cs.set off .nilptr) else none := stCells_one rfl
@[simp] theorem stc_nilIface {z off : Nat} {cs : List AV}  : stCells z off cs .nilIface = if 1 = z ∧ off + z ≤ cs.length then some (cs.set off .nilIface) else none := stCells_one rfl
@[simp] theorem allApart_nil : allApart s [] = true := rfl
@[simp] theorem allApart_cons {a b : VO} {r : List (Bool × VO × VO)} : allApart s ((false, a, b) :: r) = (apart (s.ev a) (s.ev b) && allApart s r) := by simp [allApart]
@[simp] theorem allApart_consC {a b : VO} {r : List (Bool × VO × VO)} : allApart s ((true, a, b) :: r) = (apartC (s.ev a) (s.ev b) && allApart s r) := by simp [allApart]
@[simp] theorem apartC_pp {x y : Ix} {o o' : Nat} : apartC (.ptr x o) (.ptr y o') = decide (x ≠ y ∨ o ≠ o') := rfl
@[simp] theorem apartC_vp {cs : List AV} {o : Nat} {v : AV} : apartC (.vptr cs o) v = true := by cases v <;> rfl
@[simp] theorem apartC_pvp {x : Ix} {cs : List AV} {o o' : Nat} : apartC (.ptr x o) (.vptr cs o') = true := rfl
@[simp] theorem apart_pp {x y : Ix} {o o' : Nat} : apart (.ptr x o) (.ptr y o') = decide (x ≠ y) := rfl
@[simp] theorem apart_po {x : Ix} {o z i l : Nat} : apart (.ptr x o) (.orow z i l) = decide (x ≠ .mem i) := rfl
@[simp] theorem apart_pv {x : Ix} {o : Nat} {ow : Option Nat} {nn : Bool} {xs : List AV} : apart (.ptr x o) (.vec ow nn xs) = true := rfl
@[simp] theorem apart_pn {t k o : Nat} : apart (.ptr (.loc t k) o) .nilfn = true := rfl
@[simp] theorem apart_vp {cs : List AV} {o : Nat} {v : AV} : apart (.vptr cs o) v = true := by cases v <;> rfl
@[simp] theorem apart_pvp {x : Ix} {cs : List AV} {o o' : Nat} : apart (.ptr x o) (.vptr cs o') = true := rfl
theorem W64.mkI {n k : Int} (e : n = k) (h1 : -9223372036854775808 ≤ k) (h2 : k ≤ 9223372036854775807) : W64 n k := by
  unfold W64; rw [e]; exact wrap64 h1 h2
end
end Go.Vm
/- Rules: bytes that are appended to, cut and read in memory. -/
namespace Go.Vm
section
variable {T : FuncId → Option VF} {s : St} {is : List VI} {K : St → Prop} {d : Option Nat} {α : Type}

def bcell (c : UInt8) : AV := .int .u8 c.toNat
/-- The cells of bytes. -/
def byc (b : List UInt8) : List AV := b.map bcell
@[simp] theorem byc_len (b : List UInt8) : (byc b).length = b.length := by simp [byc]
theorem byc_append (a b : List UInt8) : byc (a ++ b) = byc a ++ byc b := by simp [byc]
theorem bytesV_byc : ∀ b : List UInt8, bytesV (byc b) = some b
  | [] => rfl
  | c :: r => by
    have := bytesV_byc r
    simp only [byc] at this ⊢
    simp [this, bcell]
theorem byc_get {b : List UInt8} {i : Nat} (h : i < b.length) : (byc b)[i]? = some (.int .u8 b[i].toNat) := by simp [byc, h, bcell]
theorem byc_view (b : List UInt8) : (byc b).map AV.view = byc b := by simp [byc, bcell, AV.view]
theorem byc_flat : ∀ b : List UInt8, flat (byc b) = byc b
  | [] => rfl
  | c :: r => by
    have := byc_flat r
    simp only [flat, byc, List.map_cons, List.flatMap_cons, AV.cells, bcell] at this ⊢
    rw [this]; rfl

variable (T) in
def appSK (d : Option Nat) (is : List VI) (s : St) (K : St → Prop) : Option (AV × Mem) → Prop
  | some (v, m) => wpo T is ((s.withMem m).put d v) K
  | none => False
@[simp] theorem appSK_some {v : AV} {m : Mem} : appSK T d is s K (some (v, m)) = wpo T is ((s.withMem m).put d v) K := rfl
variable (T) in
def appStrK (bytes : Nat) (d : Option Nat) (is : List VI) (s : St) (K : St → Prop) (a : AV) : AV → Prop
  | .str b => appSK T d is s K (appS bytes s.mem a b)
  | _ => False
@[simp] theorem appStrK_str {bytes : Nat} {a : AV} {b : List UInt8} : appStrK T bytes d is s K a (.str b) = appSK T d is s K (appS bytes s.mem a b) := rfl
@[simp] theorem wx_appStr {bytes : Nat} {a x : VO} : wpo T (⟨d, .appStr bytes a x, none⟩ :: is) s K = appStrK T bytes d is s K (s.ev a) (s.ev x) := by
  rw [wpo_op rfl]
  simp only [exec]
  cases s.ev x with
  | str b =>
    simp only [appStrK]
    cases appS bytes s.mem (s.ev a) b with
    | none => rfl
    | some p => rfl
  | _ => rfl
theorem appS_empty_nil {bytes : Nat} {m : Mem} {o : Option Nat} {xs : List AV} : appS bytes m (.vec o false xs) [] = some (.vec none false [], m) := rfl
theorem appS_empty_row {bytes : Nat} {m : Mem} {z i l : Nat} : appS bytes m (.orow z i l) [] = some (.orow z i l, m) := rfl
theorem appS_nil {m : Mem} {o : Option Nat} {xs : List AV} {b : List UInt8} (hb : b ≠ []) (hl : b.length ≤ 140737488355328) : appS 1 m (.vec o false xs) b = some (.orow 1 m.length b.length, m ++ [some (.cells false (byc b))]) := by
  have h1 : (b.map fun c => AV.int .u8 c.toNat) = byc b := rfl
  have h2 : (byc b).isEmpty = false := by cases b <;> simp_all [byc]
  unfold appS
  rw [if_neg hb]
  simp only [appO, h1]
  rw [if_pos ⟨h2, by omega, by simp; omega⟩, byc_flat, byc_view]
  simp
theorem appS_row {m : Mem} {i : Nat} {b c : List UInt8} {r : List AV} (hm : m[i]? = some (some (.cells false (byc c ++ r)))) (hb : b ≠ []) (hl : c.length + b.length ≤ 140737488355328) :
    appS 1 m (.orow 1 i c.length) b = some (.orow 1 m.length (c ++ b).length, m.set i none ++ [some (.cells false (byc (c ++ b)))]) := by
  have h1 : (b.map fun c => AV.int .u8 c.toNat) = byc b := rfl
  have h2 : (byc b).isEmpty = false := by cases b <;> simp_all [byc]
  have h3 : (byc c ++ r).take (c.length * 1) = byc c := by
    rw [Nat.mul_one, ← byc_len c, List.take_left']; simp
  unfold appS
  rw [if_neg hb]
  simp only [appO, h1, hm]
  rw [if_pos ⟨trivial, h2, by simp, by omega, by simp; omega⟩, h3, byc_flat, ← byc_append, byc_view]
  simp

@[simp] theorem capture_mem {i o : Nat} {rest : List AV} : capture (.ptr (.mem i) o :: rest) s = capC (.ptr (.mem i) o) (capture rest s) := by
  simp only [capture, capC]; cases capture rest s <;> rfl
/-! ### bits -/
def iand (k : IntKind) (a b : Int) : Int := k.wrap (BitVec.ofInt k.bits a &&& BitVec.ofInt k.bits b).toNat
def ior (k : IntKind) (a b : Int) : Int := k.wrap (BitVec.ofInt k.bits a ||| BitVec.ofInt k.bits b).toNat
def ixor (k : IntKind) (a b : Int) : Int := k.wrap (BitVec.ofInt k.bits a ^^^ BitVec.ofInt k.bits b).toNat
@[simp] theorem bin_and {k : IntKind} {a b : Int} : bin? .and (.int k a) (.int k b) = some (.int k (iand k a b)) := by simp [bin?, binInt, iand]
@[simp] theorem bin_or {k : IntKind} {a b : Int} : bin? .or (.int k a) (.int k b) = some (.int k (ior k a b)) := by simp [bin?, binInt, ior]
@[simp] theorem bin_xor {k : IntKind} {a b : Int} : bin? .xor (.int k a) (.int k b) = some (.int k (ixor k a b)) := by simp [bin?, binInt, ixor]
theorem wrapU8b {n : Int} (h1 : 0 ≤ n) (h2 : n < 256) : IntKind.wrap .u8 n = n := by
  have e1 : IntKind.wrap .u8 n = n % 256 := by
    simp [IntKind.wrap, IntKind.bits, IntKind.signed]
  rw [e1]; omega
theorem wrapU_rng (n : Int) : 0 ≤ IntKind.wrap .u64 n ∧ IntKind.wrap .u64 n < 18446744073709551616 := by
  have e1 : IntKind.wrap .u64 n = n % 18446744073709551616 := by
    simp [IntKind.wrap, IntKind.bits, IntKind.signed]
  rw [e1]; omega
theorem iand_mask {a : Int} (h0 : 0 ≤ a) (h1 : a < 18446744073709551616) (k : Nat) (hk : k < 64) : iand .u64 a ((2 ^ k - 1 : Nat) : Int) = a % ((2 ^ k : Nat) : Int) := by
  obtain ⟨n, rfl⟩ := Int.eq_ofNat_of_zero_le h0
  have hn : n < 2 ^ 64 := by have : ((2 : Nat) ^ 64 : Nat) = 18446744073709551616 := by decide
                             omega
  have hk2 : 2 ^ k - 1 < 2 ^ 64 := by
    have : 2 ^ k ≤ 2 ^ 63 := Nat.pow_le_pow_right (by omega) (by omega)
    omega
  unfold iand
  have e : (BitVec.ofInt 64 (n : Int) &&& BitVec.ofInt 64 ((2 ^ k - 1 : Nat) : Int)).toNat = n % 2 ^ k := by
    simp only [BitVec.toNat_and, BitVec.ofInt_natCast, BitVec.toNat_ofNat]
    rw [Nat.mod_eq_of_lt hn, Nat.mod_eq_of_lt hk2, Nat.and_two_pow_sub_one_eq_mod]
  show IntKind.wrap .u64 ((BitVec.ofInt 64 (n : Int) &&& BitVec.ofInt 64 ((2 ^ k - 1 : Nat) : Int)).toNat : Int) = _
  rw [e]
  have : n % 2 ^ k < 2 ^ 64 := Nat.lt_of_le_of_lt (Nat.mod_le _ _) hn
  have h64 : ((2 : Nat) ^ 64 : Nat) = 18446744073709551616 := by decide
  rw [wrapU64 (by omega) (by omega)]
  omega

/-- A string of the bytes of a row. -/
def strMO (off len : Nat) : Option (List AV) → Option AV
  | some cs => if off + len ≤ cs.length then match bytesV ((cs.drop off).take len) with
    | some b => some (.str b)
    | none => none
    else none
  | none => none
def strMV (s : St) : AV → Option AV
  | .row ix off len => strMO off len (objCells true (s.obj ix))
  | .vec _ _ xs => match bytesV xs with
    | some b => some (.str b)
    | none => none
  | _ => none
@[simp] theorem strMV_row {ix : Ix} {off len : Nat} : strMV s (.row ix off len) = strMO off len (objCells true (s.obj ix)) := rfl
@[simp] theorem strMV_nil {o : Option Nat} {nn : Bool} : strMV s (.vec o nn []) = some (.str []) := rfl
@[simp] theorem strMV_byc {o : Option Nat} {nn : Bool} {b : List UInt8} : strMV s (.vec o nn (byc b)) = some (.str b) := by simp [strMV, bytesV_byc]
theorem strMO_byc {b : List UInt8} {r : List AV} : strMO 0 b.length (some (byc b ++ r)) = some (.str b) := by
  simp only [strMO]
  rw [if_pos (by simp)]
  have : ((byc b ++ r).drop 0).take b.length = byc b := by rw [List.drop_zero, ← byc_len b, List.take_left']; simp
  rw [this, bytesV_byc]
@[simp] theorem wx_strOfM {x : VO} : wpo T (⟨d, .strOfM x, none⟩ :: is) s K = valK T d is s K (strMV s (s.ev x)) := by
  rw [wpo_op rfl]
  simp only [exec]
  cases s.ev x with
  | row ix off len =>
    simp only [strMV, strMO]
    cases objCells true (s.obj ix) with
    | none => rfl
    | some cs =>
      simp only
      by_cases h : off + len ≤ cs.length
      · rw [if_pos h, if_pos h]
        cases bytesV ((cs.drop off).take len) <;> rfl
      · rw [if_neg h, if_neg h]; rfl
  | vec o nn xs =>
    simp only [strMV]
    cases bytesV xs <;> rfl
  | _ => rfl

variable (T) in
def bobjK (heap : Bool) (d : Nat) (is : List VI) (s : St) (K : St → Prop) : AV → Prop
  | .str b => if heap then wpo T is ((addMem s (.cells false (byc b))).put (some d) (.row (.mem s.mem.length) 0 b.length)) K
    else wpo T is ((addLoc s d (.cells false (byc b))).put (some d) (.row (.loc d (s.loc d).length) 0 b.length)) K
  | _ => False
@[simp] theorem bobjK_mem {d : Nat} {b : List UInt8} : bobjK T true d is s K (.str b) = wpo T is ((addMem s (.cells false (byc b))).put (some d) (.row (.mem s.mem.length) 0 b.length)) K := rfl
@[simp] theorem bobjK_loc {d : Nat} {b : List UInt8} : bobjK T false d is s K (.str b) = wpo T is ((addLoc s d (.cells false (byc b))).put (some d) (.row (.loc d (s.loc d).length) 0 b.length)) K := rfl
@[simp] theorem wx_bytesObj {d : Nat} {heap : Bool} {x : VO} : wpo T (⟨some d, .bytesObj heap x, none⟩ :: is) s K = bobjK T heap d is s K (s.ev x) := by
  rw [wpo_op rfl]
  simp only [exec]
  cases s.ev x with
  | str b => cases heap <;> rfl
  | _ => rfl
end
end Go.Vm
/- Rules for own rows that are handed on, and for builders. -/
namespace Go.Vm
variable {T : FuncId → Option VF} {d : Option Nat} {is : List VI} {s : St} {K : St → Prop}
@[simp] theorem pass_bool {b : Bool} : AV.pass (.bool b) = .bool b := rfl
@[simp] theorem pass_int {k : IntKind} {n : Int} : AV.pass (.int k n) = .int k n := rfl
@[simp] theorem pass_str {l : List UInt8} : AV.pass (.str l) = .str l := rfl
@[simp] theorem pass_agg {cs : List AV} : AV.pass (.agg cs) = .agg cs := rfl
@[simp] theorem pass_vec {o : Option Nat} {nn : Bool} {xs : List AV} : AV.pass (.vec o nn xs) = .vec none nn xs := rfl
@[simp] theorem pass_row {x : Ix} {off len : Nat} : AV.pass (.row x off len) = .row x off len := rfl
@[simp] theorem pass_orow {z i len : Nat} : AV.pass (.orow z i len) = .orow z i len := rfl
@[simp] theorem pass_ptr {x : Ix} {off : Nat} : AV.pass (.ptr x off) = .ptr x off := rfl
@[simp] theorem pass_typed {k T n i l : Nat} : AV.pass (.typed k T n i l) = .typed k T n i l := rfl
@[simp] theorem view_typed {k T n i l : Nat} : AV.view (.typed k T n i l) = .typed k T n i l := rfl
@[simp] theorem nl_typed {k T n i l : Nat} : AV.nl (.typed k T n i l) = true := rfl
@[simp] theorem one_typed {k T n i l : Nat} : AV.one (.typed k T n i l) = true := rfl
@[simp] theorem cells_typed {k T n i l : Nat} : AV.cells (.typed k T n i l) = [.typed k T n i l] := rfl
@[simp] theorem lenSl_typed {T n i len : Nat} : lenSlV (.typed 1 T n i len) = some (.int .i64 len) := rfl
@[simp] theorem isNil_typed {T n i l : Nat} : isNil? 1 (.typed 0 T n i l) = some true := rfl
variable (T) in
def memK (d : Option Nat) (is : List VI) (s : St) (K : St → Prop) : Option (AV × Mem) → Prop
  | some (v, m) => wpo T is ((s.withMem m).put d v) K
  | none => False
@[simp] theorem memK_some {v : AV} {m : Mem} : memK T d is s K (some (v, m)) = wpo T is ((s.withMem m).put d v) K := rfl
@[simp] theorem wx_unsf {k t n : Nat} {x y : VO} : wpo T (⟨d, .unsf k t n x y, none⟩ :: is) s K = memK T d is s K (unsfV k t n s.mem (s.ev x) (s.ev y)) := by
  rw [wpo_op rfl]
  simp only [exec]
  cases unsfV k t n s.mem (s.ev x) (s.ev y) with
  | none => rfl
  | some p => rfl
@[simp] theorem wx_upure {k n : Nat} {x y : VO} : wpo T (⟨d, .upure k n x y, none⟩ :: is) s K = valK T d is s K (upV k n (s.ev x) (s.ev y)) := wpo_pure rfl rfl
@[simp] theorem up_noesc {i o : Nat} {y : AV} : upV 3 0 (.ptr (.mem i) o) y = some (.ptr (.mem i) o) := rfl
@[simp] theorem up_tup0 {v y : AV} {vs : List AV} : upV 4 0 (.tup (v :: vs)) y = some v.pass := rfl
@[simp] theorem up_tup1 {u v y : AV} {vs : List AV} : upV 4 1 (.tup (u :: v :: vs)) y = some v.pass := rfl
@[simp] theorem up_same {x : Ix} {o : Nat} : upV 1 0 (.ptr x o) (.ptr x o) = some (.bool true) := by simp [upV]
@[simp] theorem up_differ {x : Ix} {o : Nat} : upV 2 0 (.ptr x o) (.ptr x o) = some (.bool false) := by simp [upV]
end Go.Vm
