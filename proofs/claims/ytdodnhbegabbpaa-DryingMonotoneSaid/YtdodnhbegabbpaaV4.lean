/- The operations that only look at their operands: each is sound. -/
import Derived.Test.YtdodnhbegabbpaaV3
import Derived.Laws.Cover1
import Derived.Laws.Concat
import Derived.Laws.IdiomStrings
import Derived.Laws.Panics
namespace Go.Vm

section inv
variable {G : Gh} {w : World}
theorem RepT.int_inv {k : IntKind} {n : Int} {v : Value} (h : RepT G w (.int k n) v) : v = .int k n := by
  cases h with | of h => cases h; rfl
theorem RepT.bool_inv {b : Bool} {v : Value} (h : RepT G w (.bool b) v) : v = .bool b := by
  cases h with | of h => cases h; rfl
theorem RepT.str_inv {l : List UInt8} {v : Value} (h : RepT G w (.str l) v) : ∃ s : ByteArray, v = .string s ∧ l = s.data.toList := by
  cases h with | of h => cases h; exact ⟨_, rfl, rfl⟩
theorem RepT.agg_inv {cs : List AV} {v : Value} (h : RepT G w (.agg cs) v) : ∃ vs : Array Value, v = .agg vs ∧ cs.length = vs.size ∧ ∀ (i : Nat) (h1 : i < cs.length) (h2 : i < vs.size), Rep G w cs[i] vs[i] := by
  cases h with | of h => cases h with | agg _ vs hl h => exact ⟨vs, rfl, hl, h⟩
theorem RepT.tup_inv {cs : List AV} {v : Value} (h : RepT G w (.tup cs) v) : ∃ vs : Array Value, v = .tuple vs ∧ cs.length = vs.size ∧ ∀ (i : Nat) (h1 : i < cs.length) (h2 : i < vs.size), Rep G w cs[i] vs[i] := by
  cases h with | of h => cases h with | tup _ vs hl h => exact ⟨vs, rfl, hl, h⟩
theorem RepT.vec_inv {o : Option Nat} {nn : Bool} {xs : List AV} {v : Value} (h : RepT G w (.vec o nn xs) v) :
    (nn = false ∧ xs = [] ∧ v = .slice none 0 0) ∨ ∃ (b off cap st : Nat) (vals : Nat → Value), nn = true ∧ v = .slice (some ⟨b, off, none⟩) xs.length cap ∧ xs.length ≤ cap ∧
      (∀ x ∈ xs, x.cells.length = st) ∧ (∀ j, j < (flat xs).length → stable G.role b (off + j) ∧ w.cell? ⟨b, off + j, none⟩ = some (vals j)) ∧
      (∀ (j : Nat) (hj : j < (flat xs).length), Rep G w (flat xs)[j] (vals j)) := by
  cases h with
  | of h => cases h with
    | nilvec => exact .inl ⟨rfl, rfl, rfl⟩
    | vec _ _ b off cap st vals hcap hst hc h => exact .inr ⟨b, off, cap, st, vals, rfl, rfl, hcap, hst, hc, h⟩
theorem RepT.vptr_inv {cs : List AV} {off : Nat} {v : Value} (h : RepT G w (.vptr cs off) v) : ∃ (b o : Nat) (vals : Nat → Value), v = .pointer (some ⟨b, o + off, none⟩) ∧
      (∀ j, j < cs.length → stable G.role b (o + j) ∧ w.cell? ⟨b, o + j, none⟩ = some (vals j)) ∧ (∀ (j : Nat) (hj : j < cs.length), Rep G w cs[j] (vals j)) := by
  cases h with | of h => cases h with | vptr _ _ b o vals hc h => exact ⟨b, o, vals, rfl, hc, h⟩
theorem RepT.ptr_inv {x : Ix} {off : Nat} {v : Value} (h : RepT G w (.ptr x off) v) : ∃ b, G.at x = some b ∧ v = .pointer (some ⟨b, off, none⟩) := by
  cases h with
  | of h => cases h with | ptr i off b hb => exact ⟨b, hb, rfl⟩
  | lptr t k off b hb => exact ⟨b, hb, rfl⟩
theorem RepT.ptr_mk {x : Ix} {off b : Nat} (h : G.at x = some b) : RepT G w (.ptr x off) (.pointer (some ⟨b, off, none⟩)) := by
  cases x with
  | loc t k => exact .lptr t k off b h
  | mem i => exact .of (.ptr i off b h)
theorem RepT.row_inv {x : Ix} {off len : Nat} {v : Value} (h : RepT G w (.row x off len) v) : ∃ b cap, G.at x = some b ∧ v = .slice (some ⟨b, off, none⟩) len cap ∧ len ≤ cap := by
  cases h with
  | of h => cases h with | row i off len b cap hb hc => exact ⟨b, cap, hb, rfl, hc⟩
  | lrow t k off len b cap hb hc => exact ⟨b, cap, hb, rfl, hc⟩
theorem RepT.row_mk {x : Ix} {off len b cap : Nat} (h : G.at x = some b) (hc : len ≤ cap) : RepT G w (.row x off len) (.slice (some ⟨b, off, none⟩) len cap) := by
  cases x with
  | loc t k => exact .lrow t k off len b cap h hc
  | mem i => exact .of (.row i off len b cap h hc)
theorem RepT.fn_inv {f : Fn} {cs : List AV} {v : Value} (h : RepT G w (.fn f cs) v) : ∃ vs : Array Value, v = .func f #[] vs ∧ cs.length = vs.size ∧ ∀ (i : Nat) (h1 : i < cs.length) (h2 : i < vs.size), Rep G w cs[i] vs[i] := by
  cases h with | of h => cases h with | fn _ _ vs hl h => exact ⟨vs, rfl, hl, h⟩
theorem RepT.nilptr_inv {v : Value} (h : RepT G w .nilptr v) : v = .pointer none := by
  cases h with | of h => cases h; rfl
end inv

/-- What an operation yields. -/
def Yields (P : Program) (ρ : Operand → Value) (o : Oper) (G : Gh) (w : World) (d : Nat) (a : AV) : Prop :=
  ∃ v w' G', (execOp ρ o).run P w = .ok (.value v) w' ∧ Grow G w G' w' ∧ RepT G' w' a v ∧ OwnAt G' w' (.slot d) a v

def notOwn : AV → Prop
  | .vec (some _) _ _ => False
  | _ => True

theorem OwnAt.of_notOwn {G : Gh} {w : World} {o : Owner} {a : AV} {v : Value} (h : notOwn a) : OwnAt G w o a v := by
  refine .of_not fun z nn xs e => ?_
  subst e
  exact h

theorem notOwn_view (a : AV) : notOwn a.view := by
  cases a <;> simp [AV.view, notOwn]

theorem Yields.same {P : Program} {ρ : Operand → Value} {o : Oper} {G : Gh} {w : World} {d : Nat} {a : AV} {v : Value}
    (hr : (execOp ρ o).run P w = .ok (.value v) w) (h : RepT G w a v) (hn : notOwn a) : Yields P ρ o G w d a :=
  ⟨v, w, G, hr, .refl G w, h, .of_notOwn hn⟩

/-! ### from the model's operation to the small one -/

def szOf (P : Program) (t : TypeId) : Option Nat := (P.info? t).map (·.size)
def bytesT (P : Program) (t : TypeId) : Option Nat := (P.info? t).map (·.bytes)
def aggOf (P : Program) (t : TypeId) : Option (Option Nat) :=
  match P.underlying t with
  | some (.struct _) => match szOf P t with
    | some n => some (some n)
    | none => none
  | some (.array _ _) => match szOf P t with
    | some n => some (some n)
    | none => none
  | some _ => some none
  | none => none
def zeroOf (P : Program) (t : TypeId) : Option Value := (P.info? t).bind (·.zero)

def partsStruct (P : Program) (fs : Array Field) : List (Nat × Operand) → Option (List (Nat × Nat × VO))
  | [] => some []
  | (i, x) :: rest => match fs[i]?, trO x, partsStruct P fs rest with
    | some f, some x, some r => match szOf P f.type with
      | some n => some ((f.offset, n, x) :: r)
      | none => none
    | _, _, _ => none

def partsArray (n : Nat) : List (Nat × Operand) → Option (List (Nat × Nat × VO))
  | [] => some []
  | (i, x) :: rest => match trO x, partsArray n rest with
    | some x, some r => some ((i * n, n, x) :: r)
    | _, _ => none

def partsEls : List (Nat × Operand) → Option (List (Nat × VO))
  | [] => some []
  | (i, x) :: rest => match trO x, partsEls rest with
    | some x, some r => some ((i, x) :: r)
    | _, _ => none

def trList : List Operand → Option (List VO)
  | [] => some []
  | x :: rest => match trO x, trList rest with
    | some x, some r => some (x :: r)
    | _, _ => none

def trOpt : Option Operand → Option (Option VO)
  | none => some none
  | some x => match trO x with
    | some y => some (some y)
    | none => none

/-- The places of a flat struct's cells that '==' compares, and their kinds. -/
def kindOf (P : Program) (t : TypeId) : Option Nat :=
  match P.underlying t with
  | some (.int _) => some 0
  | some .string => some 1
  | some .bool => some 2
  | _ => none

def spotsOf (P : Program) : List Field → Option (List (Nat × Nat))
  | [] => some []
  | f :: fs => match kindOf P f.type, spotsOf P fs with
    | some k, some r => some (if f.name ≠ "_" then (f.offset, k) :: r else r)
    | _, _ => none

/-- Is this the constant nil? Of slices, pointers, functions. -/
def isNilConst : Nat → Operand → Bool
  | 0, .const (.slice none 0 0) => true
  | 1, .const (.pointer none) => true
  | 2, .const .nilFunc => true
  | _, _ => false

def trNil (k : Nat) (op : BinOp) (x : VO) (y : Operand) : Option VOp :=
  if isNilConst k y then
    match op with
    | .eql => some (.eqNil k false x)
    | .neq => some (.eqNil k true x)
    | _ => none
  else none

def trBin (P : Program) (op : BinOp) (t : TypeId) (x y : Operand) : Option VOp :=
  match P.underlying t, trO x, trO y with
  | some (.int _), some x, some y => some (.bin op x y)
  | some .string, some x, some y => some (.bin op x y)
  | some .bool, some x, some y => match op with
    | .eql => some (.eqBool false x y)
    | .neq => some (.eqBool true x y)
    | _ => none
  | some (.struct fs), some x, some y =>
    match spotsOf P fs.toList with
    | some ss => if P.stoodInHeld t = false ∧ P.eqGuardType P.depth t = false then
        match op with
        | .eql => some (.eqAgg false ss x y)
        | .neq => some (.eqAgg true ss x y)
        | _ => none
      else none
    | none => none
  | some (.slice _), some x, _ => trNil 0 op x y
  | some (.pointer _), some x, _ => trNil 1 op x y
  | some (.func _ _ _), some x, _ => trNil 2 op x y
  | _, _, _ => none

/-- The pure operations. -/
def trPure (P : Program) (o : Oper) : Option VOp :=
  match o.op with
  | .move x => match trO x with
    | some x => some (.move x)
    | none => none
  | .pick c a b => match trO c, trO a, trO b with
    | some c, some a, some b => some (.pick c a b)
    | _, _, _ => none
  | .nilCheck x => match trO x with
    | some x => some (.nilck x)
    | none => none
  | .binOp op t x y _ => trBin P op t x y
  | .unOp op _ x => match trO x with
    | some x => some (.un op x)
    | none => none
  | .convert src dst x => match P.underlying src, P.underlying dst, trO x with
    | some (.int _), some (.int k), some x => some (.cint k x)
    | some .string, some .string, some x => some (.cstr x)
    | some .string, some (.slice e), some x => match P.underlying e with
      | some (.int .u8) => some (.bytesOf x)
      | _ => none
    | _, _, _ => none
  | .fieldAddr t x i => match P.underlying t, trO x with
    | some (.struct fs), some x => match fs[i]? with
      | some f => match szOf P f.type with
        | some (_ + 1) => some (.faddr f.offset x)
        | _ => none
      | none => none
    | _, _ => none
  | .field t x i => match P.underlying t, trO x with
    | some (.struct fs), some x => match fs[i]? with
      | some f => match aggOf P f.type with
        | some a => some (.field f.offset a x)
        | none => none
      | none => none
    | _, _ => none
  | .indexAddr t x i => match P.underlying t, trO x, trO i with
    | some (.slice e), some x, some i => match szOf P e with
      | some n => some (.iaddrSl n x i)
      | none => none
    | some (.array len e), some x, some i => match szOf P e with
      | some n => some (.iaddrArr len n x i)
      | none => none
    | _, _, _ => none
  | .index t x i => match P.underlying t, trO x, trO i with
    | some .string, some x, some i => some (.idxStr x i)
    | some (.array len e), some x, some i => match szOf P e, aggOf P e with
      | some n, some a => some (.idxArr len n a x i)
      | _, _ => none
    | _, _, _ => none
  | .extract x i => match trO x with
    | some x => some (.ext x i)
    | none => none
  | .slice t x lo hi mx => match P.underlying t, trO x, trOpt lo, trOpt hi with
    | some .string, some x, some lo, some hi => if mx.isNone then some (.slStr x lo hi) else none
    | _, _, _, _ => none
  | .call { callee := .builtin .len, args, argTypes } => match argTypes.toList, trList args.toList with
    | [t], some [x] => match P.underlying t with
      | some .string => some (.lenStr x)
      | some (.slice _) => some (.lenSl x)
      | _ => none
    | _, _ => none
  | .call { callee := .builtin .min, args, .. } => match trList args.toList with
    | some xs => some (.minmax false xs)
    | none => none
  | .call { callee := .builtin .max, args, .. } => match trList args.toList with
    | some xs => some (.minmax true xs)
    | none => none
  | .makeInterface t x => if P.concrete t then match trO x with
      | some x => some (.mkIface t x)
      | none => none
    else none
  | _ => none

section
variable {P : Program} {ρ : Operand → Value} {G : Gh} {w : World} {ev : VO → AV}

theorem part_rep {cs : List AV} {vs : Array Value} {agg : Option Nat} {t : TypeId} {off : Nat} {a : AV} (ha : aggOf P t = some agg) (hl : cs.length = vs.size)
    (h : ∀ (i : Nat) (h1 : i < cs.length) (h2 : i < vs.size), Rep G w cs[i] vs[i]) (hp : part? agg cs off = some a) :
    ∃ v, (part t vs off).run P w = .ok v w ∧ Rep G w a v ∧ notOwn a := by
  cases agg with
  | none =>
    have hagg : (isAgg t).run P w = .ok false w := by
      unfold aggOf at ha
      cases hu : P.underlying t with
      | none => simp [hu] at ha
      | some d => cases d <;> simp only [hu] at ha <;> first | (split at ha <;> simp at ha; done) | simp [isAgg, run_underlying hu]
    simp only [part?] at hp
    split at hp
    · rename_i v hv
      simp at hp; subst hp
      have hlt : off < cs.length := by
        rcases Nat.lt_or_ge off cs.length with h' | h'
        · exact h'
        · simp [List.getElem?_eq_none h'] at hv
      have hlt' : off < vs.size := by omega
      have he : cs[off] = v := by rw [List.getElem?_eq_getElem hlt] at hv; simpa using hv
      refine ⟨vs[off], ?_, he ▸ (h off hlt hlt').view, notOwn_view _⟩
      simp [part, hagg, Array.getElem?_eq_getElem hlt']
    · simp at hp
  | some sz =>
    have hagg : (isAgg t).run P w = .ok true w ∧ (sizeOf t).run P w = .ok sz w := by
      unfold aggOf szOf at ha
      cases hu : P.underlying t with
      | none => simp [hu] at ha
      | some d =>
        cases d <;> simp only [hu] at ha <;> first
          | (simp at ha; done)
          | (cases hi : P.info? t with
             | none => simp [hi] at ha
             | some i => simp [hi] at ha; exact ⟨by simp [isAgg, run_underlying hu], by simp [sizeOf, typeInfo, hi, ha]⟩)
    simp only [part?] at hp
    split at hp
    · rename_i hle
      simp at hp; subst hp
      refine ⟨.agg (vs.extract off (off + sz)), ?_, ?_, trivial⟩
      · simp [part, hagg.1, hagg.2]
      · refine .agg _ _ (by simp; omega) fun i h1 h2 => ?_
        have h1' : i < sz := by simp at h1; omega
        have := h (off + i) (by omega) (by omega)
        simpa using this
    · simp at hp

theorem trList_ok (he : OkEv G w ev ρ) : ∀ {xs : List Operand} {ys : List VO}, trList xs = some ys → ys.length = xs.length ∧ ∀ (i : Nat) (h1 : i < ys.length) (h2 : i < xs.length), RepT G w (ev ys[i]) (ρ xs[i])
  | [], ys, h => by simp [trList] at h; subst h; exact ⟨rfl, fun i h1 => by simp at h1⟩
  | x :: rest, ys, h => by
    simp only [trList] at h
    split at h
    · rename_i y r hy hr
      simp at h; subst h
      obtain ⟨hl, hh⟩ := trList_ok he hr
      refine ⟨by simp [hl], fun i h1 h2 => ?_⟩
      cases i with
      | zero => exact he _ _ hy
      | succ i => exact hh i (by simpa using h1) (by simpa using h2)
    · simp at h

theorem minmax_run {isMax : Bool} : ∀ (xs : List AV) (vs : List Value) (a0 : AV) (v0 : Value) (a : AV), xs.length = vs.length →
    (∀ (i : Nat) (h1 : i < xs.length) (h2 : i < vs.length), RepT G w xs[i] vs[i]) → RepT G w a0 v0 → minmax? isMax a0 xs = some a →
    ∃ v, (vs.foldlM (if isMax then Builtin.max2 else Builtin.min2) v0).run P w = .ok v w ∧ RepT G w a v
  | [], vs, a0, v0, a, hl, _, h0, hm => by
    cases vs with
    | nil => simp [minmax?] at hm; subst hm; exact ⟨v0, by simp, h0⟩
    | cons => simp at hl
  | x :: xs, vs, a0, v0, a, hl, hx, h0, hm => by
    cases vs with
    | nil => simp at hl
    | cons v vs =>
      have hx0 := hx 0 (by simp) (by simp)
      simp only [List.getElem_cons_zero] at hx0
      unfold minmax? at hm
      split at hm
      · rename_i heq; simp at heq
      · rename_i k n k' n' rest heq
        simp at heq
        obtain ⟨rfl, rfl⟩ := heq
        split at hm
        · rename_i hk; subst hk
          have e0 := h0.int_inv
          have e1 := hx0.int_inv
          subst e0; subst e1
          obtain ⟨u, hu, hr⟩ := minmax_run (isMax := isMax) xs vs _ (.int k (if isMax then (if n' > n then n' else n) else (if n' < n then n' else n))) a (by simpa using hl)
            (fun i h1 h2 => hx (i + 1) (by simp; omega) (by simp; omega)) (.of (.int _ _)) hm
          refine ⟨u, ?_, hr⟩
          cases isMax <;> simp [Builtin.max2, Builtin.min2] at hu ⊢ <;> exact hu
        · simp at hm
      · simp at hm

theorem bytesLess_eq : ∀ a b, Op.bytesLess a b = bytesLess a b
  | _, [] => by simp [Op.bytesLess, bytesLess]
  | [], _ :: _ => by simp [Op.bytesLess, bytesLess]
  | a :: x, b :: y => by simp [Op.bytesLess, bytesLess, bytesLess_eq x y]

theorem eqGuard_nothing (op : BinOp) (t : TypeId) (x y : Operand) (u v : Value) (h : (∀ cs, u ≠ .agg cs) ∧ u ≠ .nilIface) : eqGuard op t x y u v = pure () := by
  cases u <;> simp at h <;> cases op <;> rfl

theorem bin_run {op : BinOp} {t : TypeId} {x y a : AV} {u v : Value} (hx : RepT G w x u) (hy : RepT G w y v) (h : bin? op x y = some a) :
    ∃ r, (binOp op t u v).run P w = .ok r w ∧ RepT G w a r ∧ notOwn a ∧ (∀ cs, u ≠ .agg cs) ∧ u ≠ .nilIface := by
  unfold bin? at h
  split at h
  · have e1 := hx.int_inv; have e2 := hy.int_inv
    subst e1; subst e2
    split at h
    · simp at h
    · rename_i hb
      simp at h; subst h
      refine ⟨_, ?_, .of (.int _ _), trivial, by simp, by simp⟩
      simp [binOp, Op.shift, hb]
  · have e1 := hx.int_inv; have e2 := hy.int_inv
    subst e1; subst e2
    split at h
    · simp at h
    · rename_i hb
      simp at h; subst h
      refine ⟨_, ?_, .of (.int _ _), trivial, by simp, by simp⟩
      simp [binOp, Op.shift, hb]
  · rename_i k n k' n' hns hnr
    have e1 := hx.int_inv; have e2 := hy.int_inv
    subst e1; subst e2
    split at h
    · rename_i hk; subst hk
      unfold binInt at h
      split at h
      case h_4 =>
        split at h <;> simp at h
        rename_i hz; subst h
        refine ⟨_, ?_, .of (.int _ _), trivial, by simp, by simp⟩
        simp [binOp, Op.intDiv, hz]
      case h_5 =>
        split at h <;> simp at h
        rename_i hz; subst h
        refine ⟨_, ?_, .of (.int _ _), trivial, by simp, by simp⟩
        simp [binOp, Op.intDiv, hz]
      all_goals first
        | (simp at h; done)
        | (simp only [Option.some.injEq] at h; subst h; refine ⟨_, ?_, .of (.int _ _), trivial, by simp, by simp⟩; simp [binOp, Op.intArith, Op.intBits]; done)
        | (simp only [Option.some.injEq] at h; subst h; refine ⟨_, ?_, .of (.bool _), trivial, by simp, by simp⟩; simp [binOp, Op.intCmp]; done)
    · simp at h
  · obtain ⟨s, rfl, rfl⟩ := hx.str_inv
    obtain ⟨s', rfl, rfl⟩ := hy.str_inv
    unfold binStr at h
    split at h
    case h_1 =>
      split at h
      · rename_i hsz
        simp only [Option.some.injEq] at h
        subst h
        refine ⟨.string (s ++ s'), ?_, .of ?_, trivial, by simp, by simp⟩
        · rw [binOp_string_add]; exact run_string_add_sum _ s s' (by have h1 : s.data.toList.length = s.size := Array.length_toList; have h2 : s'.data.toList.length = s'.size := Array.length_toList; omega)
        · have : s.data.toList ++ s'.data.toList = (s ++ s').data.toList := by simp
          rw [this]; exact .str _
      · simp at h
    all_goals first
      | (simp at h; done)
      | (simp only [Option.some.injEq] at h; subst h; refine ⟨_, ?_, .of (.bool _), trivial, by simp, by simp⟩; simp [binOp, Op.stringOp, ByteArray.toList_eq, bytesLess_eq]; done)
  · simp at h

theorem eqCell_run {k : Nat} {t : TypeId} (d : Nat) (hk : kindOf P t = some k) {a c : AV} {u v : Value} {q : Bool} (ru : Rep G w a u) (rv : Rep G w c v) (hq : eqCell k a c = some q) :
    (Op.equalIn (d + 1) t u v).run P w = .ok q w := by
  unfold kindOf at hk
  unfold eqCell at hq
  split at hq
  · have e1 := (RepT.of ru).int_inv; have e2 := (RepT.of rv).int_inv
    subst e1; subst e2
    split at hq
    · rename_i hkk
      simp only [Option.some.injEq] at hq
      subst hkk; subst hq
      split at hk <;> simp at hk
      rename_i hu
      simp [Op.equalIn, run_underlying hu]
    · simp at hq
  · obtain ⟨s, rfl, e1⟩ := (RepT.of ru).str_inv; obtain ⟨s', rfl, e2⟩ := (RepT.of rv).str_inv
    subst e1; subst e2
    simp only [Option.some.injEq] at hq
    subst hq
    split at hk <;> simp at hk
    rename_i hu
    rw [run_equalIn_string w d t s s' hu, ByteArray.toList_eq, ByteArray.toList_eq]
  · have e1 := (RepT.of ru).bool_inv; have e2 := (RepT.of rv).bool_inv
    subst e1; subst e2
    simp only [Option.some.injEq] at hq
    subst hq
    split at hk <;> simp at hk
    rename_i hu
    simp [Op.equalIn, run_underlying hu]
  · simp at hq

theorem aggOf_of_kind {t : TypeId} {k : Nat} (h : kindOf P t = some k) : aggOf P t = some none := by
  unfold kindOf at h
  unfold aggOf
  split at h <;> simp_all

theorem eqCells_run {xs ys : List AV} {us vs : Array Value} (d : Nat) (hlx : xs.length = us.size) (hly : ys.length = vs.size)
    (hx : ∀ (i : Nat) (h1 : i < xs.length) (h2 : i < us.size), Rep G w xs[i] us[i]) (hy : ∀ (i : Nat) (h1 : i < ys.length) (h2 : i < vs.size), Rep G w ys[i] vs[i]) :
    ∀ (fs : List Field) (ss : List (Nat × Nat)) (b : Bool), spotsOf P fs = some ss → eqCells xs ys ss = some b → (Op.eqFields (d + 1) us vs fs).run P w = .ok b w
  | [], ss, b, hs, he => by
    simp [spotsOf] at hs; subst hs
    simp [eqCells] at he; subst he
    simp [Op.eqFields]
  | f :: fs, ss, b, hs, he => by
    simp only [spotsOf] at hs
    split at hs
    · rename_i k r hk hr
      simp only [Option.some.injEq] at hs
      simp only [Op.eqFields]
      have hagg := aggOf_of_kind hk
      by_cases hn : f.name ≠ "_"
      · simp only [hn, ne_eq, not_false_eq_true, if_true] at hs ⊢
        subst hs
        simp only [eqCells] at he
        split at he
        · rename_i x y hxx hyy
          obtain ⟨u, hu, ru, _⟩ := part_rep (P := P) (G := G) (w := w) (t := f.type) (off := f.offset) (a := x.view) hagg hlx hx (by simp [part?, hxx])
          obtain ⟨v, hv, rv, _⟩ := part_rep (P := P) (G := G) (w := w) (t := f.type) (off := f.offset) (a := y.view) hagg hly hy (by simp [part?, hyy])
          simp only [Sem.run_bind, hu, hv, Result.andThen_ok]
          split at he
          · rename_i hq
            rw [eqCell_run d hk ru rv hq]
            simp
            exact eqCells_run d hlx hly hx hy fs r b hr he
          · rename_i hq
            rw [eqCell_run d hk ru rv hq]
            simp at he ⊢
            exact he
          · simp at he
        · simp at he
      · simp only [hn, if_false] at hs ⊢
        subst hs
        exact eqCells_run d hlx hly hx hy fs r b hr he
    · simp at hs

end

end Go.Vm
