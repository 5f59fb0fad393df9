/- A small machine and its soundness, part VA. -/
import Derived.Orders
import Derived.Lib.ItoaNum
import Derived.Lib.ParseIntB
/- The abstract values, the small code and its interpreter. No program in sight. -/
namespace Go.Vm

/-- An object: the k-th one that slot t of this call made, or number i of the shared memory. -/
inductive Ix where
  | loc (t k : Nat)
  | mem (i : Nat)
  deriving DecidableEq

inductive AV where
  | undef
  | bool (b : Bool)
  | int (k : IntKind) (n : Int)
  | str (s : List UInt8)
  | agg (cs : List AV)
  | tup (vs : List AV)
  | vec (own : Option Nat) (nn : Bool) (xs : List AV)
  | row (x : Ix) (off len : Nat)
  | ptr (x : Ix) (off : Nat)
  | vptr (cs : List AV) (off : Nat)
  | nilptr
  | fn (f : Fn) (caps : List AV)
  | nilfn
  | iface (t : TypeId) (v : AV)
  | zcap (nn : Bool)
  | orow (z i len : Nat)
  | nilIface
  | mapr (i : Nat)
  | nilmap
  | typed (k T n i len : Nat)

instance : Inhabited AV := ⟨.undef⟩

def AV.cells : AV → List AV
  | .agg cs => cs
  | v => [v]

/-- The cells of elements, one behind the other. -/
def flat (xs : List AV) : List AV := xs.flatMap AV.cells

/-- A copy without the right to append. -/
def AV.view : AV → AV
  | .vec _ nn xs => .vec none nn xs
  | .orow _ i len => .row (.mem i) 0 len
  | v => v

/-- A copy without the right to append to a vector; an own row goes on as it is. -/
def AV.pass : AV → AV
  | .vec _ nn xs => .vec none nn xs
  | v => v

/-- No address of this call's own. -/
def AV.nl : AV → Bool
  | .ptr (.loc _ _) _ => false
  | .row (.loc _ _) _ _ => false
  | _ => true

def AV.good : AV → Bool
  | .undef => false
  | v => v.nl

/-- What one cell can hold. -/
def AV.one : AV → Bool
  | .undef => false
  | .agg _ => false
  | .tup _ => false
  | v => v.nl

inductive LObj where
  | cells (fz : Bool) (cs : List AV)
  | iter (s : List UInt8) (pos : Nat)
  | mp (kvs : List (AV × AV))

structure St where
  tmp : Nat → AV
  loc : Nat → List LObj
  mem : List (Option LObj)

abbrev Mem := List (Option LObj)

def St.get (s : St) (t : Nat) : AV := s.tmp t
def St.set (s : St) (t : Nat) (v : AV) : St := { s with tmp := fun j => if j = t then v else s.tmp j }
def St.obj (s : St) : Ix → Option LObj
  | .loc t k => (s.loc t)[k]?
  | .mem i => match s.mem[i]? with | some o => o | none => none
def St.setObj (s : St) : Ix → LObj → St
  | .loc t k, o => { s with loc := fun j => if j = t then (s.loc t).set k o else s.loc j }
  | .mem i, o => { s with mem := s.mem.set i (some o) }

inductive VO where
  | t (n : Nat)
  | k (v : AV)

def St.ev (s : St) : VO → AV
  | .t n => s.get n
  | .k v => v

inductive VOp where
  | move (x : VO)
  | take (t : Nat)
  | assign (x : VO)
  | pick (c a b : VO)
  | alloc (heap : Bool) (cs : List AV)
  | box (heap : Bool) (x : VO)
  | build (zero : List AV) (parts : List (Nat × Nat × VO))
  | buildSl (esz : Nat) (zero : AV) (n : Nat) (parts : List (Nat × VO))
  | load (agg : Option Nat) (a : VO)
  | loadTake (a : VO)
  | loadO (a : VO)
  | store (sz : Nat) (a x : VO)
  | nilck (x : VO)
  | bin (op : BinOp) (x y : VO)
  | eqBool (neg : Bool) (x y : VO)
  | eqNil (k : Nat) (neg : Bool) (x : VO)
  | eqAgg (neg : Bool) (spots : List (Nat × Nat)) (x y : VO)
  | un (op : UnOp) (x : VO)
  | cint (k : IntKind) (x : VO)
  | cstr (x : VO)
  | bytesOf (x : VO)
  | strOf (x : VO)
  | mkfn (f : Fn) (caps : List VO)
  | mksl (heap : Bool) (esz bytes : Nat) (zero : AV) (len cap : VO)
  | mkslObj (heap : Bool) (esz bytes : Nat) (zero : AV) (len cap : VO)
  | slZ (x : VO)
  | buildZ
  | slStr (x : VO) (lo hi : Option VO)
  | slSl (esz : Nat) (x : VO) (lo hi mx : Option VO)
  | faddr (off : Nat) (x : VO)
  | field (off : Nat) (agg : Option Nat) (x : VO)
  | iaddrSl (esz : Nat) (x i : VO)
  | iaddrArr (n esz : Nat) (x i : VO)
  | idxArr (n esz : Nat) (agg : Option Nat) (x i : VO)
  | idxStr (x i : VO)
  | ext (x : VO) (i : Nat)
  | lenSl (x : VO)
  | lenStr (x : VO)
  | append (esz bytes : Nat) (s x : VO)
  | appendRow (esz bytes : Nat) (s x : VO)
  | appendO (esz bytes : Nat) (s x : VO)
  | appStr (bytes : Nat) (s x : VO)
  | strOfM (x : VO)
  | slArr (n esz : Nat) (x : VO) (lo hi : Option VO)
  | bytesObj (heap : Bool) (x : VO)
  | minmax (isMax : Bool) (xs : List VO)
  | mkIface (t : TypeId) (x : VO)
  | extn (k : Nat) (args : List VO)
  | mkmap
  | minsert (kd : Nat) (m k v : VO)
  | mlook (kd : Nat) (z : AV) (both : Bool) (m k : VO)
  | range (x : VO)
  | next (it : VO)
  | call (f : VO) (args : List VO)
  | callP (f : VO) (args : List VO)
  | callR (f : VO) (args : List VO)
  | callO (f : VO) (args : List VO)
  | unsf (k T n : Nat) (x y : VO)
  | upure (k n : Nat) (x y : VO)

/-- One operation: where its value goes, the operation, its guard (a slot and the wanted value). -/
structure VI where
  dst : Option Nat
  op : VOp
  guard : Option (Nat × Bool)

inductive VC where
  | skip
  | region (ops : List VI)
  | drawn (ops : List VI) (ch : List (Bool × VO × VO))
  | seq (a b : VC)
  | cond (c : VO) (a b : VC)
  | block (id : Nat) (b : VC)
  | loop (b : VC)
  | exit (id : Nat)
  | ret
  | native (k n : Nat)

inductive VRes where
  | tmp (t : Nat)
  | tmpO (t : Nat)
  | cell (t : Nat) (agg : Option Nat)

structure VF where
  nparams : Nat
  results : List VRes
  body : VC

/-! ### the operations' meaning -/

/-- A cell or a run of cells, as a value. -/
def part? (agg : Option Nat) (cs : List AV) (off : Nat) : Option AV :=
  match agg with
  | none => match cs[off]? with
    | some v => some v.view
    | none => none
  | some sz => if off + sz ≤ cs.length then some (.agg ((cs.drop off).take sz)) else none

def putCells (cs : List AV) (off : Nat) (new : List AV) : List AV := cs.take off ++ new ++ cs.drop (off + new.length)

/-- Parts laid over zero cells. -/
def overlay (cells : List AV) : List (Nat × Nat × AV) → Option (List AV)
  | [] => some cells
  | (off, sz, v) :: rest =>
    if v.cells.length = sz ∧ off + sz ≤ cells.length then overlay (putCells cells off (v.cells.map AV.view)) rest else none

def overEls (esz : Nat) (xs : List AV) : List (Nat × AV) → Option (List AV)
  | [] => some xs
  | (i, v) :: rest => if v.cells.length = esz ∧ i < xs.length then overEls esz (xs.set i v.view) rest else none

def bytesLess : List UInt8 → List UInt8 → Bool
  | _, [] => false
  | [], _ :: _ => true
  | a :: x, b :: y => a < b || (a == b && bytesLess x y)

def binInt (op : BinOp) (k : IntKind) (a b : Int) : Option AV :=
  match op with
  | .add => some (.int k (k.wrap (a + b)))
  | .sub => some (.int k (k.wrap (a - b)))
  | .mul => some (.int k (k.wrap (a * b)))
  | .quo => if b = 0 then none else some (.int k (k.wrap (a.tdiv b)))
  | .rem => if b = 0 then none else some (.int k (a.tmod b))
  | .and => some (.int k (k.wrap (BitVec.ofInt k.bits a &&& BitVec.ofInt k.bits b).toNat))
  | .or => some (.int k (k.wrap (BitVec.ofInt k.bits a ||| BitVec.ofInt k.bits b).toNat))
  | .xor => some (.int k (k.wrap (BitVec.ofInt k.bits a ^^^ BitVec.ofInt k.bits b).toNat))
  | .eql => some (.bool (a == b))
  | .neq => some (.bool (a != b))
  | .lss => some (.bool (a < b))
  | .leq => some (.bool (a ≤ b))
  | .gtr => some (.bool (a > b))
  | .geq => some (.bool (a ≥ b))
  | _ => none

def binStr (op : BinOp) (a b : List UInt8) : Option AV :=
  match op with
  | .add => if a.length + b.length ≤ 9223372036854775807 then some (.str (a ++ b)) else none
  | .eql => some (.bool (a == b))
  | .neq => some (.bool !(a == b))
  | .lss => some (.bool (bytesLess a b))
  | .leq => some (.bool (bytesLess a b || a == b))
  | .gtr => some (.bool !(bytesLess a b || a == b))
  | .geq => some (.bool !(bytesLess a b))
  | _ => none

def bin? (op : BinOp) (x y : AV) : Option AV :=
  match op, x, y with
  | .shl, .int k a, .int _ b => if b < 0 then none else some (.int k (k.wrap (a * 2 ^ (min b.toNat k.bits))))
  | .shr, .int k a, .int _ b => if b < 0 then none else some (.int k (a.fdiv (2 ^ (min b.toNat k.bits))))
  | op, .int k a, .int k' b => if k = k' then binInt op k a b else none
  | op, .str a, .str b => binStr op a b
  | _, _, _ => none

def un? (op : UnOp) (x : AV) : Option AV :=
  match op, x with
  | .neg, .int k n => some (.int k (k.wrap (0 - n)))
  | .xor, .int k n => some (.int k (k.wrap (BitVec.ofInt k.bits (if k.signed then -1 else k.max) ^^^ BitVec.ofInt k.bits n).toNat))
  | .not, .bool b => some (.bool !b)
  | _, _ => none

/-- k: 0 whole numbers, 1 strings, 2 bools. -/
def eqCell : Nat → AV → AV → Option Bool
  | 0, .int k a, .int k' b => if k = k' then some (a == b) else none
  | 1, .str a, .str b => some (a == b)
  | 2, .bool a, .bool b => some (a == b)
  | _, _, _ => none

def eqCells (xs ys : List AV) : List (Nat × Nat) → Option Bool
  | [] => some true
  | (i, k) :: rest =>
    match xs[i]?, ys[i]? with
    | some x, some y => match eqCell k x.view y.view with
      | some true => eqCells xs ys rest
      | some false => some false
      | none => none
    | _, _ => none

/-- k: 0 slices, 1 pointers, 2 functions. -/
def isNil? : Nat → AV → Option Bool
  | 0, .vec _ nn _ => some !nn
  | 0, .row .. => some false
  | 0, .orow .. => some false
  | 1, .ptr .. => some false
  | 1, .vptr .. => some false
  | 1, .nilptr => some true
  | 1, .typed k _ _ _ _ => if k = 0 then some true else none
  | 2, .fn .. => some false
  | 2, .nilfn => some true
  | 3, .iface .. => some false
  | 3, .nilIface => some true
  | _, _ => none

def elems? (esz : Nat) : AV → Option (List AV)
  | .vec _ _ xs => if xs.all fun x => x.cells.length = esz && x.cells.all AV.one then some xs else none
  | _ => none

def minmax? (isMax : Bool) : AV → List AV → Option AV
  | v, [] => some v
  | .int k x, .int k' y :: rest =>
    if k = k' then minmax? isMax (.int k (if isMax then (if y > x then y else x) else (if y < x then y else x))) rest else none
  | _, _ => none

/-- An operand that may lack. -/
def optV (ev : VO → AV) (x : Option VO) (d : AV) : AV :=
  match x with
  | some x => ev x
  | none => d

/-- Functions that have no body. 0: the place of a byte in a string. -/
def extnV : Nat → List AV → Option AV
  | 0, [.str s, .int .u8 c] => some (.int .i64 (match s.findIdx? (fun b => b == c.toNat.toUInt8) with | some i => (i : Int) | none => -1))
  | 1, [.str s, .int .u8 c] => some (.int .i64 (s.count c.toNat.toUInt8 : Nat))
  | _, _ => none

/-- Bytes as whole numbers, as a string. -/
def bytesV : List AV → Option (List UInt8)
  | [] => some []
  | .int .u8 n :: rest => match bytesV rest with
    | some bs => some (UInt8.ofNat n.toNat :: bs)
    | none => none
  | _ => none

/-- 0: the address of a row's first element; 1, 2: are two addresses the same, are they not (the same alone); 3: an address as it is; 4: a part of a tuple, as it is. -/
def upV (k n : Nat) (x y : AV) : Option AV :=
  match k with
  | 0 => match x with
    | .vec _ false [] => some .nilptr
    | .typed 1 T n i len => if 0 < len then some (.typed 2 T n i 0) else none
    | _ => none
  | 1 => match x, y with
    | .ptr x o, .ptr y o' => if x = y ∧ o = o' then some (.bool true) else none
    | _, _ => none
  | 2 => match x, y with
    | .ptr x o, .ptr y o' => if x = y ∧ o = o' then some (.bool false) else none
    | _, _ => none
  | 3 => match x with
    | .ptr (.mem i) o => some (.ptr (.mem i) o)
    | _ => none
  | 4 => match x with
    | .tup vs => match vs[n]? with
      | some v => some v.pass
      | none => none
    | _ => none
  | _ => none

/-- The operations that only look at their operands. -/
def pval (ev : VO → AV) : VOp → Option AV
  | .move x => some (ev x).view
  | .pick c a b => match ev c with
    | .bool true => some (ev a).view
    | .bool false => some (ev b).view
    | _ => none
  | .build zero parts => match overlay zero (parts.map fun p => (p.1, p.2.1, ev p.2.2)) with
    | some cs => if (parts.all fun p => (ev p.2.2).good) then some (.agg cs) else none
    | none => none
  | .buildSl esz zero n parts =>
    if zero.cells.length = esz then
      match overEls esz (List.replicate n zero) (parts.map fun p => (p.1, ev p.2)) with
      | some xs => if (parts.all fun p => (ev p.2).good) then some (.vec (some esz) true xs) else none
      | none => none
    else none
  | .nilck x => match ev x with
    | .ptr i o => some (.ptr i o)
    | .vptr cs o => some (.vptr cs o)
    | .fn f cs => some (.fn f cs)
    | _ => none
  | .bin op x y => bin? op (ev x) (ev y)
  | .eqBool neg x y => match ev x, ev y with
    | .bool a, .bool b => some (.bool (if neg then !(a == b) else a == b))
    | _, _ => none
  | .eqNil k neg x => match isNil? k (ev x) with
    | some b => some (.bool (if neg then !b else b))
    | none => none
  | .eqAgg neg spots x y => match ev x, ev y with
    | .agg xs, .agg ys => match eqCells xs ys spots with
      | some b => some (.bool (if neg then !b else b))
      | none => none
    | _, _ => none
  | .un op x => un? op (ev x)
  | .cint k x => match ev x with
    | .int _ n => some (.int k (k.wrap n))
    | _ => none
  | .cstr x => match ev x with
    | .str s => some (.str s)
    | _ => none
  | .bytesOf x => match ev x with
    | .str s => some (.vec none true (s.map fun b => .int .u8 b.toNat))
    | _ => none
  | .strOf x => match ev x with
    | .vec _ _ xs => match bytesV xs with
      | some bs => some (.str bs)
      | none => none
    | _ => none
  | .mksl false esz bytes zero l c => match ev l, ev c with
    | .int .i64 l, .int .i64 c =>
      if 0 ≤ l ∧ l ≤ c ∧ (bytes : Int) * c ≤ 2 ^ 47 ∧ c < 2 ^ 63 ∧ zero.cells.length = esz then some (.vec (some esz) true (List.replicate l.toNat zero)) else none
    | _, _ => none
  | .buildZ => some (.zcap true)
  | .slStr x lo hi => match ev x with
    | .str s =>
      match optV ev lo (.int .i64 0), optV ev hi (.int .i64 s.length) with
      | .int _ l, .int _ h => if 0 ≤ l ∧ l ≤ h ∧ h ≤ s.length then some (.str ((s.take h.toNat).drop l.toNat)) else none
      | _, _ => none
    | _ => none
  | .slArr n esz x lo hi => match ev x, optV ev lo (.int .i64 0), optV ev hi (.int .i64 n) with
    | .ptr ix o, .int _ l, .int _ h => if 0 ≤ l ∧ l ≤ h ∧ h ≤ n ∧ l < n then some (.row ix (o + l.toNat * esz) (h.toNat - l.toNat)) else none
    | _, _, _ => none
  | .faddr off x => match ev x with
    | .ptr i o => some (.ptr i (o + off))
    | .vptr cs o => some (.vptr cs (o + off))
    | _ => none
  | .field off agg x => match ev x with
    | .agg cs => part? agg cs off
    | _ => none
  | .iaddrSl esz x i => match ev x, ev i with
    | .vec _ _ xs, .int _ i =>
      if 0 ≤ i then match xs[i.toNat]? with
        | some e => if e.cells.length = esz then some (.vptr e.cells 0) else none
        | none => none
      else none
    | .row ix off len, .int _ i => if 0 ≤ i ∧ i < len then some (.ptr ix (off + i.toNat * esz)) else none
    | .orow _ m len, .int _ i => if 0 ≤ i ∧ i < len then some (.ptr (.mem m) (0 + i.toNat * esz)) else none
    | _, _ => none
  | .iaddrArr n esz x i => match ev x, ev i with
    | .ptr ix o, .int _ i => if 0 ≤ i ∧ i < n then some (.ptr ix (o + i.toNat * esz)) else none
    | .vptr cs o, .int _ i => if 0 ≤ i ∧ i < n then some (.vptr cs (o + i.toNat * esz)) else none
    | _, _ => none
  | .idxArr n esz agg x i => match ev x, ev i with
    | .agg cs, .int _ i => if 0 ≤ i ∧ i < n then part? agg cs (i.toNat * esz) else none
    | _, _ => none
  | .idxStr x i => match ev x, ev i with
    | .str s, .int _ i => if 0 ≤ i then match s[i.toNat]? with
        | some b => some (.int .u8 b.toNat)
        | none => none
      else none
    | _, _ => none
  | .ext x i => match ev x with
    | .tup vs => match vs[i]? with
      | some v => some v.view
      | none => none
    | _ => none
  | .lenSl x => match ev x with
    | .vec _ _ xs => some (.int .i64 xs.length)
    | .row _ _ len => some (.int .i64 len)
    | .orow _ _ len => some (.int .i64 len)
    | .zcap _ => some (.int .i64 0)
    | .typed 1 _ _ _ len => some (.int .i64 len)
    | _ => none
  | .lenStr x => match ev x with
    | .str s => some (.int .i64 s.length)
    | _ => none
  | .minmax m xs => match xs.map ev with
    | v :: rest => minmax? m v.view rest
    | [] => none
  | .mkIface t x => if (ev x).nl then some (.iface t (ev x).view) else none
  | .extn k xs => extnV k (xs.map ev)
  | .upure k n x y => upV k n (ev x) (ev y)
  | _ => none

/-- A slice of a vector. -/
def slVec (esz : Nat) (nn : Bool) (xs : List AV) (l h : AV) (m : Option AV) : Option AV :=
  match l, h, m with
  | .int _ l, .int _ h, none =>
    if 0 ≤ l ∧ l ≤ h ∧ h ≤ xs.length ∧ (xs.all fun x => x.cells.length = esz) then some (.vec none nn ((xs.take h.toNat).drop l.toNat)) else none
  | .int _ l, .int _ h, some (.int _ m) =>
    if 0 ≤ l ∧ l ≤ h ∧ h = m ∧ m ≤ xs.length ∧ (xs.all fun x => x.cells.length = esz) then some (.vec (some esz) nn ((xs.take h.toNat).drop l.toNat)) else none
  | _, _, _ => none

/-- A slot's value with the right to append, if it had it; the slot keeps a view. -/
def St.takeT (s : St) (t : Nat) : AV × St :=
  match s.get t with
  | .vec (some z) nn xs => (.vec (some z) nn xs, s.set t (.vec none nn xs))
  | v => (v, s)

def St.takeO (s : St) : VO → AV × St
  | .t n => s.takeT n
  | .k v => (v, s)

def objCells (fz : Bool) : Option LObj → Option (List AV)
  | some (.cells f cs) => if fz || !f then some cs else none
  | _ => none

/-- A cell as it is, if it holds no vector with the right to append. -/
def rawCell : Option AV → Option AV
  | some (.vec (some _) _ _) => none
  | some v => some v
  | none => none

/-- What a closure takes along: an address of an own object becomes the object's content, and the object is written no more. -/
def capture : List AV → St → Option (List AV × St)
  | [], s => some ([], s)
  | v :: rest, s =>
    match v with
    | .ptr (.loc t k) 0 =>
      match objCells true (s.obj (.loc t k)) with
      | some cs => match capture rest (s.setObj (.loc t k) (.cells true (cs.map AV.view))) with
        | some (vs, s') => some (.vptr (cs.map AV.view) 0 :: vs, s')
        | none => none
      | none => none
    | v => if v.nl then match capture rest s with
        | some (vs, s') => some (v.view :: vs, s')
        | none => none
      else none

/-- Appending to a row of its own: the row moves to a new object, the old one is gone. -/
def appO (esz bytes : Nat) (mem : Mem) : AV → List AV → Option (AV × Mem)
  | .vec _ false _, ys =>
    if ys.isEmpty = false ∧ 0 < bytes ∧ ys.length * bytes ≤ 140737488355328 then
      some (.orow esz mem.length ys.length, mem ++ [some (.cells false ((flat ys).map AV.view))])
    else none
  | .zcap _, ys =>
    if ys.isEmpty = false ∧ 0 < bytes ∧ ys.length * bytes ≤ 140737488355328 then
      some (.orow esz mem.length ys.length, mem ++ [some (.cells false ((flat ys).map AV.view))])
    else none
  | .orow z i len, ys => match mem[i]? with
    | some (some (.cells false cs)) =>
      if z = esz ∧ ys.isEmpty = false ∧ len * esz ≤ cs.length ∧ 0 < bytes ∧ (len + ys.length) * bytes ≤ 140737488355328 then
        some (.orow esz mem.length (len + ys.length), mem.set i none ++ [some (.cells false ((cs.take (len * esz) ++ flat ys).map AV.view))])
      else none
    | _ => none
  | _, _ => none

/-- Appending a string's bytes to a row of its own. -/
def appS (bytes : Nat) (mem : Mem) (a : AV) (b : List UInt8) : Option (AV × Mem) :=
  if b = [] then match a with
    | .vec _ false _ => some (.vec none false [], mem)
    | .orow z i len => some (.orow z i len, mem)
    | _ => none
  else appO 1 bytes mem a (b.map fun c => AV.int .u8 c.toNat)

/-- Appending bytes to an own row whose type is known. -/
def appB (T bytes : Nat) (mem : Mem) : AV → List AV → Option (AV × Mem)
  | .vec _ false [], ys =>
    if ys.isEmpty = false ∧ 0 < bytes ∧ ys.length * bytes ≤ 140737488355328 then
      some (.typed 1 T 0 mem.length ys.length, mem ++ [some (.cells false ((flat ys).map AV.view))])
    else none
  | .typed 1 T' _ i len, ys => match mem[i]? with
    | some (some (.cells false cs)) =>
      if T' = T ∧ ys.isEmpty = false ∧ len ≤ cs.length ∧ 0 < bytes ∧ (len + ys.length) * bytes ≤ 140737488355328 then
        some (.typed 1 T 0 mem.length (len + ys.length), mem.set i none ++ [some (.cells false ((cs.take len ++ flat ys).map AV.view))])
      else none
    | _ => none
  | _, _ => none

/-- Bytes, as a string. -/
def bytesR : List AV → Option (List UInt8)
  | [] => some []
  | .int .u8 n :: rest => if 0 ≤ n ∧ n < 256 then match bytesR rest with
    | some bs => some (UInt8.ofNat n.toNat :: bs)
    | none => none
    else none
  | _ => none

/-- Blocks of a known type. 0: a new block of two cells, a nil pointer and a nil slice; 1: an address of such a block turned; 2: bytes of a string appended; 3: a row of bytes appended; 4: the string of a row's first bytes. -/
def unsfV (k T n : Nat) (mem : Mem) (x y : AV) : Option (AV × Mem) :=
  match k with
  | 0 => some (.ptr (.mem mem.length) 0, mem ++ [some (.cells false [.typed 0 T 2 mem.length 0, .vec none false []])])
  | 1 => match x with
    | .ptr (.mem i) 0 => match mem[i]? with
      | some (some (.cells false (.typed 0 T' n' i' _ :: _))) => if T' = T ∧ n' = n ∧ i' = i then some (.ptr (.mem i) 0, mem) else none
      | _ => none
    | _ => none
  | 2 => match y with
    | .str b => if b = [] then match x with
        | .vec _ false [] => some (.vec none false [], mem)
        | .typed 1 T n i len => some (.typed 1 T n i len, mem)
        | _ => none
      else appB T n mem x (b.map fun c => AV.int .u8 c.toNat)
    | _ => none
  | 3 => match elems? 1 y with
    | some ys => appB T n mem x ys
    | none => none
  | 4 => match x, y with
    | .nilptr, .int .i64 0 => some (.str [], mem)
    | .typed 2 T' _ i _, .int .i64 k => match mem[i]? with
      | some (some (.cells false cs)) =>
        if T' = T ∧ 0 < k ∧ k ≤ cs.length ∧ k < 140737488355328 then match bytesR (cs.take k.toNat) with
          | some bs => some (.str bs, mem.set i (some (.cells true [])))
          | none => none
        else none
      | _ => none
    | _, _ => none
  | _ => none

/-- Are two keys of a map the same? -/
def keySame : Nat → AV → AV → Option Bool
  | 0, .int k a, .int k' b => if k = k' then some (a == b) else none
  | 1, .str a, .str b => some (a == b)
  | 2, .bool a, .bool b => some (a == b)
  | _, _, _ => none
def mfindI (kd : Nat) (k : AV) : List (AV × AV) → Nat → Option (Option (Nat × AV))
  | [], _ => some none
  | e :: es, i => match keySame kd k e.1 with
    | some true => some (some (i, e.2))
    | some false => mfindI kd k es (i + 1)
    | none => none
def mfind (kd : Nat) (k : AV) (kvs : List (AV × AV)) : Option (Option (Nat × AV)) := mfindI kd k kvs 0

/-- All operations but calls: the value and the state behind it. d: the slot that the value goes to. -/
def exec (d : Nat) (op : VOp) (s : St) : Option (AV × St) :=
  match op with
  | .take t => some (s.takeT t)
  | .assign x => some (s.takeO x)
  | .alloc heap cs =>
    if heap then some (.ptr (.mem s.mem.length) 0, { s with mem := s.mem ++ [some (.cells false cs)] })
    else some (.ptr (.loc d (s.loc d).length) 0, { s with loc := fun j => if j = d then s.loc d ++ [.cells false cs] else s.loc j })
  | .box heap x =>
    if (s.ev x).good then
      let cs := (s.ev x).cells.map AV.view
      if heap then some (.ptr (.mem s.mem.length) 0, { s with mem := s.mem ++ [some (.cells false cs)] })
      else some (.ptr (.loc d (s.loc d).length) 0, { s with loc := fun j => if j = d then s.loc d ++ [.cells false cs] else s.loc j })
    else none
  | .load agg a => match s.ev a with
    | .vptr cs o => match part? agg cs o with
      | some v => some (v, s)
      | none => none
    | .ptr ix o => match objCells true (s.obj ix) with
      | some cs => match part? agg cs o with
        | some v => some (v, s)
        | none => none
      | none => none
    | _ => none
  | .loadO a => match s.ev a with
    | .ptr ix o => match objCells false (s.obj ix) with
      | some cs => match rawCell cs[o]? with
        | some v => some (v, s)
        | none => none
      | none => none
    | _ => none
  | .loadTake a => match s.ev a with
    | .ptr ix o => match objCells false (s.obj ix) with
      | some cs => match cs[o]? with
        | some (.vec (some z) nn xs) => some (.vec (some z) nn xs, s.setObj ix (.cells false (cs.set o (.vec none nn xs))))
        | some v => some (v, s)
        | none => none
      | none => none
    | _ => none
  | .store sz a x => match s.ev a with
    | .ptr ix o => match objCells false (s.obj ix) with
      | some cs =>
        let (v, s') := s.takeO x
        if v.cells.length = sz ∧ o + sz ≤ cs.length ∧ v.cells.all AV.one then
          match v with
          | .agg vs => some (.undef, s'.setObj ix (.cells false (putCells cs o (vs.map AV.view))))
          | v => some (.undef, s'.setObj ix (.cells false (cs.set o v)))
        else none
      | none => none
    | _ => none
  | .mkfn f caps => match capture (caps.map s.ev) s with
    | some (vs, s') => some (.fn f vs, s')
    | none => none
  | .slSl esz x lo hi mx => match s.ev x with
    | .vec _ nn xs => match slVec esz nn xs (optV s.ev lo (.int .i64 0)) (optV s.ev hi (.int .i64 xs.length)) (mx.map s.ev) with
      | some v => some (v, s)
      | none => none
    | .row ix off len =>
      match mx, optV s.ev lo (.int .i64 0), optV s.ev hi (.int .i64 len) with
      | none, .int _ l, .int _ h => if 0 ≤ l ∧ l ≤ h ∧ h ≤ len ∧ (l = 0 ∨ l < len) then some (.row ix (off + l.toNat * esz) (h.toNat - l.toNat), s) else none
      | _, _, _ => none
    | .orow z i len =>
      match mx, optV s.ev lo (.int .i64 0), optV s.ev hi (.int .i64 len) with
      | none, .int _ l, .int _ h => if l = 0 ∧ 0 ≤ h ∧ h ≤ len then some (.orow z i h.toNat, s) else none
      | _, _, _ => none
    | .zcap nn =>
      match mx, optV s.ev lo (.int .i64 0), optV s.ev hi (.int .i64 0) with
      | none, .int _ l, .int _ h => if l = 0 ∧ h = 0 then some (.zcap nn, s) else none
      | _, _, _ => none
    | _ => none
  | .appStr bytes a x => match s.ev x with
    | .str b => match appS bytes s.mem (s.ev a) b with
      | some (v, m) => some (v, { s with mem := m })
      | none => none
    | _ => none
  | .strOfM x => match s.ev x with
    | .row ix off len => match objCells true (s.obj ix) with
      | some cs => if off + len ≤ cs.length then match bytesV ((cs.drop off).take len) with
          | some bs => some (.str bs, s)
          | none => none
        else none
      | none => none
    | .vec _ _ xs => match bytesV xs with
      | some bs => some (.str bs, s)
      | none => none
    | _ => none
  | .bytesObj heap x => match s.ev x with
    | .str b =>
      let cs := b.map fun c => AV.int .u8 c.toNat
      if heap then some (.row (.mem s.mem.length) 0 b.length, { s with mem := s.mem ++ [some (.cells false cs)] })
      else some (.row (.loc d (s.loc d).length) 0 b.length, { s with loc := fun j => if j = d then s.loc d ++ [.cells false cs] else s.loc j })
    | _ => none
  | .append esz bytes a x =>
    match elems? esz (s.ev x) with
    | some ys =>
      let (v, s') := s.takeO a
      match v with
      | .vec (some z) nn xs =>
        if z = esz ∧ 0 < bytes ∧ (xs.length + ys.length) * bytes ≤ 140737488355328 then
          some (.vec (some esz) (nn || !ys.isEmpty) (xs ++ ys.map AV.view), s') else none
      | .vec none false xs =>
        if 0 < bytes ∧ (xs.length + ys.length) * bytes ≤ 140737488355328 then some (.vec (some esz) (!ys.isEmpty) (xs ++ ys.map AV.view), s') else none
      | _ => none
    | none => none
  | .mkslObj heap esz bytes zero l c => match s.ev l, s.ev c with
    | .int .i64 l, .int .i64 c =>
      if 0 ≤ l ∧ l ≤ c ∧ (bytes : Int) * c ≤ 2 ^ 47 ∧ c < 2 ^ 63 ∧ zero.cells.length = esz then
        let cs := (flat (List.replicate c.toNat zero)).map AV.view
        if heap then some (.row (.mem s.mem.length) 0 l.toNat, { s with mem := s.mem ++ [some (.cells false cs)] })
        else some (.row (.loc d (s.loc d).length) 0 l.toNat, { s with loc := fun j => if j = d then s.loc d ++ [.cells false cs] else s.loc j })
      else none
    | _, _ => none
  | .slZ x => match s.ev x with
    | .vec _ nn _ => some (.zcap nn, s)
    | _ => none
  | .appendRow esz bytes a x => match s.ev a, elems? esz (s.ev x) with
    | .zcap nn, some ys =>
      if ys.isEmpty then some (.vec none nn [], s)
      else if 0 < bytes ∧ ys.length * bytes ≤ 140737488355328 then
        some (.row (.mem s.mem.length) 0 ys.length, { s with mem := s.mem ++ [some (.cells false ((flat ys).map AV.view))] })
      else none
    | _, _ => none
  | .appendO esz bytes a x => match elems? esz (s.ev x) with
    | some ys => match appO esz bytes s.mem (s.ev a) ys with
      | some (v, m) => some (v, { s with mem := m })
      | none => none
    | none => none
  | .range x => match s.ev x with
    | .str b => some (.ptr (.loc d (s.loc d).length) 0, { s with loc := fun j => if j = d then s.loc d ++ [.iter b 0] else s.loc j })
    | _ => none
  | .next it => match s.ev it with
    | .ptr ix 0 => match s.obj ix with
      | some (.iter b pos) => match b[pos]? with
        | some c => if c < 128 then some (.tup [.bool true, .int .i64 pos, .int .i32 c.toNat], s.setObj ix (.iter b (pos + 1))) else none
        | none => some (.tup [.bool false], s)
      | _ => none
    | _ => none
  | .unsf k T n x y => match unsfV k T n s.mem (s.ev x) (s.ev y) with
    | some (v, m) => some (v, { s with mem := m })
    | none => none
  | .mkmap => some (.mapr s.mem.length, { s with mem := s.mem ++ [some (.mp [])] })
  | .minsert kd m k v => match s.ev m with
    | .mapr i => match s.obj (.mem i) with
      | some (.mp kvs) =>
        if (s.ev k).nl && (s.ev v).one then match mfind kd (s.ev k) kvs with
          | some none => some (.undef, s.setObj (.mem i) (.mp (kvs ++ [(s.ev k, (s.ev v).view)])))
          | some (some (j, _)) => some (.undef, s.setObj (.mem i) (.mp (kvs.set j (s.ev k, (s.ev v).view))))
          | none => none
        else none
      | _ => none
    | _ => none
  | .mlook kd z both m k => match s.ev m with
    | .nilmap => some (if both then .tup [z, .bool false] else z, s)
    | .mapr i => match s.obj (.mem i) with
      | some (.mp kvs) => match mfind kd (s.ev k) kvs with
        | some none => some (if both then .tup [z, .bool false] else z, s)
        | some (some (_, v)) => some (if both then .tup [v.view, .bool true] else v.view, s)
        | none => none
      | _ => none
    | _ => none
  | op => match pval s.ev op with
    | some v => some (v, s)
    | none => none

inductive VExit where
  | normal
  | exit (id : Nat)
  | ret

abbrev CallF := FuncId → List AV → Mem → Option (AV × Mem)

def St.put (s : St) (d : Option Nat) (v : AV) : St :=
  match d with
  | some d => s.set d v
  | none => s

/-! ### the same memory -/
mutual
def eqAV : AV → AV → Bool
  | .undef, .undef => true
  | .bool a, .bool b => a == b
  | .int k n, .int k' n' => decide (k = k') && decide (n = n')
  | .str a, .str b => decide (a = b)
  | .agg a, .agg b => eqAVs a b
  | .tup a, .tup b => eqAVs a b
  | .vec o n a, .vec o' n' b => decide (o = o') && n == n' && eqAVs a b
  | .row x i n, .row x' i' n' => decide (x = x') && decide (i = i') && decide (n = n')
  | .ptr x i, .ptr x' i' => decide (x = x') && decide (i = i')
  | .vptr a i, .vptr b i' => eqAVs a b && decide (i = i')
  | .nilptr, .nilptr => true
  | .fn f a, .fn g b => decide (f = g) && eqAVs a b
  | .nilfn, .nilfn => true
  | .iface t a, .iface t' b => decide (t = t') && eqAV a b
  | .zcap a, .zcap b => a == b
  | .orow z i n, .orow z' i' n' => decide (z = z') && decide (i = i') && decide (n = n')
  | .nilIface, .nilIface => true
  | .mapr i, .mapr i' => decide (i = i')
  | .nilmap, .nilmap => true
  | .typed k T n i l, .typed k' T' n' i' l' => decide (k = k') && decide (T = T') && decide (n = n') && decide (i = i') && decide (l = l')
  | _, _ => false
def eqAVs : List AV → List AV → Bool
  | [], [] => true
  | a :: r, b :: r' => eqAV a b && eqAVs r r'
  | _, _ => false
end
def eqObj : Option LObj → Option LObj → Bool
  | none, none => true
  | some (.cells f a), some (.cells g b) => f == g && eqAVs a b
  | some (.iter s p), some (.iter s' p') => decide (s = s') && decide (p = p')
  | some (.mp a), some (.mp b) => eqAVs (a.map (·.1)) (b.map (·.1)) && eqAVs (a.map (·.2)) (b.map (·.2))
  | _, _ => false
def eqMem : Mem → Mem → Bool
  | [], [] => true
  | a :: r, b :: r' => eqObj a b && eqMem r r'
  | _, _ => false
mutual
theorem eqAV_eq : ∀ (a b : AV), eqAV a b = true → a = b
  | .agg a, b, h => by cases b <;> simp [eqAV] at h; rw [eqAVs_eq a _ h]
  | .tup a, b, h => by cases b <;> simp [eqAV] at h; rw [eqAVs_eq a _ h]
  | .vec o n a, b, h => by cases b <;> simp [eqAV] at h; obtain ⟨⟨h1, h2⟩, h3⟩ := h; rw [h1, h2, eqAVs_eq a _ h3]
  | .vptr a i, b, h => by cases b <;> simp [eqAV] at h; rw [eqAVs_eq a _ h.1, h.2]
  | .fn f a, b, h => by cases b <;> simp [eqAV] at h; rw [h.1, eqAVs_eq a _ h.2]
  | .iface t a, b, h => by cases b <;> simp [eqAV] at h; rw [h.1, eqAV_eq a _ h.2]
  | .undef, b, h => by cases b <;> simp [eqAV] at h; rfl
  | .bool x, b, h => by cases b <;> simp [eqAV] at h; rw [h]
  | .int k n, b, h => by cases b <;> simp [eqAV] at h; rw [h.1, h.2]
  | .str s, b, h => by cases b <;> simp [eqAV] at h; rw [h]
  | .row x i n, b, h => by cases b <;> simp [eqAV] at h; rw [h.1.1, h.1.2, h.2]
  | .ptr x i, b, h => by cases b <;> simp [eqAV] at h; rw [h.1, h.2]
  | .nilptr, b, h => by cases b <;> simp [eqAV] at h; rfl
  | .nilfn, b, h => by cases b <;> simp [eqAV] at h; rfl
  | .zcap x, b, h => by cases b <;> simp [eqAV] at h; rw [h]
  | .orow z i n, b, h => by cases b <;> simp [eqAV] at h; rw [h.1.1, h.1.2, h.2]
  | .nilIface, b, h => by cases b <;> simp [eqAV] at h; rfl
  | .mapr i, b, h => by cases b <;> simp [eqAV] at h; rw [h]
  | .nilmap, b, h => by cases b <;> simp [eqAV] at h; rfl
  | .typed k T n i l, b, h => by cases b <;> simp [eqAV] at h; rw [h.1.1.1.1, h.1.1.1.2, h.1.1.2, h.1.2, h.2]
theorem eqAVs_eq : ∀ (a b : List AV), eqAVs a b = true → a = b
  | [], b, h => by cases b <;> simp [eqAVs] at h; rfl
  | x :: r, b, h => by
    cases b <;> simp [eqAVs] at h
    rw [eqAV_eq x _ h.1, eqAVs_eq r _ h.2]
end
mutual
theorem eqAV_refl : ∀ (a : AV), eqAV a a = true
  | .agg a => by simp [eqAV, eqAVs_refl a]
  | .tup a => by simp [eqAV, eqAVs_refl a]
  | .vec o n a => by simp [eqAV, eqAVs_refl a]
  | .vptr a i => by simp [eqAV, eqAVs_refl a]
  | .fn f a => by simp [eqAV, eqAVs_refl a]
  | .iface t a => by simp [eqAV, eqAV_refl a]
  | .undef => rfl
  | .bool _ => by simp [eqAV]
  | .int _ _ => by simp [eqAV]
  | .str _ => by simp [eqAV]
  | .row _ _ _ => by simp [eqAV]
  | .ptr _ _ => by simp [eqAV]
  | .nilptr => rfl
  | .nilfn => rfl
  | .zcap _ => by simp [eqAV]
  | .orow _ _ _ => by simp [eqAV]
  | .nilIface => rfl
  | .mapr _ => by simp [eqAV]
  | .nilmap => rfl
  | .typed _ _ _ _ _ => by simp [eqAV]
theorem eqAVs_refl : ∀ (a : List AV), eqAVs a a = true
  | [] => rfl
  | x :: r => by simp [eqAVs, eqAV_refl x, eqAVs_refl r]
end
theorem eqObj_refl : ∀ a : Option LObj, eqObj a a = true
  | none => rfl
  | some (.cells f a) => by simp [eqObj, eqAVs_refl a]
  | some (.iter s p) => by simp [eqObj]
  | some (.mp a) => by simp [eqObj, eqAVs_refl]
theorem eqMem_refl : ∀ a : Mem, eqMem a a = true
  | [] => rfl
  | a :: r => by simp [eqMem, eqObj_refl a, eqMem_refl r]
theorem pairs_eq {α β : Type} : ∀ (a b : List (α × β)), a.map (·.1) = b.map (·.1) → a.map (·.2) = b.map (·.2) → a = b
  | [], [], _, _ => rfl
  | [], _ :: _, h, _ => by simp at h
  | _ :: _, [], h, _ => by simp at h
  | x :: a, y :: b, h1, h2 => by
    simp only [List.map_cons, List.cons.injEq] at h1 h2
    rw [pairs_eq a b h1.2 h2.2, show x = y from Prod.ext h1.1 h2.1]
theorem eqObj_eq {a b : Option LObj} (h : eqObj a b = true) : a = b := by
  unfold eqObj at h
  split at h
  · rfl
  · simp at h; rw [h.1, eqAVs_eq _ _ h.2]
  · simp at h; rw [h.1, h.2]
  · simp only [Bool.and_eq_true] at h; rw [pairs_eq _ _ (eqAVs_eq _ _ h.1) (eqAVs_eq _ _ h.2)]
  · simp at h
theorem eqMem_eq : ∀ {a b : Mem}, eqMem a b = true → a = b
  | [], [], _ => rfl
  | [], _ :: _, h => by simp [eqMem] at h
  | _ :: _, [], h => by simp [eqMem] at h
  | a :: r, b :: r', h => by
    simp [eqMem] at h
    rw [eqObj_eq h.1, eqMem_eq h.2]

/-- One operation, calls too. -/
def step (C : CallF) (i : VI) (s : St) : Option St :=
  match i.op with
  | .call f args => match s.ev f with
    | .fn (.func g) caps =>
      if (args.all fun x => (s.ev x).nl) then
        match C g ((args.map fun x => (s.ev x).view) ++ caps.map AV.view) s.mem with
        | some (v, m) => some (({ s with mem := m } : St).put i.dst v)
        | none => none
      else none
    | _ => none
  | .callP f args => match s.ev f with
    | .fn (.func g) caps =>
      if (args.all fun x => (s.ev x).nl) then
        match C g ((args.map fun x => (s.ev x).view) ++ caps.map AV.view) [] with
        | some (v, []) => some (s.put i.dst v)
        | _ => none
      else none
    | _ => none
  | .callR f args => match s.ev f with
    | .fn (.func g) caps =>
      if (args.all fun x => (s.ev x).nl) then
        match C g ((args.map fun x => (s.ev x).view) ++ caps.map AV.view) s.mem with
        | some (v, m) => if eqMem m s.mem then some (s.put i.dst v) else none
        | none => none
      else none
    | _ => none
  | .callO f args => match s.ev f with
    | .fn (.func g) caps =>
      if (args.all fun x => (s.ev x).nl) then
        match C g ((args.map fun x => (s.ev x).pass) ++ caps.map AV.view) s.mem with
        | some (v, m) => some (({ s with mem := m } : St).put i.dst v)
        | none => none
      else none
    | _ => none
  | op => match exec (i.dst.getD 0) op s with
    | some (v, s') => some (s'.put i.dst v)
    | none => none

/-- What a guard's slot says; an operation that was skipped left nothing. -/
def guardB (want : Bool) : AV → Option Bool
  | .bool b => some b
  | .tup [] => some !want
  | _ => none

/-- One operation with its guard. -/
def one (C : CallF) (i : VI) (s : St) : Option St :=
  match i.guard with
  | none => step C i s
  | some (j, want) => match guardB want (s.get j) with
    | some b => if b = want then step C i s else some (s.put i.dst (.tup []))
    | none => none

def runOps (C : CallF) : List VI → St → Option St
  | [], s => some s
  | i :: rest, s => match one C i s with
    | some s' => runOps C rest s'
    | none => none

def loopN (body : St → Option (VExit × St)) : Nat → St → Option (VExit × St)
  | 0, _ => none
  | n + 1, s => match body s with
    | some (.normal, s') => loopN body n s'
    | r => r

/-- Two addresses that lie in different objects; of an operation that was skipped there is nothing to say. -/
def apart : AV → AV → Bool
  | .ptr x _, .ptr y _ => decide (x ≠ y)
  | .ptr x _, .orow _ i _ => decide (x ≠ .mem i)
  | .ptr _ _, .vec _ _ _ => true
  | .ptr (.loc _ _) _, .nilfn => true
  | .vptr _ _, _ => true
  | _, .vptr _ _ => true
  | .tup [], _ => true
  | _, .tup [] => true
  | _, _ => false

/-- Two addresses of different cells. -/
def apartC : AV → AV → Bool
  | .ptr x o, .ptr y o' => decide (x ≠ y ∨ o ≠ o')
  | a, b => apart a b

def allApart (s : St) (ch : List (Bool × VO × VO)) : Bool := ch.all fun p => if p.1 then apartC (s.ev p.2.1) (s.ev p.2.2) else apart (s.ev p.2.1) (s.ev p.2.2)

/-- Functions of Go's library that are met by their contracts. 1: FormatInt at base 10; 1000 + T: ParseInt at base 10, 64 bits; T: the error's type. -/
def natV : Nat → List AV → Option (List AV)
  | 1, [.int .i64 n, .int .i64 b] => if b = 10 ∧ -9223372036854775808 ≤ n ∧ n ≤ 9223372036854775807 then some [.str (Lib.itoa n)] else none
  | k, [.str s, .int .i64 b, .int .i64 c] => if 1000 ≤ k ∧ b = 10 ∧ c = 64 ∧ s.length ≤ 281474976710656 then
      (match Lib.parseIntB 64 s with
      | .ok v => some [.int .i64 v, .nilIface]
      | .syntax => some [.int .i64 0, .iface (k - 1000) .undef]
      | .range => some [.int .i64 (Lib.intSat 64 s), .iface (k - 1000) .undef]) else none
  | _, _ => none
def natSt (vs : List AV) (m : Mem) : St := { tmp := fun j => vs.getD j .undef, loc := fun _ => [], mem := m }

def run (C : CallF) (n : Nat) : VC → St → Option (VExit × St)
  | .skip, s => some (.normal, s)
  | .region ops, s => match runOps C ops s with
    | some s' => some (.normal, s')
    | none => none
  | .drawn ops ch, s => match runOps C ops s with
    | some s' => if allApart s' ch then some (.normal, s') else none
    | none => none
  | .seq a b, s => match run C n a s with
    | some (.normal, s') => run C n b s'
    | r => r
  | .cond c a b, s => match s.ev c with
    | .bool true => run C n a s
    | .bool false => run C n b s
    | _ => none
  | .block id b, s => match run C n b s with
    | some (.exit i, s') => if i = id then some (.normal, s') else some (.exit i, s')
    | r => r
  | .loop b, s => loopN (run C n b) n s
  | .exit id, s => some (.exit id, s)
  | .ret, s => some (.ret, s)
  | .native k p, s => match natV k ((List.range p).map s.get) with
    | some vs => some (.normal, natSt vs s.mem)
    | none => none

def St.init (args : List AV) (m : Mem) : St := { tmp := fun j => args.getD j .undef, loc := fun _ => [], mem := m }

def resOf (s : St) : VRes → Option AV
  | .tmp t => if (s.get t).nl then some (s.get t).view else none
  | .tmpO t => if (s.get t).nl then some (s.get t).pass else none
  | .cell t agg => match s.get t with
    | .ptr ix o => match objCells true (s.obj ix) with
      | some cs => part? agg cs o
      | none => none
    | _ => none

def resList (s : St) : List VRes → Option (List AV)
  | [] => some []
  | r :: rest => match resOf s r, resList s rest with
    | some v, some vs => some (v :: vs)
    | _, _ => none

def result (s : St) (rs : List VRes) : Option AV :=
  match resList s rs with
  | some [v] => some v
  | some vs => some (.tup vs)
  | none => none

def callN (T : FuncId → Option VF) : Nat → CallF
  | 0, _, _, _ => none
  | n + 1, f, args, m =>
    match T f with
    | none => none
    | some vf =>
      if args.length = vf.nparams then
        match run (callN T n) n vf.body (St.init args m) with
        | some (.normal, s) => match result s vf.results with
          | some v => some (v, s.mem)
          | none => none
        | some (.ret, s) => match result s vf.results with
          | some v => some (v, s.mem)
          | none => none
        | _ => none
      else none

end Go.Vm
