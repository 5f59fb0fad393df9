/- A small machine and its soundness, part VB. -/
import Derived.Test.YtmlfcgmiaapffaaGreatDoorVA
import Derived.Laws.World
import GoSem.ClaimSevenParts
import Derived.Lib.LaidTab
import Derived.Laws.Entries
import Derived.Laws.Build
import Derived.Laws.Cells
import Derived.Laws.Append
import Derived.Laws.MakeOwn
import Derived.Laws.Slices
import Derived.Laws.Strings
import Derived.Laws.StructEq
import Derived.Laws.Small
import Derived.Laws.Pointers
import Derived.Laws.BytesString
import Derived.Laws.Cover1
import Derived.Laws.Concat
import Derived.Laws.IdiomStrings
import Derived.Laws.Panics
import Derived.Laws.AppendOwn
import Derived.Laws.BytesArg
import Derived.Laws.Tables
import Derived.Laws.Externs
import Derived.Lib.Bytealg
/- What a value of the model stands for, and what is kept of memory. -/
namespace Go.Vm

/-- Who may write behind a block's stable cells. -/
inductive Owner where
  | ext
  | obj (x : Ix)
  | slot (t : Nat)
  | cell (x : Ix) (j : Nat)
  | air
  deriving DecidableEq

abbrev Roles := Nat → Owner × Option Nat

def stable (r : Roles) (b o : Nat) : Prop :=
  match (r b).2 with
  | none => True
  | some n => o < n

structure Gh where
  role : Roles
  mb : Nat → Option Nat
  lb : Nat → Nat → Option Nat

def Gh.at (G : Gh) : Ix → Option Nat
  | .loc t k => G.lb t k
  | .mem i => G.mb i

/-- A value stands for an abstract one. -/
inductive Rep (G : Gh) (w : World) : AV → Value → Prop where
  | undef (v : Value) : Rep G w .undef v
  | bool (b : Bool) : Rep G w (.bool b) (.bool b)
  | int (k : IntKind) (n : Int) : Rep G w (.int k n) (.int k n)
  | str (s : ByteArray) : Rep G w (.str s.data.toList) (.string s)
  | agg (cs : List AV) (vs : Array Value) (hl : cs.length = vs.size)
      (h : ∀ (i : Nat) (h1 : i < cs.length) (h2 : i < vs.size), Rep G w cs[i] vs[i]) : Rep G w (.agg cs) (.agg vs)
  | tup (cs : List AV) (vs : Array Value) (hl : cs.length = vs.size)
      (h : ∀ (i : Nat) (h1 : i < cs.length) (h2 : i < vs.size), Rep G w cs[i] vs[i]) : Rep G w (.tup cs) (.tuple vs)
  | nilvec (o : Option Nat) : Rep G w (.vec o false []) (.slice none 0 0)
  | vec (o : Option Nat) (xs : List AV) (b off cap st : Nat) (vals : Nat → Value) (hcap : xs.length ≤ cap)
      (hst : ∀ x ∈ xs, x.cells.length = st)
      (hc : ∀ j, j < (flat xs).length → stable G.role b (off + j) ∧ w.cell? ⟨b, off + j, none⟩ = some (vals j))
      (h : ∀ (j : Nat) (hj : j < (flat xs).length), Rep G w (flat xs)[j] (vals j)) :
      Rep G w (.vec o true xs) (.slice (some ⟨b, off, none⟩) xs.length cap)
  | row (i off len b cap : Nat) (hb : G.mb i = some b) (hcap : len ≤ cap) : Rep G w (.row (.mem i) off len) (.slice (some ⟨b, off, none⟩) len cap)
  | ptr (i off b : Nat) (hb : G.mb i = some b) : Rep G w (.ptr (.mem i) off) (.pointer (some ⟨b, off, none⟩))
  | vptr (cs : List AV) (off b o : Nat) (vals : Nat → Value)
      (hc : ∀ j, j < cs.length → stable G.role b (o + j) ∧ w.cell? ⟨b, o + j, none⟩ = some (vals j))
      (h : ∀ (j : Nat) (hj : j < cs.length), Rep G w cs[j] (vals j)) : Rep G w (.vptr cs off) (.pointer (some ⟨b, o + off, none⟩))
  | nilptr : Rep G w .nilptr (.pointer none)
  | fn (f : Fn) (cs : List AV) (vs : Array Value) (hl : cs.length = vs.size)
      (h : ∀ (i : Nat) (h1 : i < cs.length) (h2 : i < vs.size), Rep G w cs[i] vs[i]) : Rep G w (.fn f cs) (.func f #[] vs)
  | nilfn : Rep G w .nilfn .nilFunc
  | iface (t : TypeId) (a : AV) (v : Value) (h : Rep G w a v) : Rep G w (.iface t a) (.iface t v)
  | nilIface : Rep G w .nilIface .nilIface
  | zcapNil : Rep G w (.zcap false) (.slice none 0 0)
  | evec (o : Option Nat) (a : Addr) : Rep G w (.vec o true []) (.slice (some a) 0 0)
  | zcap (a : Addr) : Rep G w (.zcap true) (.slice (some a) 0 0)
  | orow (z i len b cap : Nat) (hb : G.mb i = some b) (hcap : len ≤ cap) (hx : ∀ k, k < cap * z → ∃ u, w.cell? ⟨b, k, none⟩ = some u) : Rep G w (.orow z i len) (.slice (some ⟨b, 0, none⟩) len cap)
  | mapr (i b : Nat) (hb : G.mb i = some b) : Rep G w (.mapr i) (.map (some b))
  | nilmap : Rep G w .nilmap (.map none)
  | tnil (T n i l b : Nat) (hb : G.mb i = some b) (hs : w.shape? b = some (T, n)) : Rep G w (.typed 0 T n i l) (.pointer none)
  | trow (T n i len b cap m : Nat) (hb : G.mb i = some b) (hcap : len ≤ cap) (hs : w.shape? b = some (T, m)) (hm : cap ≤ m) : Rep G w (.typed 1 T n i len) (.slice (some ⟨b, 0, none⟩) len cap)
  | tptr (T n i l b m : Nat) (hb : G.mb i = some b) (hs : w.shape? b = some (T, m)) : Rep G w (.typed 2 T n i l) (.pointer (some ⟨b, 0, none⟩))

/-- What a slot holds: that, or an address of the call's own. -/
inductive RepT (G : Gh) (w : World) : AV → Value → Prop where
  | of {a : AV} {v : Value} (h : Rep G w a v) : RepT G w a v
  | lptr (t k off b : Nat) (hb : G.lb t k = some b) : RepT G w (.ptr (.loc t k) off) (.pointer (some ⟨b, off, none⟩))
  | lrow (t k off len b cap : Nat) (hb : G.lb t k = some b) (hcap : len ≤ cap) : RepT G w (.row (.loc t k) off len) (.slice (some ⟨b, off, none⟩) len cap)

/-- What is known of memory stays. -/
structure Le (G : Gh) (w : World) (G' : Gh) (w' : World) : Prop where
  cell : ∀ b o u, stable G.role b o → w.cell? ⟨b, o, none⟩ = some u → stable G'.role b o ∧ w'.cell? ⟨b, o, none⟩ = some u
  mb : ∀ i b, G.mb i = some b → G'.mb i = some b
  shp : ∀ b t, w.shape? b = some t → w'.shape? b = some t

theorem shape_cell {w : World} {b o : Nat} : (∃ u, w.cell? ⟨b, o, none⟩ = some u) ↔ ∃ T n, w.shape? b = some (T, n) ∧ o < n := by
  unfold World.cell? World.shape?
  cases h : w.heap[b]? with
  | none => simp
  | some x =>
    cases x with
    | cells cs T fr =>
      simp only []
      constructor
      · rintro ⟨u, hu⟩
        exact ⟨T, cs.size, rfl, (Array.getElem?_eq_some_iff.1 hu).1⟩
      · rintro ⟨T', n, e, hn⟩
        simp only [Option.some.injEq, Prod.mk.injEq] at e
        obtain ⟨rfl, rfl⟩ := e
        exact ⟨cs[o], Array.getElem?_eq_getElem hn⟩
    | _ => simp
theorem Le.ex {G : Gh} {w : World} {G' : Gh} {w' : World} (l : Le G w G' w') (b o : Nat) (h : ∃ u, w.cell? ⟨b, o, none⟩ = some u) : ∃ u, w'.cell? ⟨b, o, none⟩ = some u := by
  obtain ⟨T, n, h1, h2⟩ := shape_cell.1 h
  exact shape_cell.2 ⟨T, n, l.shp b _ h1, h2⟩

theorem Le.refl (G : Gh) (w : World) : Le G w G w := ⟨fun _ _ _ h h' => ⟨h, h'⟩, fun _ _ h => h, fun _ _ h => h⟩
theorem Le.trans {G G' G'' : Gh} {w w' w'' : World} (h : Le G w G' w') (h' : Le G' w' G'' w'') : Le G w G'' w'' :=
  ⟨fun b o u s c => let ⟨s', c'⟩ := h.cell b o u s c; h'.cell b o u s' c', fun i b e => h'.mb i b (h.mb i b e), fun b t e => h'.shp b t (h.shp b t e)⟩

theorem Rep.mono {G G' : Gh} {w w' : World} (l : Le G w G' w') {a : AV} {v : Value} (h : Rep G w a v) : Rep G' w' a v := by
  induction h with
  | undef v => exact .undef v
  | bool b => exact .bool b
  | int k n => exact .int k n
  | str s => exact .str s
  | agg cs vs hl _ ih => exact .agg cs vs hl ih
  | tup cs vs hl _ ih => exact .tup cs vs hl ih
  | nilvec o => exact .nilvec o
  | vec o xs b off cap st vals hcap hst hc _ ih =>
    exact .vec o xs b off cap st vals hcap hst (fun j hj => l.cell _ _ _ (hc j hj).1 (hc j hj).2) ih
  | row i off len b cap hb hcap => exact .row i off len b cap (l.mb _ _ hb) hcap
  | ptr i off b hb => exact .ptr i off b (l.mb _ _ hb)
  | vptr cs off b o vals hc _ ih => exact .vptr cs off b o vals (fun j hj => l.cell _ _ _ (hc j hj).1 (hc j hj).2) ih
  | nilptr => exact .nilptr
  | fn f cs vs hl _ ih => exact .fn f cs vs hl ih
  | nilfn => exact .nilfn
  | iface t a v _ ih => exact .iface t a v ih
  | nilIface => exact .nilIface
  | zcapNil => exact .zcapNil
  | evec o a => exact .evec _ a
  | zcap a => exact .zcap a
  | orow z i len b cap hb hcap hx => exact .orow z i len b cap (l.mb _ _ hb) hcap fun k hk => l.ex _ _ (hx k hk)
  | mapr i b hb => exact .mapr i b (l.mb _ _ hb)
  | nilmap => exact .nilmap
  | tnil T n i l' b hb hs => exact .tnil T n i l' b (l.mb _ _ hb) (l.shp _ _ hs)
  | trow T n i len b cap m hb hcap hs hm => exact .trow T n i len b cap m (l.mb _ _ hb) hcap (l.shp _ _ hs) hm
  | tptr T n i l' b m hb hs => exact .tptr T n i l' b m (l.mb _ _ hb) (l.shp _ _ hs)

theorem RepT.mono {G G' : Gh} {w w' : World} (l : Le G w G' w') (hl : ∀ t k b, G.lb t k = some b → G'.lb t k = some b) {a : AV} {v : Value} (h : RepT G w a v) : RepT G' w' a v := by
  cases h with
  | of h => exact .of (h.mono l)
  | lptr t k off b hb => exact .lptr t k off b (hl _ _ _ hb)
  | lrow t k off len b cap hb hc => exact .lrow t k off len b cap (hl _ _ _ hb) hc

theorem RepT.nl {G : Gh} {w : World} {a : AV} {v : Value} (h : RepT G w a v) (hn : a.nl = true) : Rep G w a v := by
  cases h with
  | of h => exact h
  | lptr => simp [AV.nl] at hn
  | lrow => simp [AV.nl] at hn

theorem Rep.nl {G : Gh} {w : World} {a : AV} {v : Value} (h : Rep G w a v) : a.nl = true := by
  cases h <;> rfl

theorem Rep.view {G : Gh} {w : World} {a : AV} {v : Value} (h : Rep G w a v) : Rep G w a.view v := by
  cases h with
  | nilvec o => exact .nilvec none
  | vec o xs b off cap st vals hcap hst hc h => exact .vec none xs b off cap st vals hcap hst hc h
  | undef v => exact .undef v
  | bool b => exact .bool b
  | int k n => exact .int k n
  | str s => exact .str s
  | agg cs vs hl h => exact .agg cs vs hl h
  | tup cs vs hl h => exact .tup cs vs hl h
  | row i off len b cap hb hcap => exact .row i off len b cap hb hcap
  | ptr i off b hb => exact .ptr i off b hb
  | vptr cs off b o vals hc h => exact .vptr cs off b o vals hc h
  | nilptr => exact .nilptr
  | fn f cs vs hl h => exact .fn f cs vs hl h
  | nilfn => exact .nilfn
  | iface t a v h => exact .iface t a v h
  | nilIface => exact .nilIface
  | zcapNil => exact .zcapNil
  | evec o a => exact .evec _ a
  | zcap a => exact .zcap a
  | orow z i len b cap hb hcap hx => exact .row i 0 len b cap hb hcap
  | mapr i b hb => exact .mapr i b hb
  | nilmap => exact .nilmap
  | tnil T n i l b hb hs => exact .tnil T n i l b hb hs
  | trow T n i len b cap m hb hcap hs hm => exact .trow T n i len b cap m hb hcap hs hm
  | tptr T n i l b m hb hs => exact .tptr T n i l b m hb hs

theorem Rep.pass {G : Gh} {w : World} {a : AV} {v : Value} (h : Rep G w a v) : Rep G w a.pass v := by
  cases h with
  | nilvec o => exact .nilvec none
  | vec o xs b off cap st vals hcap hst hc h => exact .vec none xs b off cap st vals hcap hst hc h
  | evec o a => exact .evec _ a
  | undef v => exact .undef v
  | bool b => exact .bool b
  | int k n => exact .int k n
  | str s => exact .str s
  | agg cs vs hl h => exact .agg cs vs hl h
  | tup cs vs hl h => exact .tup cs vs hl h
  | row i off len b cap hb hcap => exact .row i off len b cap hb hcap
  | ptr i off b hb => exact .ptr i off b hb
  | vptr cs off b o vals hc h => exact .vptr cs off b o vals hc h
  | nilptr => exact .nilptr
  | fn f cs vs hl h => exact .fn f cs vs hl h
  | nilfn => exact .nilfn
  | iface t a v h => exact .iface t a v h
  | nilIface => exact .nilIface
  | zcapNil => exact .zcapNil
  | zcap a => exact .zcap a
  | orow z i len b cap hb hcap hx => exact .orow z i len b cap hb hcap hx
  | mapr i b hb => exact .mapr i b hb
  | nilmap => exact .nilmap
  | tnil T n i l b hb hs => exact .tnil T n i l b hb hs
  | trow T n i len b cap m hb hcap hs hm => exact .trow T n i len b cap m hb hcap hs hm
  | tptr T n i l b m hb hs => exact .tptr T n i l b m hb hs

theorem RepT.view {G : Gh} {w : World} {a : AV} {v : Value} (h : RepT G w a v) : RepT G w a.view v := by
  cases h with
  | of h => exact .of h.view
  | lptr t k off b hb => exact .lptr t k off b hb
  | lrow t k off len b cap hb hc => exact .lrow t k off len b cap hb hc

/-- The right to append, held by o. -/
def OwnAt (G : Gh) (w : World) (o : Owner) (a : AV) (v : Value) : Prop :=
  ∀ z nn xs, a = .vec (some z) nn xs → (∀ x ∈ xs, x.cells.length = z) ∧
    ∀ b off len cap, v = .slice (some ⟨b, off, none⟩) len cap → len = cap ∨
      (b < w.heap.size ∧ G.role b = (o, some (off + (flat xs).length)) ∧
        ∀ k, off + (flat xs).length ≤ k → k < off + cap * z → (∃ u, w.cell? ⟨b, k, none⟩ = some u) ∧ w.frozen? ⟨b, k, none⟩ = false)

theorem OwnAt.view {G : Gh} {w : World} {o : Owner} {a : AV} {v : Value} : OwnAt G w o a.view v := by
  intro z nn xs e
  cases a <;> simp [AV.view] at e

theorem OwnAt.of_not {G : Gh} {w : World} {o : Owner} {a : AV} {v : Value} (h : ∀ z nn xs, a ≠ .vec (some z) nn xs) : OwnAt G w o a v :=
  fun z nn xs e => absurd e (h z nn xs)

/-- None of the first n cells is frozen. -/
def FrOk (fr : Nat × Nat) (n : Nat) : Prop := fr = (0, 0) ∨ n ≤ fr.1

/-- The cells of a block stand for a list. -/
def ObjAt (G : Gh) (w : World) (x : Ix) (b : Nat) : LObj → Prop
  | .cells false cs => G.role b = (.obj x, some 0) ∧ ∃ arr T fr, w.heap[b]? = some (.cells arr T fr) ∧ FrOk fr arr.size ∧ cs.length ≤ arr.size ∧
      ∀ (j : Nat) (h1 : j < cs.length) (h2 : j < arr.size), Rep G w cs[j] arr[j] ∧ OwnAt G w (.cell x j) cs[j] arr[j]
  | .cells true cs => ∃ vals : Nat → Value, ∀ (j : Nat) (h : j < cs.length), stable G.role b j ∧ w.cell? ⟨b, j, none⟩ = some (vals j) ∧ Rep G w cs[j] (vals j)
  | .iter s pos => G.role b = (.obj x, some 0) ∧ w.heap[b]? = some (.stringIter ⟨s.toArray⟩ pos)
  | .mp kvs => G.role b = (.obj x, some 0) ∧ ∃ es n, w.heap[b]? = some (.map es n) ∧ es.size = kvs.length ∧ ∀ (j : Nat) (h1 : j < kvs.length) (h2 : j < es.size), Rep G w kvs[j].1 es[j].key ∧ Rep G w kvs[j].2 es[j].val

/-- What some package-level tables of Go's library hold. -/
def tabZ (n : String) : Option (IntKind × List Int) :=
  if n = "math/bits.deBruijn64tab" then some (.u8, [0, 1, 56, 2, 57, 49, 28, 3, 61, 58, 42, 50, 38, 29, 17, 4, 62, 47, 59, 36, 45, 43, 51, 22, 53, 39, 33, 30, 24, 18, 12, 5, 63, 55, 48, 27, 60, 41, 37, 16, 46, 35, 44, 21, 52, 32, 23, 11, 54, 26, 40, 15, 34, 20, 31, 10, 25, 14, 19, 9, 13, 8, 7, 6])
  else if n = "internal/strconv.uint64pow10" then some (.u64, [1, 10, 100, 1000, 10000, 100000, 1000000, 10000000, 100000000, 1000000000, 10000000000, 100000000000, 1000000000000, 10000000000000, 100000000000000, 1000000000000000, 10000000000000000, 100000000000000000, 1000000000000000000, 10000000000000000000])
  else none
def tabOf (n : String) : Option (List AV) := match tabZ n with
  | some (k, zs) => some (zs.map (AV.int k))
  | none => none
/-- Two errors of Go's library that lie in package-level variables. -/
def errVar (n : String) : Bool := decide (n = "strconv.ErrRange") || decide (n = "strconv.ErrSyntax")
def GT (P : Program) (g : Nat) : Option (List AV) := match P.globals[g]? with
  | some gl => tabOf gl.name
  | none => none

/-- What some package-level variables hold. -/
def gxName (n : String) : Bool := decide (n = "internal/strconv.uint64pow10") || errVar n
def XW (P : Program) (w : World) : Prop := (∀ g, P.globalNamed "internal/strconv.uint64pow10" = some g → Lib.TabIs P w "internal/strconv.uint64pow10" .u64 Lib.pow10Tab) ∧
  ∀ n, errVar n = true → ∀ g, P.globalNamed n = some g → ∃ u v, w.cell? ⟨g, 0, none⟩ = some (.iface u v)
structure GlobF (P : Program) (G : Gh) (w : World) : Prop where
  tab : ∀ g cs, GT P g = some cs → Rep G w (.vptr cs 0) (.pointer (some ⟨g, 0, none⟩))
  low : ∀ n g, gxName n = true → P.globalNamed n = some g → (G.role g).1 = .ext ∧ g < w.heap.size
  xw : XW P w
theorem XW.same {P : Program} {w w' : World} (h : XW P w) (hs : ∀ n g, gxName n = true → P.globalNamed n = some g → w'.heap[g]? = w.heap[g]?) : XW P w' := by
  refine ⟨fun g hg => ?_, fun n hn g hg => ?_⟩
  · have h1 := h.1 g hg
    have h2 := hs _ g rfl hg
    unfold Lib.TabIs World.var? at h1 ⊢
    rw [hg] at h1 ⊢
    simp only [Option.bind_some] at h1 ⊢
    rw [h2]; exact h1
  · obtain ⟨u, v, e⟩ := h.2 n hn g hg
    have h2 := hs n g (by unfold gxName; rw [hn]; simp) hg
    refine ⟨u, v, ?_⟩
    unfold World.cell? at e ⊢
    simp only at e ⊢
    rw [h2]; exact e

structure Inv (P : Program) (G0 : Gh) (w0 : World) (G : Gh) (w : World) (s : St) (tv : Nat → Value) : Prop where
  os : w.os = w0.os
  tape : w.tape = w0.tape
  output : w.output = w0.output
  size : w0.heap.size ≤ w.heap.size
  tmp : ∀ t, RepT G w (s.tmp t) (tv t)
  own : ∀ t, OwnAt G w (.slot t) (s.tmp t) (tv t)
  obj : ∀ x o, s.obj x = some o → ∃ b, G.at x = some b ∧ b < w.heap.size ∧ ObjAt G w x b o
  ext : ∀ b, b < w0.heap.size → (G0.role b).1 = .ext → w.heap[b]? = w0.heap[b]? ∧ G.role b = G0.role b
  le : Le G0 w0 G w
  mlen : ∀ i, s.mem.length ≤ i → G.mb i = none
  llen : ∀ t k, (s.loc t).length ≤ k → G.lb t k = none
  glob : GlobF P G0 w0

end Go.Vm
/- From the model's operations to the small ones, and the pure ones' soundness. -/
namespace Go.Vm

/-! ### constants -/

def AV.ofScalar : Value → Option AV
  | .bool b => some (.bool b)
  | .int k n => some (.int k n)
  | .string s => some (.str s.data.toList)
  | .pointer none => some .nilptr
  | .slice none 0 0 => some (.vec none false [])
  | .nilFunc => some .nilfn
  | .nilIface => some .nilIface
  | .map none => some .nilmap
  | _ => none

def ofCells : List Value → Option (List AV)
  | [] => some []
  | v :: rest => match AV.ofScalar v, ofCells rest with
    | some a, some as => some (a :: as)
    | _, _ => none

def AV.ofValue : Value → Option AV
  | .agg cs => match ofCells cs.toList with
    | some as => some (.agg as)
    | none => none
  | v => AV.ofScalar v

theorem Rep.ofScalar (G : Gh) (w : World) {v : Value} {a : AV} (h : AV.ofScalar v = some a) : Rep G w a v := by
  unfold AV.ofScalar at h
  split at h <;> simp at h <;> subst h
  · exact .bool _
  · exact .int _ _
  · exact .str _
  · exact .nilptr
  · exact .nilvec _
  · exact .nilfn
  · exact .nilIface
  · exact .nilmap

theorem ofCells_len : ∀ {vs : List Value} {as : List AV}, ofCells vs = some as → as.length = vs.length
  | [], as, h => by simp [ofCells] at h; subst h; rfl
  | v :: rest, as, h => by
    simp only [ofCells] at h
    split at h
    · rename_i a as' h1 h2
      simp at h; subst h
      simp [ofCells_len h2]
    · simp at h

theorem Rep.ofCells (G : Gh) (w : World) : ∀ {vs : List Value} {as : List AV}, ofCells vs = some as →
    ∀ (i : Nat) (h1 : i < as.length) (h2 : i < vs.length), Rep G w as[i] vs[i]
  | [], as, h, i, h1, h2 => by simp at h2
  | v :: rest, as, h, i, h1, h2 => by
    simp only [Vm.ofCells] at h
    split at h
    · rename_i a as' ha hr
      simp at h; subst h
      cases i with
      | zero => exact Rep.ofScalar G w ha
      | succ i => exact Rep.ofCells G w hr i (by simpa using h1) (by simpa using h2)
    · simp at h

theorem Rep.ofValue (G : Gh) (w : World) {v : Value} {a : AV} (h : AV.ofValue v = some a) : Rep G w a v := by
  unfold AV.ofValue at h
  split at h
  · rename_i cs
    split at h
    · rename_i as hc
      simp at h; subst h
      refine .agg as cs (by simpa using ofCells_len hc) fun i h1 h2 => ?_
      have := Rep.ofCells G w hc i h1 (by simpa using h2)
      simpa using this
    · simp at h
  · exact Rep.ofScalar G w h

def isSingle : Value → Bool
  | .agg _ => false
  | _ => true

theorem cells_len_of_rep {G : Gh} {w : World} {a : AV} {v : Value} (h : Rep G w a v) (hu : a ≠ .undef) : a.cells.length = v.cells.size := by
  cases h <;> first | rfl | (exact absurd rfl hu) | (rename_i hl _; exact hl)

/-! ### operands -/

def trO (P : Program) : Operand → Option VO
  | .tmp t => some (.t t)
  | .const v => match AV.ofValue v with
    | some a => some (.k a)
    | none => none
  | .func f => some (.k (.fn (.func f) []))
  | .global g => match GT P g with
    | some cs => some (.k (.vptr cs 0))
    | none => none

/-- The operands stand for the abstract ones. -/
def OkEv (P : Program) (G : Gh) (w : World) (ev : VO → AV) (ρ : Operand → Value) : Prop := ∀ x y, trO P x = some y → RepT G w (ev y) (ρ x)

theorem okEv_of {P : Program} {G0 : Gh} {w0 : World} {G : Gh} {w : World} {s : St} {a : Act} (h : Inv P G0 w0 G w s (fun t => a.tmps.getD t undef)) : OkEv P G w s.ev a.eval := by
  intro x y e
  cases x with
  | tmp t => simp [trO] at e; subst e; exact h.tmp t
  | const v =>
    simp only [trO] at e
    split at e
    · rename_i av hv
      simp at e; subst e
      exact .of (Rep.ofValue G w hv)
    · simp at e
  | func f => simp [trO] at e; subst e; exact .of (.fn _ [] #[] rfl (fun i h1 h2 => absurd h1 (by simp)))
  | global g =>
    simp only [trO] at e
    split at e
    · rename_i cs hg
      simp at e; subst e
      exact .of ((h.glob.tab g cs hg).mono h.le)
    · simp at e

/-- New blocks, nothing else. -/
structure Grow (G : Gh) (w : World) (G' : Gh) (w' : World) : Prop where
  os : w'.os = w.os
  tape : w'.tape = w.tape
  output : w'.output = w.output
  size : w.heap.size ≤ w'.heap.size
  old : ∀ b, b < w.heap.size → w'.heap[b]? = w.heap[b]? ∧ G'.role b = G.role b
  mb : G'.mb = G.mb
  lb : G'.lb = G.lb

theorem Grow.refl (G : Gh) (w : World) : Grow G w G w := ⟨rfl, rfl, rfl, Nat.le_refl _, fun _ _ => ⟨rfl, rfl⟩, rfl, rfl⟩

theorem cell?_of_heap {w w' : World} {b o : Nat} (h : w'.heap[b]? = w.heap[b]?) : w'.cell? ⟨b, o, none⟩ = w.cell? ⟨b, o, none⟩ := by
  simp [World.cell?, h]
theorem frozen?_of_heap {w w' : World} {b o : Nat} (h : w'.heap[b]? = w.heap[b]?) : w'.frozen? ⟨b, o, none⟩ = w.frozen? ⟨b, o, none⟩ := by
  simp [World.frozen?, h]
theorem shape?_of_heap {w w' : World} {b : Nat} (h : w'.heap[b]? = w.heap[b]?) : w'.shape? b = w.shape? b := by
  simp [World.shape?, h]
theorem lt_of_shape {w : World} {b : Nat} {t : TypeId × Nat} (h : w.shape? b = some t) : b < w.heap.size := by
  unfold World.shape? at h
  split at h
  · rename_i c T fr hc
    exact (Array.getElem?_eq_some_iff.1 hc).1
  · simp at h
theorem lt_of_cell {w : World} {b o : Nat} {u : Value} (h : w.cell? ⟨b, o, none⟩ = some u) : b < w.heap.size := World.block_lt_of_cell? w ⟨b, o, none⟩ h

theorem stable_of_role {r r' : Roles} {b o : Nat} (h : r' b = r b) (hs : stable r b o) : stable r' b o := by
  unfold stable at *; rw [h]; exact hs

theorem Grow.le {G G' : Gh} {w w' : World} (h : Grow G w G' w') : Le G w G' w' :=
  ⟨fun b o u hs hc => ⟨stable_of_role (h.old b (lt_of_cell hc)).2 hs, by rw [cell?_of_heap (h.old b (lt_of_cell hc)).1]; exact hc⟩,
   fun i b e => by rw [h.mb]; exact e,
   fun b t ht => by rw [shape?_of_heap (h.old b (lt_of_shape ht)).1]; exact ht⟩

theorem Grow.trans {G G' G'' : Gh} {w w' w'' : World} (h : Grow G w G' w') (h' : Grow G' w' G'' w'') : Grow G w G'' w'' :=
  ⟨h'.os.trans h.os, h'.tape.trans h.tape, h'.output.trans h.output, Nat.le_trans h.size h'.size,
   fun b hb => let hb' := Nat.lt_of_lt_of_le hb h.size; ⟨(h'.old b hb').1.trans (h.old b hb).1, (h'.old b hb').2.trans (h.old b hb).2⟩,
   h'.mb.trans h.mb, h'.lb.trans h.lb⟩

theorem OwnAt.grow {G G' : Gh} {w w' : World} (g : Grow G w G' w') {o : Owner} {a : AV} {v : Value} (h : OwnAt G w o a v) : OwnAt G' w' o a v := by
  intro z nn xs e
  refine ⟨(h z nn xs e).1, fun b off len cap ev => ?_⟩
  rcases (h z nn xs e).2 b off len cap ev with h | ⟨h1, h2, h3⟩
  · exact .inl h
  · refine .inr ⟨Nat.lt_of_lt_of_le h1 g.size, (g.old b h1).2.trans h2, fun k hk hk' => ?_⟩
    obtain ⟨⟨u, hu⟩, hf⟩ := h3 k hk hk'
    exact ⟨⟨u, by rw [cell?_of_heap (g.old b h1).1]; exact hu⟩, by rw [frozen?_of_heap (g.old b h1).1]; exact hf⟩

theorem ObjAt.frozen {G G' : Gh} {w w' : World} (l : Le G w G' w') {x : Ix} {b : Nat} {cs : List AV} (h : ObjAt G w x b (.cells true cs)) : ObjAt G' w' x b (.cells true cs) := by
  obtain ⟨vals, h⟩ := h
  refine ⟨vals, fun j hj => ?_⟩
  obtain ⟨h1, h2, h3⟩ := h j hj
  obtain ⟨k1, k2⟩ := l.cell b j _ h1 h2
  exact ⟨k1, k2, h3.mono l⟩

theorem ObjAt.grow {G G' : Gh} {w w' : World} (g : Grow G w G' w') {x : Ix} {b : Nat} (hb : b < w.heap.size) {o : LObj} (h : ObjAt G w x b o) : ObjAt G' w' x b o := by
  cases o with
  | cells fz cs =>
    cases fz
    · obtain ⟨h1, arr, T, fr, h2, hf, h3, h4⟩ := h
      exact ⟨(g.old b hb).2.trans h1, arr, T, fr, (g.old b hb).1.trans h2, hf, h3, fun j j1 j2 => ⟨(h4 j j1 j2).1.mono g.le, (h4 j j1 j2).2.grow g⟩⟩
    · exact ObjAt.frozen g.le h
  | iter s pos => exact ⟨(g.old b hb).2.trans h.1, (g.old b hb).1.trans h.2⟩
  | mp kvs =>
    obtain ⟨h1, es, n, h2, h3, h4⟩ := h
    exact ⟨(g.old b hb).2.trans h1, es, n, (g.old b hb).1.trans h2, h3, fun j j1 j2 => ⟨(h4 j j1 j2).1.mono g.le, (h4 j j1 j2).2.mono g.le⟩⟩

theorem Gh.at_eq {G G' : Gh} (hm : G'.mb = G.mb) (hl : G'.lb = G.lb) (x : Ix) : G'.at x = G.at x := by
  cases x <;> simp [Gh.at, hm, hl]

theorem Inv.grow {P : Program} {G0 : Gh} {w0 : World} {G G' : Gh} {w w' : World} {s : St} {tv : Nat → Value} (h : Inv P G0 w0 G w s tv) (g : Grow G w G' w') : Inv P G0 w0 G' w' s tv where
  os := g.os.trans h.os
  tape := g.tape.trans h.tape
  output := g.output.trans h.output
  size := Nat.le_trans h.size g.size
  tmp t := (h.tmp t).mono g.le (fun t k b e => by rw [g.lb]; exact e)
  own t := (h.own t).grow g
  obj x o e := by
    obtain ⟨b, h1, h2, h3⟩ := h.obj x o e
    exact ⟨b, by rw [Gh.at_eq g.mb g.lb]; exact h1, Nat.lt_of_lt_of_le h2 g.size, h3.grow g h2⟩
  ext b hb e := by
    have hb' := Nat.lt_of_lt_of_le hb h.size
    exact ⟨(g.old b hb').1.trans (h.ext b hb e).1, (g.old b hb').2.trans (h.ext b hb e).2⟩
  le := h.le.trans g.le
  mlen i e := by rw [g.mb]; exact h.mlen i e
  llen t k e := by rw [g.lb]; exact h.llen t k e
  glob := h.glob

end Go.Vm
/- The operations that only look at their operands: each is sound. -/
namespace Go.Vm

section inv
variable {G : Gh} {w : World}
theorem RepT.int_inv {k : IntKind} {n : Int} {v : Value} (h : RepT G w (.int k n) v) : v = .int k n := by
  cases h with | of h => cases h; rfl
theorem RepT.bool_inv {b : Bool} {v : Value} (h : RepT G w (.bool b) v) : v = .bool b := by
  cases h with | of h => cases h; rfl
theorem RepT.str_inv {l : List UInt8} {v : Value} (h : RepT G w (.str l) v) : ∃ s : ByteArray, v = .string s ∧ l = s.data.toList := by
  cases h with | of h => cases h; exact ⟨_, rfl, rfl⟩
theorem RepT.agg_inv {cs : List AV} {v : Value} (h : RepT G w (.agg cs) v) : ∃ vs : Array Value, v = .agg vs ∧ cs.length = vs.size ∧ ∀ (i : Nat) (h1 : i < cs.length) (h2 : i < vs.size), Rep G w cs[i] vs[i] := by
  cases h with | of h => cases h with | agg _ vs hl h => exact ⟨vs, rfl, hl, h⟩
theorem RepT.tup_inv {cs : List AV} {v : Value} (h : RepT G w (.tup cs) v) : ∃ vs : Array Value, v = .tuple vs ∧ cs.length = vs.size ∧ ∀ (i : Nat) (h1 : i < cs.length) (h2 : i < vs.size), Rep G w cs[i] vs[i] := by
  cases h with | of h => cases h with | tup _ vs hl h => exact ⟨vs, rfl, hl, h⟩
theorem RepT.vec_inv {o : Option Nat} {nn : Bool} {xs : List AV} {v : Value} (h : RepT G w (.vec o nn xs) v) :
    (nn = false ∧ xs = [] ∧ v = .slice none 0 0) ∨ (∃ (b off cap st : Nat) (vals : Nat → Value), nn = true ∧ v = .slice (some ⟨b, off, none⟩) xs.length cap ∧ xs.length ≤ cap ∧
      (∀ x ∈ xs, x.cells.length = st) ∧ (∀ j, j < (flat xs).length → stable G.role b (off + j) ∧ w.cell? ⟨b, off + j, none⟩ = some (vals j)) ∧
      (∀ (j : Nat) (hj : j < (flat xs).length), Rep G w (flat xs)[j] (vals j))) ∨ ∃ a, nn = true ∧ xs = [] ∧ v = .slice (some a) 0 0 := by
  cases h with
  | of h => cases h with
    | nilvec => exact .inl ⟨rfl, rfl, rfl⟩
    | vec _ _ b off cap st vals hcap hst hc h => exact .inr (.inl ⟨b, off, cap, st, vals, rfl, rfl, hcap, hst, hc, h⟩)
    | evec _ a => exact .inr (.inr ⟨a, rfl, rfl, rfl⟩)
theorem RepT.vptr_inv {cs : List AV} {off : Nat} {v : Value} (h : RepT G w (.vptr cs off) v) : ∃ (b o : Nat) (vals : Nat → Value), v = .pointer (some ⟨b, o + off, none⟩) ∧
      (∀ j, j < cs.length → stable G.role b (o + j) ∧ w.cell? ⟨b, o + j, none⟩ = some (vals j)) ∧ (∀ (j : Nat) (hj : j < cs.length), Rep G w cs[j] (vals j)) := by
  cases h with | of h => cases h with | vptr _ _ b o vals hc h => exact ⟨b, o, vals, rfl, hc, h⟩
theorem RepT.ptr_inv {x : Ix} {off : Nat} {v : Value} (h : RepT G w (.ptr x off) v) : ∃ b, G.at x = some b ∧ v = .pointer (some ⟨b, off, none⟩) := by
  cases h with
  | of h => cases h with | ptr i off b hb => exact ⟨b, hb, rfl⟩
  | lptr t k off b hb => exact ⟨b, hb, rfl⟩
theorem RepT.ptr_mk {x : Ix} {off b : Nat} (h : G.at x = some b) : RepT G w (.ptr x off) (.pointer (some ⟨b, off, none⟩)) := by
  cases x with
  | loc t k => exact .lptr t k off b h
  | mem i => exact .of (.ptr i off b h)
theorem RepT.row_inv {x : Ix} {off len : Nat} {v : Value} (h : RepT G w (.row x off len) v) : ∃ b cap, G.at x = some b ∧ v = .slice (some ⟨b, off, none⟩) len cap ∧ len ≤ cap := by
  cases h with
  | of h => cases h with | row i off len b cap hb hc => exact ⟨b, cap, hb, rfl, hc⟩
  | lrow t k off len b cap hb hc => exact ⟨b, cap, hb, rfl, hc⟩
theorem RepT.tnil_inv {T n i l : Nat} {v : Value} (h : RepT G w (.typed 0 T n i l) v) : v = .pointer none ∧ ∃ b, G.mb i = some b ∧ w.shape? b = some (T, n) := by
  cases h with | of h => cases h with | tnil _ _ _ _ b hb hs => exact ⟨rfl, b, hb, hs⟩
theorem RepT.trow_inv {T n i len : Nat} {v : Value} (h : RepT G w (.typed 1 T n i len) v) : ∃ b cap m, G.mb i = some b ∧ v = .slice (some ⟨b, 0, none⟩) len cap ∧ len ≤ cap ∧ w.shape? b = some (T, m) ∧ cap ≤ m := by
  cases h with | of h => cases h with | trow _ _ _ _ b cap m hb hcap hs hm => exact ⟨b, cap, m, hb, rfl, hcap, hs, hm⟩
theorem RepT.tptr_inv {T n i l : Nat} {v : Value} (h : RepT G w (.typed 2 T n i l) v) : ∃ b m, G.mb i = some b ∧ v = .pointer (some ⟨b, 0, none⟩) ∧ w.shape? b = some (T, m) := by
  cases h with | of h => cases h with | tptr _ _ _ _ b m hb hs => exact ⟨b, m, hb, rfl, hs⟩
theorem RepT.zcap_inv {nn : Bool} {v : Value} (h : RepT G w (.zcap nn) v) : (nn = false ∧ v = .slice none 0 0) ∨ ∃ a, nn = true ∧ v = .slice (some a) 0 0 := by
  cases h with
  | of h => cases h with
    | zcapNil => exact .inl ⟨rfl, rfl⟩
    | zcap a => exact .inr ⟨a, rfl, rfl⟩
theorem RepT.orow_inv {z i len : Nat} {v : Value} (h : RepT G w (.orow z i len) v) : ∃ b cap, G.mb i = some b ∧ v = .slice (some ⟨b, 0, none⟩) len cap ∧ len ≤ cap ∧ ∀ k, k < cap * z → ∃ u, w.cell? ⟨b, k, none⟩ = some u := by
  cases h with
  | of h => cases h with | orow z i len b cap hb hc hx => exact ⟨b, cap, hb, rfl, hc, hx⟩
theorem RepT.row_mk {x : Ix} {off len b cap : Nat} (h : G.at x = some b) (hc : len ≤ cap) : RepT G w (.row x off len) (.slice (some ⟨b, off, none⟩) len cap) := by
  cases x with
  | loc t k => exact .lrow t k off len b cap h hc
  | mem i => exact .of (.row i off len b cap h hc)
theorem RepT.fn_inv {f : Fn} {cs : List AV} {v : Value} (h : RepT G w (.fn f cs) v) : ∃ vs : Array Value, v = .func f #[] vs ∧ cs.length = vs.size ∧ ∀ (i : Nat) (h1 : i < cs.length) (h2 : i < vs.size), Rep G w cs[i] vs[i] := by
  cases h with | of h => cases h with | fn _ _ vs hl h => exact ⟨vs, rfl, hl, h⟩
theorem RepT.nilptr_inv {v : Value} (h : RepT G w .nilptr v) : v = .pointer none := by
  cases h with | of h => cases h; rfl
end inv

/-- What an operation yields. -/
def Yields (P : Program) (ρ : Operand → Value) (o : Oper) (G : Gh) (w : World) (d : Nat) (a : AV) : Prop :=
  ∃ v w' G', (execOp ρ o).run P w = .ok (.value v) w' ∧ Grow G w G' w' ∧ RepT G' w' a v ∧ OwnAt G' w' (.slot d) a v

def notOwn : AV → Prop
  | .vec (some _) _ _ => False
  | _ => True

theorem OwnAt.of_notOwn {G : Gh} {w : World} {o : Owner} {a : AV} {v : Value} (h : notOwn a) : OwnAt G w o a v := by
  refine .of_not fun z nn xs e => ?_
  subst e
  exact h

theorem notOwn_view (a : AV) : notOwn a.view := by
  cases a <;> simp [AV.view, notOwn]

theorem notOwn_pass (a : AV) : notOwn a.pass := by
  cases a <;> simp [AV.pass, notOwn]

theorem Yields.same {P : Program} {ρ : Operand → Value} {o : Oper} {G : Gh} {w : World} {d : Nat} {a : AV} {v : Value}
    (hr : (execOp ρ o).run P w = .ok (.value v) w) (h : RepT G w a v) (hn : notOwn a) : Yields P ρ o G w d a :=
  ⟨v, w, G, hr, .refl G w, h, .of_notOwn hn⟩

/-! ### from the model's operation to the small one -/

def szOf (P : Program) (t : TypeId) : Option Nat := (P.info? t).map (·.size)
def bytesT (P : Program) (t : TypeId) : Option Nat := (P.info? t).map (·.bytes)
def aggOf (P : Program) (t : TypeId) : Option (Option Nat) :=
  match P.underlying t with
  | some (.struct _) => match szOf P t with
    | some n => some (some n)
    | none => none
  | some (.array _ _) => match szOf P t with
    | some n => some (some n)
    | none => none
  | some _ => some none
  | none => none
def zeroOf (P : Program) (t : TypeId) : Option Value := (P.info? t).bind (·.zero)

def partsStruct (P : Program) (fs : Array Field) : List (Nat × Operand) → Option (List (Nat × Nat × VO))
  | [] => some []
  | (i, x) :: rest => match fs[i]?, trO P x, partsStruct P fs rest with
    | some f, some x, some r => match szOf P f.type with
      | some n => some ((f.offset, n, x) :: r)
      | none => none
    | _, _, _ => none

def partsArray (P : Program) (n : Nat) : List (Nat × Operand) → Option (List (Nat × Nat × VO))
  | [] => some []
  | (i, x) :: rest => match trO P x, partsArray P n rest with
    | some x, some r => some ((i * n, n, x) :: r)
    | _, _ => none

def partsEls (P : Program) : List (Nat × Operand) → Option (List (Nat × VO))
  | [] => some []
  | (i, x) :: rest => match trO P x, partsEls P rest with
    | some x, some r => some ((i, x) :: r)
    | _, _ => none

def trList (P : Program) : List Operand → Option (List VO)
  | [] => some []
  | x :: rest => match trO P x, trList P rest with
    | some x, some r => some (x :: r)
    | _, _ => none

def trOpt (P : Program) : Option Operand → Option (Option VO)
  | none => some none
  | some x => match trO P x with
    | some y => some (some y)
    | none => none

/-- The places of a flat struct's cells that '==' compares, and their kinds. -/
def kindOf (P : Program) (t : TypeId) : Option Nat :=
  match P.underlying t with
  | some (.int _) => some 0
  | some .string => some 1
  | some .bool => some 2
  | _ => none

def spotsOf (P : Program) : List Field → Option (List (Nat × Nat))
  | [] => some []
  | f :: fs => match kindOf P f.type, spotsOf P fs with
    | some k, some r => some (if f.name ≠ "_" then (f.offset, k) :: r else r)
    | _, _ => none

/-- Is this the constant nil? Of slices, pointers, functions. -/
def isNilConst : Nat → Operand → Bool
  | 0, .const (.slice none 0 0) => true
  | 1, .const (.pointer none) => true
  | 2, .const .nilFunc => true
  | 3, .const .nilIface => true
  | _, _ => false

def trNil (k : Nat) (op : BinOp) (x : VO) (y : Operand) : Option VOp :=
  if isNilConst k y then
    match op with
    | .eql => some (.eqNil k false x)
    | .neq => some (.eqNil k true x)
    | _ => none
  else none

def trBin (P : Program) (op : BinOp) (t : TypeId) (x y : Operand) : Option VOp :=
  match P.underlying t, trO P x, trO P y with
  | some (.int _), some x, some y => some (.bin op x y)
  | some .string, some x, some y => some (.bin op x y)
  | some .bool, some x, some y => match op with
    | .eql => some (.eqBool false x y)
    | .neq => some (.eqBool true x y)
    | _ => none
  | some (.struct fs), some x, some y =>
    match spotsOf P fs.toList with
    | some ss => if P.stoodInHeld t = false ∧ P.eqGuardType P.depth t = false then
        match op with
        | .eql => some (.eqAgg false ss x y)
        | .neq => some (.eqAgg true ss x y)
        | _ => none
      else none
    | none => none
  | some (.slice _), some x, _ => trNil 0 op x y
  | some (.pointer _), some x, _ => trNil 1 op x y
  | some (.func _ _ _), some x, _ => trNil 2 op x y
  | some (.interface _), some x, _ => trNil 3 op x y
  | _, _, _ => none

/-- Functions without a body that the small code knows. -/
def extOf (P : Program) (f : FuncId) : Option Nat :=
  match P.funcs[f]? with
  | some fn => if fn.body.isNone = true ∧ fn.name = "internal/bytealg.IndexByteString" ∧ (fn.origin = "" ∨ fn.origin = "internal/bytealg.IndexByteString") then some 0
    else if fn.body.isNone = true ∧ fn.name = "internal/bytealg.CountString" ∧ (fn.origin = "" ∨ fn.origin = "internal/bytealg.CountString") then some 1 else none
  | none => none

/-- The pure operations. -/
def trPure (P : Program) (o : Oper) : Option VOp :=
  match o.op with
  | .move x => match trO P x with
    | some x => some (.move x)
    | none => none
  | .pick c a b => match trO P c, trO P a, trO P b with
    | some c, some a, some b => some (.pick c a b)
    | _, _, _ => none
  | .nilCheck x => match trO P x with
    | some x => some (.nilck x)
    | none => none
  | .binOp op t x y _ => trBin P op t x y
  | .unOp op _ x => match trO P x with
    | some x => some (.un op x)
    | none => none
  | .convert src dst x => match P.underlying src, P.underlying dst, trO P x with
    | some (.int _), some (.int k), some x => some (.cint k x)
    | some .string, some .string, some x => some (.cstr x)
    | some .string, some (.slice e), some x => match P.underlying e with
      | some (.int .u8) => some (.bytesOf x)
      | _ => none
    | some (.slice e), some .string, some x => match P.underlying e with
      | some (.int .u8) => some (.strOf x)
      | _ => none
    | _, _, _ => none
  | .fieldAddr t x i => match P.underlying t, trO P x with
    | some (.struct fs), some x => match fs[i]? with
      | some f => match szOf P f.type with
        | some (_ + 1) => some (.faddr f.offset x)
        | _ => none
      | none => none
    | _, _ => none
  | .field t x i => match P.underlying t, trO P x with
    | some (.struct fs), some x => match fs[i]? with
      | some f => match aggOf P f.type with
        | some a => some (.field f.offset a x)
        | none => none
      | none => none
    | _, _ => none
  | .indexAddr t x i => match P.underlying t, trO P x, trO P i with
    | some (.slice e), some x, some i => match szOf P e with
      | some n => some (.iaddrSl n x i)
      | none => none
    | some (.array len e), some x, some i => match szOf P e with
      | some n => some (.iaddrArr len n x i)
      | none => none
    | _, _, _ => none
  | .index t x i => match P.underlying t, trO P x, trO P i with
    | some .string, some x, some i => some (.idxStr x i)
    | some (.array len e), some x, some i => match szOf P e, aggOf P e with
      | some n, some a => some (.idxArr len n a x i)
      | _, _ => none
    | _, _, _ => none
  | .extract x i => match trO P x with
    | some x => some (.ext x i)
    | none => none
  | .slice t x lo hi mx => match P.underlying t, trO P x, trOpt P lo, trOpt P hi with
    | some .string, some x, some lo, some hi => if mx.isNone then some (.slStr x lo hi) else none
    | some (.array n e), some x, some lo, some hi => if mx.isNone then match szOf P e with
        | some z => some (.slArr n z x lo hi)
        | none => none
      else none
    | _, _, _, _ => none
  | .call { callee := .builtin .len, args, argTypes } => match argTypes.toList, trList P args.toList with
    | [t], some [x] => match P.underlying t with
      | some .string => some (.lenStr x)
      | some (.slice _) => some (.lenSl x)
      | _ => none
    | _, _ => none
  | .call { callee := .builtin .min, args, .. } => match trList P args.toList with
    | some xs => some (.minmax false xs)
    | none => none
  | .call { callee := .builtin .max, args, .. } => match trList P args.toList with
    | some xs => some (.minmax true xs)
    | none => none
  | .call { callee := .value (.func f), args, .. } => match extOf P f, trList P args.toList with
    | some k, some xs => some (.extn k xs)
    | _, _ => none
  | .makeInterface t x => if P.concrete t then match trO P x with
      | some x => some (.mkIface t x)
      | none => none
    else none
  | _ => none

section
variable {P : Program} {ρ : Operand → Value} {G : Gh} {w : World} {ev : VO → AV}

theorem part_rep {cs : List AV} {vs : Array Value} {agg : Option Nat} {t : TypeId} {off : Nat} {a : AV} (ha : aggOf P t = some agg) (hl : cs.length = vs.size)
    (h : ∀ (i : Nat) (h1 : i < cs.length) (h2 : i < vs.size), Rep G w cs[i] vs[i]) (hp : part? agg cs off = some a) :
    ∃ v, (part t vs off).run P w = .ok v w ∧ Rep G w a v ∧ notOwn a := by
  cases agg with
  | none =>
    have hagg : (isAgg t).run P w = .ok false w := by
      unfold aggOf at ha
      cases hu : P.underlying t with
      | none => simp [hu] at ha
      | some d => cases d <;> simp only [hu] at ha <;> first | (split at ha <;> simp at ha; done) | simp [isAgg, run_underlying hu]
    simp only [part?] at hp
    split at hp
    · rename_i v hv
      simp at hp; subst hp
      have hlt : off < cs.length := by
        rcases Nat.lt_or_ge off cs.length with h' | h'
        · exact h'
        · simp [List.getElem?_eq_none h'] at hv
      have hlt' : off < vs.size := by omega
      have he : cs[off] = v := by rw [List.getElem?_eq_getElem hlt] at hv; simpa using hv
      refine ⟨vs[off], ?_, he ▸ (h off hlt hlt').view, notOwn_view _⟩
      simp [part, hagg, Array.getElem?_eq_getElem hlt']
    · simp at hp
  | some sz =>
    have hagg : (isAgg t).run P w = .ok true w ∧ (sizeOf t).run P w = .ok sz w := by
      unfold aggOf szOf at ha
      cases hu : P.underlying t with
      | none => simp [hu] at ha
      | some d =>
        cases d <;> simp only [hu] at ha <;> first
          | (simp at ha; done)
          | (cases hi : P.info? t with
             | none => simp [hi] at ha
             | some i => simp [hi] at ha; exact ⟨by simp [isAgg, run_underlying hu], by simp [sizeOf, typeInfo, hi, ha]⟩)
    simp only [part?] at hp
    split at hp
    · rename_i hle
      simp at hp; subst hp
      refine ⟨.agg (vs.extract off (off + sz)), ?_, ?_, trivial⟩
      · simp [part, hagg.1, hagg.2]
      · refine .agg _ _ (by simp; omega) fun i h1 h2 => ?_
        have h1' : i < sz := by simp at h1; omega
        have := h (off + i) (by omega) (by omega)
        simpa using this
    · simp at hp

theorem trList_ok (he : OkEv P G w ev ρ) : ∀ {xs : List Operand} {ys : List VO}, trList P xs = some ys → ys.length = xs.length ∧ ∀ (i : Nat) (h1 : i < ys.length) (h2 : i < xs.length), RepT G w (ev ys[i]) (ρ xs[i])
  | [], ys, h => by simp [trList] at h; subst h; exact ⟨rfl, fun i h1 => by simp at h1⟩
  | x :: rest, ys, h => by
    simp only [trList] at h
    split at h
    · rename_i y r hy hr
      simp at h; subst h
      obtain ⟨hl, hh⟩ := trList_ok he hr
      refine ⟨by simp [hl], fun i h1 h2 => ?_⟩
      cases i with
      | zero => exact he _ _ hy
      | succ i => exact hh i (by simpa using h1) (by simpa using h2)
    · simp at h

theorem minmax_run {isMax : Bool} : ∀ (xs : List AV) (vs : List Value) (a0 : AV) (v0 : Value) (a : AV), xs.length = vs.length →
    (∀ (i : Nat) (h1 : i < xs.length) (h2 : i < vs.length), RepT G w xs[i] vs[i]) → RepT G w a0 v0 → minmax? isMax a0 xs = some a →
    ∃ v, (vs.foldlM (if isMax then Builtin.max2 else Builtin.min2) v0).run P w = .ok v w ∧ RepT G w a v
  | [], vs, a0, v0, a, hl, _, h0, hm => by
    cases vs with
    | nil => simp [minmax?] at hm; subst hm; exact ⟨v0, by simp, h0⟩
    | cons => simp at hl
  | x :: xs, vs, a0, v0, a, hl, hx, h0, hm => by
    cases vs with
    | nil => simp at hl
    | cons v vs =>
      have hx0 := hx 0 (by simp) (by simp)
      simp only [List.getElem_cons_zero] at hx0
      unfold minmax? at hm
      split at hm
      · rename_i heq; simp at heq
      · rename_i k n k' n' rest heq
        simp at heq
        obtain ⟨rfl, rfl⟩ := heq
        split at hm
        · rename_i hk; subst hk
          have e0 := h0.int_inv
          have e1 := hx0.int_inv
          subst e0; subst e1
          obtain ⟨u, hu, hr⟩ := minmax_run (isMax := isMax) xs vs _ (.int k (if isMax then (if n' > n then n' else n) else (if n' < n then n' else n))) a (by simpa using hl)
            (fun i h1 h2 => hx (i + 1) (by simp; omega) (by simp; omega)) (.of (.int _ _)) hm
          refine ⟨u, ?_, hr⟩
          cases isMax <;> simp [Builtin.max2, Builtin.min2] at hu ⊢ <;> exact hu
        · simp at hm
      · simp at hm

theorem bytesLess_eq : ∀ a b, Op.bytesLess a b = bytesLess a b
  | _, [] => by simp [Op.bytesLess, bytesLess]
  | [], _ :: _ => by simp [Op.bytesLess, bytesLess]
  | a :: x, b :: y => by simp [Op.bytesLess, bytesLess, bytesLess_eq x y]

theorem eqGuard_nothing (op : BinOp) (t : TypeId) (x y : Operand) (u v : Value) (h : (∀ cs, u ≠ .agg cs) ∧ u ≠ .nilIface) : eqGuard op t x y u v = pure () := by
  cases u <;> simp at h <;> cases op <;> rfl

theorem bin_run {op : BinOp} {t : TypeId} {x y a : AV} {u v : Value} (hx : RepT G w x u) (hy : RepT G w y v) (h : bin? op x y = some a) :
    ∃ r, (binOp op t u v).run P w = .ok r w ∧ RepT G w a r ∧ notOwn a ∧ (∀ cs, u ≠ .agg cs) ∧ u ≠ .nilIface := by
  unfold bin? at h
  split at h
  · have e1 := hx.int_inv; have e2 := hy.int_inv
    subst e1; subst e2
    split at h
    · simp at h
    · rename_i hb
      simp at h; subst h
      refine ⟨_, ?_, .of (.int _ _), trivial, by simp, by simp⟩
      simp [binOp, Op.shift, hb]
  · have e1 := hx.int_inv; have e2 := hy.int_inv
    subst e1; subst e2
    split at h
    · simp at h
    · rename_i hb
      simp at h; subst h
      refine ⟨_, ?_, .of (.int _ _), trivial, by simp, by simp⟩
      simp [binOp, Op.shift, hb]
  · rename_i k n k' n' hns hnr
    have e1 := hx.int_inv; have e2 := hy.int_inv
    subst e1; subst e2
    split at h
    · rename_i hk; subst hk
      unfold binInt at h
      split at h
      case h_4 =>
        split at h <;> simp at h
        rename_i hz; subst h
        refine ⟨_, ?_, .of (.int _ _), trivial, by simp, by simp⟩
        simp [binOp, Op.intDiv, hz]
      case h_5 =>
        split at h <;> simp at h
        rename_i hz; subst h
        refine ⟨_, ?_, .of (.int _ _), trivial, by simp, by simp⟩
        simp [binOp, Op.intDiv, hz]
      all_goals first
        | (simp at h; done)
        | (simp only [Option.some.injEq] at h; subst h; refine ⟨_, ?_, .of (.int _ _), trivial, by simp, by simp⟩; simp [binOp, Op.intArith, Op.intBits]; done)
        | (simp only [Option.some.injEq] at h; subst h; refine ⟨_, ?_, .of (.bool _), trivial, by simp, by simp⟩; simp [binOp, Op.intCmp]; done)
    · simp at h
  · obtain ⟨s, rfl, rfl⟩ := hx.str_inv
    obtain ⟨s', rfl, rfl⟩ := hy.str_inv
    unfold binStr at h
    split at h
    case h_1 =>
      split at h
      · rename_i hsz
        simp only [Option.some.injEq] at h
        subst h
        refine ⟨.string (s ++ s'), ?_, .of ?_, trivial, by simp, by simp⟩
        · rw [binOp_string_add]; exact run_string_add_sum _ s s' (by have h1 : s.data.toList.length = s.size := Array.length_toList; have h2 : s'.data.toList.length = s'.size := Array.length_toList; omega)
        · have : s.data.toList ++ s'.data.toList = (s ++ s').data.toList := by simp
          rw [this]; exact .str _
      · simp at h
    all_goals first
      | (simp at h; done)
      | (simp only [Option.some.injEq] at h; subst h; refine ⟨_, ?_, .of (.bool _), trivial, by simp, by simp⟩; simp [binOp, Op.stringOp, ByteArray.toList_eq, bytesLess_eq]; done)
  · simp at h

theorem eqCell_run {k : Nat} {t : TypeId} (d : Nat) (hk : kindOf P t = some k) {a c : AV} {u v : Value} {q : Bool} (ru : Rep G w a u) (rv : Rep G w c v) (hq : eqCell k a c = some q) :
    (Op.equalIn (d + 1) t u v).run P w = .ok q w := by
  unfold kindOf at hk
  unfold eqCell at hq
  split at hq
  · have e1 := (RepT.of ru).int_inv; have e2 := (RepT.of rv).int_inv
    subst e1; subst e2
    split at hq
    · rename_i hkk
      simp only [Option.some.injEq] at hq
      subst hkk; subst hq
      split at hk <;> simp at hk
      rename_i hu
      simp [Op.equalIn, run_underlying hu]
    · simp at hq
  · obtain ⟨s, rfl, e1⟩ := (RepT.of ru).str_inv; obtain ⟨s', rfl, e2⟩ := (RepT.of rv).str_inv
    subst e1; subst e2
    simp only [Option.some.injEq] at hq
    subst hq
    split at hk <;> simp at hk
    rename_i hu
    rw [run_equalIn_string w d t s s' hu, ByteArray.toList_eq, ByteArray.toList_eq]
  · have e1 := (RepT.of ru).bool_inv; have e2 := (RepT.of rv).bool_inv
    subst e1; subst e2
    simp only [Option.some.injEq] at hq
    subst hq
    split at hk <;> simp at hk
    rename_i hu
    simp [Op.equalIn, run_underlying hu]
  · simp at hq

theorem aggOf_of_kind {t : TypeId} {k : Nat} (h : kindOf P t = some k) : aggOf P t = some none := by
  unfold kindOf at h
  unfold aggOf
  split at h <;> simp_all

theorem eqCells_run {xs ys : List AV} {us vs : Array Value} (d : Nat) (hlx : xs.length = us.size) (hly : ys.length = vs.size)
    (hx : ∀ (i : Nat) (h1 : i < xs.length) (h2 : i < us.size), Rep G w xs[i] us[i]) (hy : ∀ (i : Nat) (h1 : i < ys.length) (h2 : i < vs.size), Rep G w ys[i] vs[i]) :
    ∀ (fs : List Field) (ss : List (Nat × Nat)) (b : Bool), spotsOf P fs = some ss → eqCells xs ys ss = some b → (Op.eqFields (d + 1) us vs fs).run P w = .ok b w
  | [], ss, b, hs, he => by
    simp [spotsOf] at hs; subst hs
    simp [eqCells] at he; subst he
    simp [Op.eqFields]
  | f :: fs, ss, b, hs, he => by
    simp only [spotsOf] at hs
    split at hs
    · rename_i k r hk hr
      simp only [Option.some.injEq] at hs
      simp only [Op.eqFields]
      have hagg := aggOf_of_kind hk
      by_cases hn : f.name ≠ "_"
      · simp only [hn, ne_eq, not_false_eq_true, if_true] at hs ⊢
        subst hs
        simp only [eqCells] at he
        split at he
        · rename_i x y hxx hyy
          obtain ⟨u, hu, ru, _⟩ := part_rep (P := P) (G := G) (w := w) (t := f.type) (off := f.offset) (a := x.view) hagg hlx hx (by simp [part?, hxx])
          obtain ⟨v, hv, rv, _⟩ := part_rep (P := P) (G := G) (w := w) (t := f.type) (off := f.offset) (a := y.view) hagg hly hy (by simp [part?, hyy])
          simp only [Sem.run_bind, hu, hv, Result.andThen_ok]
          split at he
          · rename_i hq
            rw [eqCell_run d hk ru rv hq]
            simp
            exact eqCells_run d hlx hly hx hy fs r b hr he
          · rename_i hq
            rw [eqCell_run d hk ru rv hq]
            simp at he ⊢
            exact he
          · simp at he
        · simp at he
      · simp only [hn, if_false] at hs ⊢
        subst hs
        exact eqCells_run d hlx hly hx hy fs r b hr he
    · simp at hs

end

end Go.Vm
/- The pure operations' soundness, one by one. -/
namespace Go.Vm

section
variable {P : Program} {ρ : Operand → Value} {G : Gh} {w : World} {ev : VO → AV} {d : Nat}

theorem exec_of (o : Oper) {m : Sem Value} {v : Value} (he : execOp ρ o = (do let x ← m; pure (Next.value x))) (hm : m.run P w = .ok v w) :
    (execOp ρ o).run P w = .ok (.value v) w := by
  rw [he]; simp [hm]

theorem pure_move {o : Oper} {x : Operand} {y : VO} (ho : o.op = .move x) (hx : trO P x = some y) (he : OkEv P G w ev ρ) : Yields P ρ o G w d (ev y).view :=
  .same (v := ρ x) (by simp [execOp, ho]) (he _ _ hx).view (notOwn_view _)

theorem pure_pick {o : Oper} {c a b : Operand} {c' a' b' : VO} {r : AV} (ho : o.op = .pick c a b) (hc : trO P c = some c') (ha : trO P a = some a') (hb : trO P b = some b')
    (hp : pval ev (.pick c' a' b') = some r) (he : OkEv P G w ev ρ) : Yields P ρ o G w d r := by
  simp only [pval] at hp
  have hc := he _ _ hc
  split at hp
  · rename_i hcv
    rw [hcv] at hc
    have := hc.bool_inv
    simp only [Option.some.injEq] at hp; subst hp
    exact .same (v := ρ a) (by simp [execOp, ho, this, asBool]) (he _ _ ha).view (notOwn_view _)
  · rename_i hcv
    rw [hcv] at hc
    have := hc.bool_inv
    simp only [Option.some.injEq] at hp; subst hp
    exact .same (v := ρ b) (by simp [execOp, ho, this, asBool]) (he _ _ hb).view (notOwn_view _)
  · simp at hp

theorem pure_nilck {o : Oper} {x : Operand} {x' : VO} {r : AV} (ho : o.op = .nilCheck x) (hx : trO P x = some x')
    (hp : pval ev (.nilck x') = some r) (he : OkEv P G w ev ρ) : Yields P ρ o G w d r := by
  simp only [pval] at hp
  have hx := he _ _ hx
  split at hp
  · rename_i hv
    rw [hv] at hx
    obtain ⟨b, hb, e⟩ := hx.ptr_inv
    simp only [Option.some.injEq] at hp; subst hp
    exact .same (v := ρ x) (by simp [execOp, ho, e]) hx trivial
  · rename_i hv
    rw [hv] at hx
    obtain ⟨b, o', vals, e, _⟩ := hx.vptr_inv
    simp only [Option.some.injEq] at hp; subst hp
    exact .same (v := ρ x) (by simp [execOp, ho, e]) hx trivial
  · rename_i f cs hv
    rw [hv] at hx
    obtain ⟨vs, e, hl, h⟩ := hx.fn_inv
    simp only [Option.some.injEq] at hp; subst hp
    refine .same (v := ρ x) ?_ hx trivial
    cases f <;> simp [execOp, ho, e]
  · simp at hp

theorem pure_un {o : Oper} {op : UnOp} {t : TypeId} {x : Operand} {x' : VO} {r : AV} (ho : o.op = .unOp op t x) (hx : trO P x = some x')
    (hp : pval ev (.un op x') = some r) (he : OkEv P G w ev ρ) : Yields P ρ o G w d r := by
  simp only [pval, un?] at hp
  have hx := he _ _ hx
  split at hp
  · rename_i hv
    rw [hv] at hx
    have e := hx.int_inv
    simp only [Option.some.injEq] at hp; subst hp
    refine .same (v := .int _ _) ?_ (.of (.int _ _)) trivial
    simp [execOp, ho, e, Op.unary, Op.intArith]
  · rename_i hv
    rw [hv] at hx
    have e := hx.int_inv
    simp only [Option.some.injEq] at hp; subst hp
    refine .same (v := .int _ _) ?_ (.of (.int _ _)) trivial
    simp [execOp, ho, e, Op.unary, Op.intBits]
  · rename_i hv
    rw [hv] at hx
    have e := hx.bool_inv
    simp only [Option.some.injEq] at hp; subst hp
    refine .same (v := .bool _) ?_ (.of (.bool _)) trivial
    simp [execOp, ho, e, Op.unary]
  · simp at hp


theorem equal_slice_nil (t e : TypeId) (a : Option Addr) (l c : Nat) (h : P.underlying t = some (.slice e)) : (Op.equal t (.slice a l c) (.slice none 0 0)).run P w = .ok a.isNone w := by
  have key : ∀ d, (Op.equalIn (d + 1) t (.slice a l c) (.slice none 0 0)).run P w = .ok a.isNone w := fun d => by cases a <;> simp [Op.equalIn, run_underlying h]
  exact key 9999

theorem equal_pointer_nil (t e : TypeId) (a : Option Addr) (h : P.underlying t = some (.pointer e)) : (Op.equal t (.pointer a) (.pointer none)).run P w = .ok a.isNone w := by
  have key : ∀ d, (Op.equalIn (d + 1) t (.pointer a) (.pointer none)).run P w = .ok a.isNone w := fun d => by cases a <;> simp [Op.equalIn, run_underlying h]
  exact key 9999

theorem equal_func_nil (t : TypeId) (p r : Array TypeId) (b : Bool) (v : Value) (q : Bool) (h : P.underlying t = some (.func p r b)) (hv : (v = .nilFunc ∧ q = true) ∨ (∃ f a c, v = .func f a c) ∧ q = false) :
    (Op.equal t v .nilFunc).run P w = .ok q w := by
  have key : ∀ d, (Op.equalIn (d + 1) t v .nilFunc).run P w = .ok q w := fun d => by rcases hv with ⟨rfl, rfl⟩ | ⟨⟨f, a, c, rfl⟩, rfl⟩ <;> simp [Op.equalIn, run_underlying h]
  exact key 9999

theorem nil_slice {x : AV} {u : Value} {b : Bool} (hx : RepT G w x u) (hn : isNil? 0 x = some b) : ∃ a l c, u = .slice a l c ∧ a.isNone = b := by
  cases x <;> simp [isNil?] at hn
  · rcases hx.vec_inv with ⟨h1, _, rfl⟩ | ⟨bb, off, cap, st, vals, h1, rfl, _⟩ | ⟨_, h1, _, rfl⟩ <;> subst h1 <;> exact ⟨_, _, _, rfl, by simpa using hn⟩
  · obtain ⟨bb, cap, _, rfl, _⟩ := hx.row_inv
    exact ⟨_, _, _, rfl, by simpa using hn⟩
  · obtain ⟨bb, cap, _, rfl, _⟩ := hx.orow_inv
    exact ⟨_, _, _, rfl, by simpa using hn⟩

theorem nil_pointer {x : AV} {u : Value} {b : Bool} (hx : RepT G w x u) (hn : isNil? 1 x = some b) : ∃ a, u = .pointer a ∧ a.isNone = b := by
  cases x <;> simp [isNil?] at hn
  · obtain ⟨bb, _, rfl⟩ := hx.ptr_inv
    exact ⟨_, rfl, by simpa using hn⟩
  · obtain ⟨bb, o, vals, rfl, _⟩ := hx.vptr_inv
    exact ⟨_, rfl, by simpa using hn⟩
  · have := hx.nilptr_inv
    exact ⟨_, this, by simpa using hn⟩
  · obtain ⟨rfl, rfl⟩ := hn
    exact ⟨_, hx.tnil_inv.1, rfl⟩

theorem nil_func {x : AV} {u : Value} {b : Bool} (hx : RepT G w x u) (hn : isNil? 2 x = some b) : (u = .nilFunc ∧ b = true) ∨ (∃ f a c, u = .func f a c) ∧ b = false := by
  cases x <;> simp [isNil?] at hn
  · obtain ⟨vs, rfl, _⟩ := hx.fn_inv
    exact .inr ⟨⟨_, _, _, rfl⟩, hn.symm ▸ rfl⟩
  · cases hx with | of h => cases h; exact .inl ⟨rfl, hn.symm ▸ rfl⟩

theorem isNilConst_inv {k : Nat} {y : Operand} (hy : isNilConst k y = true) : (k = 0 ∧ y = .const (.slice none 0 0)) ∨ (k = 1 ∧ y = .const (.pointer none)) ∨ (k = 2 ∧ y = .const .nilFunc) ∨ (k = 3 ∧ y = .const .nilIface) := by
  unfold isNilConst at hy
  split at hy
  · exact .inl ⟨rfl, rfl⟩
  · exact .inr (.inl ⟨rfl, rfl⟩)
  · exact .inr (.inr (.inl ⟨rfl, rfl⟩))
  · exact .inr (.inr (.inr ⟨rfl, rfl⟩))
  · simp at hy

/-- The operands of the model's operations evaluate constants to themselves. -/
structure EvConst (ρ : Operand → Value) : Prop where
  con : ∀ v, ρ (.const v) = v
  glo : ∀ g, ρ (.global g) = .pointer (some ⟨g, 0, none⟩)

theorem pure_nil {o : Oper} {op : BinOp} {t yt : TypeId} {x y : Operand} {x' : VO} {k : Nat} {vop : VOp} {r : AV} (ho : o.op = .binOp op t x y yt) (hx : trO P x = some x')
    (ht : (k = 0 ∧ ∃ e, P.underlying t = some (.slice e)) ∨ (k = 1 ∧ ∃ e, P.underlying t = some (.pointer e)) ∨ (k = 2 ∧ ∃ p r v, P.underlying t = some (.func p r v)))
    (hv : trNil k op x' y = some vop) (hp : pval ev vop = some r) (he : OkEv P G w ev ρ) (hc : EvConst ρ) : Yields P ρ o G w d r := by
  unfold trNil at hv
  split at hv
  · rename_i hy
    have hx := he _ _ hx
    have key : ∀ b, isNil? k (ev x') = some b → (Op.equal t (ρ x) (ρ y)).run P w = .ok b w ∧ (∀ x' y', eqGuard op t x' y' (ρ x) (ρ y) = pure ()) ∧
        (binOp .eql t (ρ x) (ρ y) = do pure (.bool (← Op.equal t (ρ x) (ρ y)))) ∧ (binOp .neq t (ρ x) (ρ y) = do pure (.bool (!(← Op.equal t (ρ x) (ρ y))))) := by
      intro b hn
      rcases ht with ⟨rfl, e, ht⟩ | ⟨rfl, e, ht⟩ | ⟨rfl, p, rr, v, ht⟩
      · rcases isNilConst_inv hy with ⟨_, rfl⟩ | ⟨h, _⟩ | ⟨h, _⟩ | ⟨h, _⟩ <;> try (simp at h; done)
        obtain ⟨a, l, c, e1, rfl⟩ := nil_slice hx hn
        rw [e1, hc.con]
        exact ⟨equal_slice_nil t e a l c ht, fun _ _ => by cases op <;> rfl, by simp [binOp], by simp [binOp]⟩
      · rcases isNilConst_inv hy with ⟨h, _⟩ | ⟨_, rfl⟩ | ⟨h, _⟩ | ⟨h, _⟩ <;> try (simp at h; done)
        obtain ⟨a, e1, rfl⟩ := nil_pointer hx hn
        rw [e1, hc.con]
        exact ⟨equal_pointer_nil t e a ht, fun _ _ => by cases op <;> rfl, by cases a <;> simp [binOp], by cases a <;> simp [binOp]⟩
      · rcases isNilConst_inv hy with ⟨h, _⟩ | ⟨h, _⟩ | ⟨_, rfl⟩ | ⟨h, _⟩ <;> try (simp at h; done)
        have e1 := nil_func hx hn
        rw [hc.con]
        refine ⟨equal_func_nil t p rr v _ b ht e1, fun _ _ => ?_, ?_, ?_⟩
        · rcases e1 with ⟨e1, _⟩ | ⟨⟨f, a, c, e1⟩, _⟩ <;> rw [e1] <;> cases op <;> rfl
        · rcases e1 with ⟨e1, _⟩ | ⟨⟨f, a, c, e1⟩, _⟩ <;> rw [e1] <;> simp [binOp]
        · rcases e1 with ⟨e1, _⟩ | ⟨⟨f, a, c, e1⟩, _⟩ <;> rw [e1] <;> simp [binOp]
    cases op <;> simp only [Option.some.injEq, reduceCtorEq] at hv
    all_goals
      subst hv
      simp only [pval] at hp
      split at hp
      · rename_i b hb
        simp only [Option.some.injEq] at hp; subst hp
        obtain ⟨k1, k2, k3, k4⟩ := key b hb
        refine .same (v := .bool _) ?_ (.of (.bool _)) trivial
        first
          | (simp [execOp, ho, k2, k3, k1]; done)
          | (simp [execOp, ho, k2, k4, k1]; done)
      · simp at hp
  · simp at hv

theorem pure_nil3 {o : Oper} {op : BinOp} {t yt : TypeId} {x y : Operand} {x' : VO} {vop : VOp} {r : AV} (ho : o.op = .binOp op t x y yt) (hx : trO P x = some x') {ms : Array (String × TypeId)}
    (ht : P.underlying t = some (.interface ms)) (hv : trNil 3 op x' y = some vop) (hp : pval ev vop = some r) (he : OkEv P G w ev ρ) (hc : EvConst ρ) : Yields P ρ o G w d r := by
  unfold trNil at hv
  split at hv
  · rename_i hy
    have hx := he _ _ hx
    rcases isNilConst_inv hy with ⟨h, _⟩ | ⟨h, _⟩ | ⟨h, _⟩ | ⟨_, rfl⟩ <;> try (simp at h; done)
    have hn : ρ (.const .nilIface) = .nilIface := hc.con _
    have key : ∀ b, isNil? 3 (ev x') = some b → (Op.equal t (ρ x) .nilIface).run P w = .ok b w ∧ (∀ x' op, (eqGuard op t x' (.const .nilIface) (ρ x) .nilIface).run P w = .ok () w) ∧
        (binOp .eql t (ρ x) .nilIface = do pure (.bool (← Op.equal t (ρ x) .nilIface))) ∧ (binOp .neq t (ρ x) .nilIface = do pure (.bool (!(← Op.equal t (ρ x) .nilIface)))) := by
      intro b hb
      generalize ρ x = u at hx
      have hu : (∃ tt v, u = .iface tt v ∧ b = false) ∨ (u = .nilIface ∧ b = true) := by
        cases hxe : ev x' <;> rw [hxe] at hb hx <;> simp [isNil?] at hb
        · cases hx with
          | of h => cases h; exact .inl ⟨_, _, rfl, hb⟩
        · cases hx with
          | of h => cases h; exact .inr ⟨rfl, hb⟩
      rcases hu with ⟨tt, v, rfl, rfl⟩ | ⟨rfl, rfl⟩
      · have k : ∀ d, (Op.equalIn (d + 1) t (.iface tt v) .nilIface).run P w = .ok false w := fun d => by simp [Op.equalIn, run_underlying ht]
        exact ⟨k 9999, fun _ op => by cases op <;> rfl, by simp [binOp], by simp [binOp]⟩
      · have k : ∀ d, (Op.equalIn (d + 1) t .nilIface .nilIface).run P w = .ok true w := fun d => by simp [Op.equalIn, run_underlying ht]
        exact ⟨k 9999, fun x' op => by cases op <;> cases x' <;> rfl, by simp [binOp], by simp [binOp]⟩
    cases op <;> simp only [Option.some.injEq, reduceCtorEq] at hv
    all_goals
      subst hv
      simp only [pval] at hp
      split at hp
      · rename_i b hb
        simp only [Option.some.injEq] at hp; subst hp
        obtain ⟨k1, k2, k3, k4⟩ := key b hb
        refine .same (v := .bool _) ?_ (.of (.bool _)) trivial
        first
          | (simp [execOp, ho, hn, k2, k3, k1]; done)
          | (simp [execOp, ho, hn, k2, k4, k1]; done)
      · simp at hp
  · simp at hv

theorem pure_bin {o : Oper} {op : BinOp} {t yt : TypeId} {x y : Operand} {vop : VOp} {r : AV} (ho : o.op = .binOp op t x y yt)
    (hv : trBin P op t x y = some vop) (hp : pval ev vop = some r) (he : OkEv P G w ev ρ) (hc : EvConst ρ) : Yields P ρ o G w d r := by
  have plain : ∀ x' y', trO P x = some x' → trO P y = some y' → bin? op (ev x') (ev y') = some r → Yields P ρ o G w d r := by
    intro x' y' hx hy hb
    obtain ⟨v, h1, h2, h3, h4⟩ := bin_run (P := P) (t := t) (he _ _ hx) (he _ _ hy) hb
    refine .same (v := v) ?_ h2 h3
    have hg := eqGuard_nothing op t x y (ρ x) (ρ y) h4
    simp [execOp, ho, hg, h1]
  unfold trBin at hv
  split at hv
  · rename_i hx hy
    simp only [Option.some.injEq] at hv; subst hv
    exact plain _ _ hx hy (by simpa [pval] using hp)
  · rename_i hx hy
    simp only [Option.some.injEq] at hv; subst hv
    exact plain _ _ hx hy (by simpa [pval] using hp)
  · rename_i x' y' hu hx hy
    have hx := he _ _ hx
    have hy := he _ _ hy
    cases op <;> simp only [Option.some.injEq, reduceCtorEq] at hv
    all_goals
      subst hv
      simp only [pval] at hp
      split at hp
      · rename_i a b ea eb
        rw [ea] at hx; rw [eb] at hy
        have e1 := hx.bool_inv; have e2 := hy.bool_inv
        simp only [Option.some.injEq] at hp; subst hp
        refine .same (v := .bool _) ?_ (.of (.bool _)) trivial
        first
          | (simp [execOp, ho, e1, e2, eqGuard_at_bool, run_eql_bool _ _ _ _ hu]; done)
          | (simp [execOp, ho, e1, e2, eqGuard_at_bool, run_neq_bool _ _ _ _ hu]; done)
      · simp at hp
  · rename_i fs x' y' hu hx hy
    have hx := he _ _ hx
    have hy := he _ _ hy
    split at hv
    · rename_i ss hss
      split at hv
      · rename_i hh
        have hf : P.fieldsOf t = fs := by simp [Program.fieldsOf, hu]
        cases op <;> simp only [Option.some.injEq, reduceCtorEq] at hv
        all_goals
          subst hv
          simp only [pval] at hp
          split at hp
          · rename_i xs ys ea eb
            rw [ea] at hx; rw [eb] at hy
            obtain ⟨us, e1, l1, r1⟩ := hx.agg_inv
            obtain ⟨vs, e2, l2, r2⟩ := hy.agg_inv
            split at hp
            · rename_i b hb
              simp only [Option.some.injEq] at hp; subst hp
              refine .same (v := .bool _) ?_ (.of (.bool _)) trivial
              have h1 := eqCells_run (P := P) 9998 l1 l2 r1 r2 fs.toList ss b hss hb
              have h2 := run_equalIn_agg w 9999 t us vs (hf ▸ hu) hh.1
              rw [hf, h1] at h2
              first
                | (simp [execOp, ho, e1, e2, run_eqGuard_agg w _ _ _ _ _ _ hh.2, run_eql_struct, h2]; done)
                | (simp [execOp, ho, e1, e2, run_eqGuard_agg w _ _ _ _ _ _ hh.2, run_neq_struct, h2]; done)
            · simp at hp
          · simp at hp
      · simp at hv
    · simp at hv
  · rename_i hu hx
    exact pure_nil (k := 0) ho hx (.inl ⟨rfl, _, hu⟩) hv hp he hc
  · rename_i hu hx
    exact pure_nil (k := 1) ho hx (.inr (.inl ⟨rfl, _, hu⟩)) hv hp he hc
  · rename_i hu hx
    exact pure_nil (k := 2) ho hx (.inr (.inr ⟨rfl, _, _, _, hu⟩)) hv hp he hc
  · rename_i hu hx
    exact pure_nil3 ho hx hu hv hp he hc
  · simp at hv

end
end Go.Vm
/- The pure operations' soundness: conversions, addresses, indexes, lengths; all together. -/
namespace Go.Vm

section
variable {P : Program} {ρ : Operand → Value} {G : Gh} {w : World} {ev : VO → AV} {d : Nat}

theorem sizeOf_run {t : TypeId} {n : Nat} (h : szOf P t = some n) : (sizeOf t).run P w = .ok n w := by
  unfold szOf at h
  cases hi : P.info? t with
  | none => simp [hi] at h
  | some i => simp [hi] at h; simp [sizeOf, typeInfo, hi, h]

theorem pure_cint {o : Oper} {src dst : TypeId} {x : Operand} {x' : VO} {k k' : IntKind} {r : AV} (ho : o.op = .convert src dst x) (hs : P.underlying src = some (.int k'))
    (hd : P.underlying dst = some (.int k)) (hx : trO P x = some x') (hp : pval ev (.cint k x') = some r) (he : OkEv P G w ev ρ) : Yields P ρ o G w d r := by
  simp only [pval] at hp
  have hx := he _ _ hx
  split at hp
  · rename_i hv
    rw [hv] at hx
    have e := hx.int_inv
    simp only [Option.some.injEq] at hp; subst hp
    refine .same (v := .int _ _) ?_ (.of (.int _ _)) trivial
    simp [execOp, ho, e, convert, run_underlying hs, run_underlying hd, Conv.intToInt]
  · simp at hp

theorem pure_cstr {o : Oper} {src dst : TypeId} {x : Operand} {x' : VO} {r : AV} (ho : o.op = .convert src dst x) (hs : P.underlying src = some .string)
    (hd : P.underlying dst = some .string) (hx : trO P x = some x') (hp : pval ev (.cstr x') = some r) (he : OkEv P G w ev ρ) : Yields P ρ o G w d r := by
  simp only [pval] at hp
  have hx := he _ _ hx
  split at hp
  · rename_i hv
    rw [hv] at hx
    obtain ⟨s, e, rfl⟩ := hx.str_inv
    simp only [Option.some.injEq] at hp; subst hp
    refine .same (v := .string s) ?_ (.of (.str s)) trivial
    simp [execOp, ho, e, convert, run_underlying hs, run_underlying hd]
  · simp at hp

theorem flat_ints (k : IntKind) : ∀ l : List UInt8, flat (l.map fun b => AV.int k b.toNat) = l.map fun b => AV.int k b.toNat
  | [] => rfl
  | b :: l => by
    have := flat_ints k l
    simp only [flat, List.map_cons, List.flatMap_cons, AV.cells] at this ⊢
    rw [this]; rfl

/-- The ghost with a role for a new block. -/
def Gh.newRole (G : Gh) (n : Nat) (r : Owner × Option Nat) : Gh := { G with role := fun b => if b = n then r else G.role b }

theorem newRole_at (G : Gh) (n : Nat) (r : Owner × Option Nat) : (G.newRole n r).role n = r := by simp [Gh.newRole]
theorem newRole_ne (G : Gh) {n b : Nat} (r : Owner × Option Nat) (h : b ≠ n) : (G.newRole n r).role b = G.role b := by simp [Gh.newRole, h]

theorem heap_alloc_lt (w : World) (o : Obj) {b : Nat} (h : b < w.heap.size) : (w.alloc o).heap[b]? = w.heap[b]? := by
  show (w.heap.push o)[b]? = _
  rw [Array.getElem?_push, if_neg (by omega)]
theorem heap_alloc_at (w : World) (o : Obj) {n : Nat} (hn : n = w.heap.size) : (w.alloc o).heap[n]? = some o := by
  subst hn
  show (w.heap.push o)[w.heap.size]? = _
  rw [Array.getElem?_push, if_pos rfl]

/-- The same memory, perhaps with another count of draws. -/
structure Drawn (w w1 : World) : Prop where
  os : w1.os = w.os
  tape : w1.tape = w.tape
  output : w1.output = w.output
  heap : w1.heap = w.heap

theorem Drawn.refl (w : World) : Drawn w w := ⟨rfl, rfl, rfl, rfl⟩
theorem Drawn.drew (w : World) : Drawn w w.drew := ⟨rfl, rfl, rfl, rfl⟩

theorem alloc_grow (G : Gh) {w w1 : World} (h : Drawn w w1) (o : Obj) (r : Owner × Option Nat) : Grow G w (G.newRole w.heap.size r) (w1.alloc o) where
  os := h.os
  tape := h.tape
  output := h.output
  size := by simp [h.heap]
  old b hb := by
    refine ⟨?_, newRole_ne _ _ (by omega)⟩
    rw [heap_alloc_lt w1 o (by rw [h.heap]; exact hb), h.heap]
  mb := rfl
  lb := rfl

theorem cell?_alloc_cells {w w1 : World} (h : Drawn w w1) (arr : Array Value) (T : TypeId) (fr : Nat × Nat) (j : Nat) : (w1.alloc (.cells arr T fr)).cell? ⟨w.heap.size, j, none⟩ = arr[j]? := by
  unfold World.cell?
  rw [show (w1.alloc (.cells arr T fr)).heap[w.heap.size]? = some (.cells arr T fr) from heap_alloc_at _ _ (by rw [h.heap])]
  simp

theorem frozen?_alloc_cells {w w1 : World} (h : Drawn w w1) (arr : Array Value) (T : TypeId) (j : Nat) : (w1.alloc (.cells arr T (0, 0))).frozen? ⟨w.heap.size, j, none⟩ = false := by
  unfold World.frozen?
  rw [show (w1.alloc (.cells arr T (0, 0))).heap[w.heap.size]? = some (.cells arr T (0, 0)) from heap_alloc_at _ _ (by rw [h.heap])]
  simp

/-- A new block that a vector lies in. -/
theorem new_vec {G : Gh} {w w1 : World} (h : Drawn w w1) (own : Option Nat) (xs : List AV) (arr : Array Value) (T : TypeId) (fr : Nat × Nat) (cap st : Nat) (r : Owner × Option Nat)
    (hcap : xs.length ≤ cap) (hst : ∀ x ∈ xs, x.cells.length = st) (hr : r.2 = none ∨ r.2 = some (flat xs).length) (hlen : (flat xs).length ≤ arr.size)
    (hx : ∀ (j : Nat) (h1 : j < (flat xs).length) (h2 : j < arr.size), Rep G w (flat xs)[j] arr[j]) :
    Rep (G.newRole w.heap.size r) (w1.alloc (.cells arr T fr)) (.vec own true xs) (.slice (some ⟨w.heap.size, 0, none⟩) xs.length cap) := by
  refine .vec own xs w.heap.size 0 cap st (fun j => arr.getD j undef) hcap hst (fun j hj => ?_) (fun j hj => ?_)
  · refine ⟨?_, ?_⟩
    · unfold stable
      rw [newRole_at]
      rcases hr with hr | hr <;> rw [hr]
      · trivial
      · simpa using hj
    · rw [cell?_alloc_cells h]
      have : j < arr.size := by omega
      simp [this]
  · have h2 : j < arr.size := by omega
    have := (hx j hj h2).mono (alloc_grow G h (.cells arr T fr) r).le
    simpa [h2] using this

theorem new_own {G : Gh} {w w1 : World} (h : Drawn w w1) (d z : Nat) (xs : List AV) (arr : Array Value) (T : TypeId) (cap : Nat)
    (hst : ∀ x ∈ xs, x.cells.length = z) (hlen : cap * z ≤ arr.size) :
    OwnAt (G.newRole w.heap.size (.slot d, some (flat xs).length)) (w1.alloc (.cells arr T (0, 0))) (.slot d) (.vec (some z) true xs) (.slice (some ⟨w.heap.size, 0, none⟩) xs.length cap) := by
  intro z' nn xs' e
  simp only [AV.vec.injEq, Option.some.injEq] at e
  obtain ⟨rfl, rfl, rfl⟩ := e
  refine ⟨hst, fun b off len cap' ev => ?_⟩
  simp only [Value.slice.injEq, Option.some.injEq, Addr.mk.injEq, and_true] at ev
  obtain ⟨⟨rfl, rfl⟩, rfl, rfl⟩ := ev
  refine .inr ⟨by simp [h.heap], ?_, fun k hk hk' => ⟨?_, frozen?_alloc_cells h _ _ _⟩⟩
  · rw [newRole_at]; simp
  · rw [cell?_alloc_cells h]
    have : k < arr.size := by omega
    exact ⟨arr[k], by simp [this]⟩

theorem pure_bytesOf {o : Oper} {src dst e : TypeId} {x : Operand} {x' : VO} {r : AV} (ho : o.op = .convert src dst x) (hs : P.underlying src = some .string)
    (hd : P.underlying dst = some (.slice e)) (hel : P.underlying e = some (.int .u8)) (hx : trO P x = some x') (hp : pval ev (.bytesOf x') = some r) (he : OkEv P G w ev ρ) : Yields P ρ o G w d r := by
  simp only [pval] at hp
  have hx := he _ _ hx
  split at hp
  · rename_i hv
    rw [hv] at hx
    obtain ⟨s, ee, rfl⟩ := hx.str_inv
    simp only [Option.some.injEq] at hp; subst hp
    have hrun := run_bytes_of_string (P := P) w src dst e s hs hd hel
    rw [← ee] at hrun
    have hl : (s.data.toList.map fun b => AV.int .u8 b.toNat).length = s.size := by rw [List.length_map]; exact Array.length_toList
    have hcap : s.size ≤ grownCap w s.size 0 e := grownCap_ge w s.size 0 e
    have hrep := new_vec (G := G) (Drawn.drew w) none (s.data.toList.map fun b => AV.int .u8 b.toNat) (bytesRow s (grownCap w s.size 0 e)) e
      ((bytesRow s (grownCap w s.size 0 e)).size, (bytesRow s (grownCap w s.size 0 e)).size + 1) (grownCap w s.size 0 e) 1 (.ext, none) (by rw [hl]; exact hcap)
      (by intro x hx; simp at hx; obtain ⟨b, _, rfl⟩ := hx; rfl) (.inl rfl) (by rw [flat_ints]; simp [bytesRow])
      (by
        intro j h1 h2
        simp only [flat_ints] at h1 ⊢
        simp at h1
        simp [bytesRow, h1]
        exact .int _ _)
    rw [hl] at hrep
    refine ⟨_, _, _, ?_, alloc_grow G (Drawn.drew w) _ _, .of hrep, OwnAt.of_notOwn trivial⟩
    simp only [execOp, ho, Sem.run_bind, hrun, Result.andThen_ok, Sem.run_pure]
  · simp at hp

theorem bytesV_inv : ∀ (xs : List AV) (bs : List UInt8), bytesV xs = some bs → ∃ ns : List Int, xs = ns.map (AV.int .u8) ∧ bs = ns.map fun n => UInt8.ofNat n.toNat
  | [], bs, h => by simp only [bytesV, Option.some.injEq] at h; subst h; exact ⟨[], rfl, rfl⟩
  | x :: rest, bs, h => by
    unfold bytesV at h
    split at h
    · simp_all
    · rename_i n rest' e
      split at h
      · rename_i bs' hr
        simp only [List.cons.injEq] at e
        obtain ⟨rfl, rfl⟩ := e
        simp only [Option.some.injEq] at h; subst h
        obtain ⟨ns, h1, h2⟩ := bytesV_inv _ _ hr
        exact ⟨n :: ns, by rw [h1]; rfl, by rw [h2]; rfl⟩
      · simp at h
    · simp at h

theorem flat_nums (k : IntKind) : ∀ l : List Int, flat (l.map (AV.int k)) = l.map (AV.int k)
  | [] => rfl
  | b :: l => by
    have := flat_nums k l
    simp only [flat, List.map_cons, List.flatMap_cons, AV.cells] at this ⊢
    rw [this]; rfl

theorem pure_strOf {o : Oper} {src dst e : TypeId} {x : Operand} {x' : VO} {r : AV} (ho : o.op = .convert src dst x) (hs : P.underlying src = some (.slice e))
    (hd : P.underlying dst = some .string) (hel : P.underlying e = some (.int .u8)) (hx : trO P x = some x') (hp : pval ev (.strOf x') = some r) (he : OkEv P G w ev ρ) : Yields P ρ o G w d r := by
  simp only [pval] at hp
  have hx := he _ _ hx
  split at hp
  · rename_i ow nn xs hv
    rw [hv] at hx
    split at hp
    · rename_i bs hb
      simp only [Option.some.injEq] at hp; subst hp
      obtain ⟨ns, rfl, rfl⟩ := bytesV_inv _ _ hb
      have fin : (convert src dst (ρ x)).run P w = .ok (.string (strOfNums ns)) w → Yields P ρ o G w d (.str (ns.map fun n => UInt8.ofNat n.toNat)) := by
        intro hrun
        refine .same (v := .string (strOfNums ns)) ?_ (.of (.str (strOfNums ns))) trivial
        simp only [execOp, ho, Sem.run_bind, hrun, Result.andThen_ok, Sem.run_pure]
      rcases hx.vec_inv with ⟨_, hnil, hval⟩ | ⟨b, off, cap, st, vals, _, hval, _, _, hc, hr⟩ | ⟨a, _, hnil, hval⟩
      rotate_left 2
      · have hn : ns = [] := by simpa using hnil
        subst hn
        apply fin
        rw [hval, run_convert_bytes_string w src dst e _ 0 0 hs hel hd]
        simp [Conv.bytesToString, strOfNums, loadCells, loadCellsFrom]
        rfl
      · have hn : ns = [] := by simpa using hnil
        subst hn
        apply fin
        rw [hval]
        exact run_convert_bytes_nil w src e hs hel 0 0 dst hd
      · apply fin
        rw [hval, List.length_map]
        refine run_convert_bytes_arg w src e hs hel b off ns.length cap ns rfl (fun i hi => ?_) dst hd
        rw [flat_nums] at hc
        have h1 := (hc i (by simpa using hi)).2
        have h2 := hr i (by rw [flat_nums]; simpa using hi)
        simp only [flat_nums, List.getElem_map] at h2
        rw [h1]
        generalize vals i = u at h2
        cases h2
        simp [List.getD, hi]
    · simp at hp
  · simp at hp

theorem add_off (b o n : Nat) : Addr.add ⟨b, o, none⟩ n = ⟨b, o + n, none⟩ := Addr.add_lit b o n

theorem pure_faddr {o : Oper} {t : TypeId} {x : Operand} {x' : VO} {i n : Nat} {fs : Array Field} {f : Field} {r : AV} (ho : o.op = .fieldAddr t x i) (ht : P.underlying t = some (.struct fs))
    (hf : fs[i]? = some f) (hn : szOf P f.type = some (n + 1)) (hx : trO P x = some x') (hp : pval ev (.faddr f.offset x') = some r) (he : OkEv P G w ev ρ) : Yields P ρ o G w d r := by
  simp only [pval] at hp
  have hx := he _ _ hx
  have hs : (sizeOf f.type).run P w = .ok (n + 1) w := sizeOf_run hn
  split at hp
  · rename_i hv
    rw [hv] at hx
    obtain ⟨b, hb, e⟩ := hx.ptr_inv
    simp only [Option.some.injEq] at hp; subst hp
    refine .same (v := .pointer (some ⟨b, _ + f.offset, none⟩)) ?_ (RepT.ptr_mk hb) trivial
    simp [execOp, ho, e, Instr.fieldAt, run_underlying ht, hf, Instr.sureAddr, fieldPlace, hs, add_off]
  · rename_i hv
    rw [hv] at hx
    obtain ⟨b, o', vals, e, h1, h2⟩ := hx.vptr_inv
    simp only [Option.some.injEq] at hp; subst hp
    refine .same (v := .pointer (some ⟨b, o' + (_ + f.offset), none⟩)) ?_ (.of (.vptr _ _ b o' vals h1 h2)) trivial
    simp [execOp, ho, e, Instr.fieldAt, run_underlying ht, hf, Instr.sureAddr, fieldPlace, hs, add_off, Nat.add_assoc]
  · simp at hp

theorem pure_field {o : Oper} {t : TypeId} {x : Operand} {x' : VO} {i : Nat} {fs : Array Field} {f : Field} {ag : Option Nat} {r : AV} (ho : o.op = .field t x i) (ht : P.underlying t = some (.struct fs))
    (hf : fs[i]? = some f) (ha : aggOf P f.type = some ag) (hx : trO P x = some x') (hp : pval ev (.field f.offset ag x') = some r) (he : OkEv P G w ev ρ) : Yields P ρ o G w d r := by
  simp only [pval] at hp
  have hx := he _ _ hx
  split at hp
  · rename_i hv
    rw [hv] at hx
    obtain ⟨vs, e, hl, h⟩ := hx.agg_inv
    obtain ⟨v, h1, h2, h3⟩ := part_rep (P := P) ha hl h hp
    refine .same (v := v) ?_ (.of h2) h3
    simp [execOp, ho, e, Instr.field, run_underlying ht, hf, asAgg, h1]
  · simp at hp

theorem flat_get {z : Nat} : ∀ {xs : List AV} (_ : ∀ x ∈ xs, x.cells.length = z) (i j : Nat) (e : AV), xs[i]? = some e → j < z → (flat xs)[i * z + j]? = e.cells[j]? ∧ i * z + j < (flat xs).length
  | [], _, i, j, e, h, _ => by simp at h
  | x :: xs, hz, i, j, e, h, hj => by
    have hx : x.cells.length = z := hz x (by simp)
    cases i with
    | zero =>
      simp at h; subst h
      simp only [flat, List.flatMap_cons, Nat.zero_mul, Nat.zero_add, List.length_append]
      exact ⟨by rw [List.getElem?_append_left (by omega)], by omega⟩
    | succ i =>
      have ih := flat_get (z := z) (xs := xs) (fun y hy => hz y (by simp [hy])) i j e (by simpa using h) hj
      simp only [flat, List.flatMap_cons, List.length_append] at ih ⊢
      have e1 : (i + 1) * z + j = z + (i * z + j) := by rw [Nat.add_mul]; omega
      rw [e1]
      refine ⟨?_, by omega⟩
      rw [List.getElem?_append_right (by omega), hx, Nat.add_sub_cancel_left]
      exact ih.1

theorem pure_iaddrSl {o : Oper} {t e : TypeId} {x i : Operand} {x' i' : VO} {n : Nat} {r : AV} (ho : o.op = .indexAddr t x i) (ht : P.underlying t = some (.slice e)) (hn : szOf P e = some n)
    (hx : trO P x = some x') (hi : trO P i = some i') (hp : pval ev (.iaddrSl n x' i') = some r) (he : OkEv P G w ev ρ) : Yields P ρ o G w d r := by
  simp only [pval] at hp
  have hx := he _ _ hx
  have hi := he _ _ hi
  have hs : (sizeOf e).run P w = .ok n w := sizeOf_run hn
  split at hp
  · rename_i xs k ii hv hiv
    rw [hv] at hx; rw [hiv] at hi
    have ei := hi.int_inv
    split at hp
    · rename_i h0
      split at hp
      · rename_i el hel
        split at hp
        · rename_i hz
          simp only [Option.some.injEq] at hp; subst hp
          rcases hx.vec_inv with ⟨_, rfl, _⟩ | ⟨b, off, cap, st, vals, _, ev', hcap, hst, hc, h⟩ | ⟨_, _, rfl, _⟩
          rotate_left 2
          · simp at hel
          · simp at hel
          · have hlt : ii.toNat < xs.length := by
              rcases Nat.lt_or_ge ii.toNat xs.length with h' | h'
              · exact h'
              · simp [List.getElem?_eq_none h'] at hel
            have hzz : st = n := by rw [← hst el (List.mem_of_getElem? hel), hz]
            subst hzz
            refine .same (v := .pointer (some ⟨b, off + ii.toNat * st + 0, none⟩)) ?_ (.of (.vptr _ 0 b (off + ii.toNat * st) (fun j => vals (ii.toNat * st + j)) ?_ ?_)) trivial
            · have : (0 ≤ ii ∧ ii < (xs.length : Int)) := by omega
              simp [execOp, ho, ev', ei, Instr.indexAt, run_underlying ht, asIntOf, this, hs, add_off]
            · intro j hj
              have := flat_get hst ii.toNat j el hel (by omega)
              have h3 := hc _ this.2
              rw [Nat.add_assoc]
              exact h3
            · intro j hj
              have h2 := flat_get hst ii.toNat j el hel (by omega)
              have h3 := h _ h2.2
              have h4 : (flat xs)[ii.toNat * st + j] = el.cells[j] := by
                have := h2.1
                rw [List.getElem?_eq_getElem hj] at this
                exact (List.getElem?_eq_some_iff.1 this).2
              rw [h4] at h3
              exact h3
        · simp at hp
      · simp at hp
    · simp at hp
  · rename_i ix off len k ii hv hiv
    rw [hv] at hx; rw [hiv] at hi
    have ei := hi.int_inv
    split at hp
    · rename_i hh
      simp only [Option.some.injEq] at hp; subst hp
      obtain ⟨b, cap, hb, e1, hcap⟩ := hx.row_inv
      refine .same (v := .pointer (some ⟨b, off + ii.toNat * n, none⟩)) ?_ (RepT.ptr_mk hb) trivial
      simp [execOp, ho, e1, ei, Instr.indexAt, run_underlying ht, asIntOf, hh, hs, add_off]
    · simp at hp
  · rename_i m len k ii hv hiv
    rw [hv] at hx; rw [hiv] at hi
    have ei := hi.int_inv
    split at hp
    · rename_i hh
      simp only [Option.some.injEq] at hp; subst hp
      obtain ⟨b, cap, hb, e1, hcap, _⟩ := hx.orow_inv
      refine .same (v := .pointer (some ⟨b, 0 + ii.toNat * n, none⟩)) ?_ (RepT.ptr_mk hb) trivial
      simp [execOp, ho, e1, ei, Instr.indexAt, run_underlying ht, asIntOf, hh, hs, add_off]
    · simp at hp
  · simp at hp

theorem pure_iaddrArr {o : Oper} {t e : TypeId} {x i : Operand} {x' i' : VO} {n len : Nat} {r : AV} (ho : o.op = .indexAddr t x i) (ht : P.underlying t = some (.array len e)) (hn : szOf P e = some n)
    (hx : trO P x = some x') (hi : trO P i = some i') (hp : pval ev (.iaddrArr len n x' i') = some r) (he : OkEv P G w ev ρ) : Yields P ρ o G w d r := by
  simp only [pval] at hp
  have hx := he _ _ hx
  have hi := he _ _ hi
  have hs : (sizeOf e).run P w = .ok n w := sizeOf_run hn
  split at hp
  · rename_i ix oo k ii hv hiv
    rw [hv] at hx; rw [hiv] at hi
    have ei := hi.int_inv
    split at hp
    · rename_i hh
      simp only [Option.some.injEq] at hp; subst hp
      obtain ⟨b, hb, e1⟩ := hx.ptr_inv
      refine .same (v := .pointer (some ⟨b, oo + ii.toNat * n, none⟩)) ?_ (RepT.ptr_mk hb) trivial
      simp [execOp, ho, e1, ei, Instr.indexAt, Instr.sureAddr, run_underlying ht, asIntOf, hh, hs, add_off]
    · simp at hp
  · rename_i cs oo k ii hv hiv
    rw [hv] at hx; rw [hiv] at hi
    have ei := hi.int_inv
    split at hp
    · rename_i hh
      simp only [Option.some.injEq] at hp; subst hp
      obtain ⟨b, o', vals, e1, h1, h2⟩ := hx.vptr_inv
      refine .same (v := .pointer (some ⟨b, o' + (oo + ii.toNat * n), none⟩)) ?_ (.of (.vptr _ _ b o' vals h1 h2)) trivial
      simp [execOp, ho, e1, ei, Instr.indexAt, Instr.sureAddr, run_underlying ht, asIntOf, hh, hs, add_off, Nat.add_assoc]
    · simp at hp
  · simp at hp

theorem pure_idxArr {o : Oper} {t e : TypeId} {x i : Operand} {x' i' : VO} {n len : Nat} {ag : Option Nat} {r : AV} (ho : o.op = .index t x i) (ht : P.underlying t = some (.array len e)) (hn : szOf P e = some n)
    (ha : aggOf P e = some ag) (hx : trO P x = some x') (hi : trO P i = some i') (hp : pval ev (.idxArr len n ag x' i') = some r) (he : OkEv P G w ev ρ) : Yields P ρ o G w d r := by
  simp only [pval] at hp
  have hx := he _ _ hx
  have hi := he _ _ hi
  have hs : (sizeOf e).run P w = .ok n w := sizeOf_run hn
  split at hp
  · rename_i cs k ii hv hiv
    rw [hv] at hx; rw [hiv] at hi
    have ei := hi.int_inv
    split at hp
    · rename_i hh
      obtain ⟨vs, e1, hl, h⟩ := hx.agg_inv
      obtain ⟨v, h1, h2, h3⟩ := part_rep (P := P) ha hl h hp
      refine .same (v := v) ?_ (.of h2) h3
      simp [execOp, ho, e1, ei, Instr.index, run_underlying ht, asIntOf, hh, hs, h1]
    · simp at hp
  · simp at hp

theorem pure_idxStr {o : Oper} {t : TypeId} {x i : Operand} {x' i' : VO} {r : AV} (ho : o.op = .index t x i) (ht : P.underlying t = some .string)
    (hx : trO P x = some x') (hi : trO P i = some i') (hp : pval ev (.idxStr x' i') = some r) (he : OkEv P G w ev ρ) : Yields P ρ o G w d r := by
  simp only [pval] at hp
  have hx := he _ _ hx
  have hi := he _ _ hi
  split at hp
  · rename_i l k ii hv hiv
    rw [hv] at hx; rw [hiv] at hi
    have ei := hi.int_inv
    obtain ⟨s, e1, rfl⟩ := hx.str_inv
    split at hp
    · rename_i h0
      split at hp
      · rename_i b hb
        simp only [Option.some.injEq] at hp; subst hp
        have hlt : ii.toNat < s.size := by
          rcases Nat.lt_or_ge ii.toNat s.size with h' | h'
          · exact h'
          · have : s.data.toList.length ≤ ii.toNat := by have : s.data.toList.length = s.size := Array.length_toList; omega
            simp [List.getElem?_eq_none this] at hb
        have hcond : 0 ≤ ii ∧ ii < (s.size : Int) := by omega
        have hr := run_index_string (P := P) w t s k ii ht
        rw [dif_pos hcond] at hr
        have hbb : s[ii.toNat] = b := by
          have h2 : ii.toNat < s.data.size := hlt
          have h3 : s.data[ii.toNat]? = some b := by simpa using hb
          rw [Array.getElem?_eq_getElem h2] at h3
          exact Option.some.inj h3
        rw [hbb] at hr
        refine .same (v := .int .u8 b.toNat) ?_ (.of (.int _ _)) trivial
        simp only [execOp, ho, e1, ei, Sem.run_bind, hr, Result.andThen_ok, Sem.run_pure]
      · simp at hp
    · simp at hp
  · simp at hp

theorem pure_ext {o : Oper} {x : Operand} {x' : VO} {i : Nat} {r : AV} (ho : o.op = .extract x i) (hx : trO P x = some x')
    (hp : pval ev (.ext x' i) = some r) (he : OkEv P G w ev ρ) : Yields P ρ o G w d r := by
  simp only [pval] at hp
  have hx := he _ _ hx
  split at hp
  · rename_i vs hv
    rw [hv] at hx
    split at hp
    · rename_i a ha
      simp only [Option.some.injEq] at hp; subst hp
      obtain ⟨us, e1, hl, h⟩ := hx.tup_inv
      have hlt : i < vs.length := by
        rcases Nat.lt_or_ge i vs.length with h' | h'
        · exact h'
        · simp [List.getElem?_eq_none h'] at ha
      have hlt' : i < us.size := by omega
      have ea : vs[i] = a := by rw [List.getElem?_eq_getElem hlt] at ha; simpa using ha
      refine .same (v := us[i]) ?_ (.of (ea ▸ (h i hlt hlt').view)) (notOwn_view _)
      simp [execOp, ho, e1, Instr.extract, hlt']
    · simp at hp
  · simp at hp

end
end Go.Vm
/- Composite values, slices of strings, lengths; the pure operations all together. -/
namespace Go.Vm

section
variable {P : Program} {ρ : Operand → Value} {G : Gh} {w : World} {ev : VO → AV} {d : Nat}

/-- A list of cells stands for a list. -/
def RepL (G : Gh) (w : World) (cs : List AV) (vs : List Value) : Prop := cs.length = vs.length ∧ ∀ (i : Nat) (a : AV) (v : Value), cs[i]? = some a → vs[i]? = some v → Rep G w a v

theorem RepL.of_array {cs : List AV} {vs : Array Value} (hl : cs.length = vs.size) (h : ∀ (i : Nat) (h1 : i < cs.length) (h2 : i < vs.size), Rep G w cs[i] vs[i]) : RepL G w cs vs.toList := by
  refine ⟨by simpa using hl, fun i a v ha hv => ?_⟩
  obtain ⟨h1, rfl⟩ := List.getElem?_eq_some_iff.1 ha
  obtain ⟨h2, rfl⟩ := List.getElem?_eq_some_iff.1 hv
  have := h i h1 (by simpa using h2)
  simpa using this

theorem RepL.to_array {cs : List AV} {vs : Array Value} (h : RepL G w cs vs.toList) : cs.length = vs.size ∧ ∀ (i : Nat) (h1 : i < cs.length) (h2 : i < vs.size), Rep G w cs[i] vs[i] := by
  refine ⟨by simpa using h.1, fun i h1 h2 => h.2 i _ _ (List.getElem?_eq_getElem h1) (by simp [h2])⟩

theorem RepL.cells {a : AV} {v : Value} (h : Rep G w a v) (hu : a ≠ .undef) : RepL G w a.cells v.cells.toList := by
  have one : ∀ (a : AV) (v : Value), Rep G w a v → RepL G w [a] [v] := by
    intro a v h
    refine ⟨rfl, fun i a' v' ha hv => ?_⟩
    cases i with
    | zero => simp at ha hv; subst ha; subst hv; exact h
    | succ i => simp at ha
  cases h with
  | undef => exact absurd rfl hu
  | agg cs vs hl h => exact .of_array hl h
  | bool b => exact one _ _ (.bool b)
  | int k n => exact one _ _ (.int k n)
  | str s => exact one _ _ (.str s)
  | tup cs vs hl h => exact one _ _ (.tup cs vs hl h)
  | nilvec o => exact one _ _ (.nilvec o)
  | vec o xs b off cap st vals h1 h2 h3 h4 => exact one _ _ (.vec o xs b off cap st vals h1 h2 h3 h4)
  | row i off len b cap h1 h2 => exact one _ _ (.row i off len b cap h1 h2)
  | ptr i off b h1 => exact one _ _ (.ptr i off b h1)
  | vptr cs off b o vals h1 h2 => exact one _ _ (.vptr cs off b o vals h1 h2)
  | nilptr => exact one _ _ .nilptr
  | fn f cs vs h1 h2 => exact one _ _ (.fn f cs vs h1 h2)
  | nilfn => exact one _ _ .nilfn
  | iface t a v h => exact one _ _ (.iface t a v h)
  | nilIface => exact one _ _ .nilIface
  | zcapNil => exact one _ _ .zcapNil
  | evec o a => exact one _ _ (.evec o a)
  | zcap a => exact one _ _ (.zcap a)
  | orow z i len b cap h1 h2 h3 => exact one _ _ (.orow z i len b cap h1 h2 h3)
  | mapr i b h1 => exact one _ _ (.mapr i b h1)
  | nilmap => exact one _ _ .nilmap
  | tnil T n i l b h1 h2 => exact one _ _ (.tnil T n i l b h1 h2)
  | trow T n i len b cap m h1 h2 h3 h4 => exact one _ _ (.trow T n i len b cap m h1 h2 h3 h4)
  | tptr T n i l b m h1 h2 => exact one _ _ (.tptr T n i l b m h1 h2)

theorem RepL.view {cs : List AV} {vs : List Value} (h : RepL G w cs vs) : RepL G w (cs.map AV.view) vs := by
  refine ⟨by simpa using h.1, fun i a v ha hv => ?_⟩
  simp only [List.getElem?_map, Option.map_eq_some_iff] at ha
  obtain ⟨a', ha', rfl⟩ := ha
  exact (h.2 i a' v ha' hv).view

theorem putCells_length {cs : List AV} {off : Nat} {new : List AV} (h : off + new.length ≤ cs.length) : (putCells cs off new).length = cs.length := by
  simp [putCells]; omega

theorem putCells_get {cs : List AV} {off : Nat} {new : List AV} (h : off + new.length ≤ cs.length) (k : Nat) :
    (putCells cs off new)[k]? = if off ≤ k ∧ k < off + new.length then new[k - off]? else cs[k]? := by
  unfold putCells
  by_cases h1 : k < off
  · rw [if_neg (by omega), List.append_assoc, List.getElem?_append_left (by simp; omega), List.getElem?_take, if_pos h1]
  · by_cases h2 : k < off + new.length
    · rw [if_pos (by omega), List.append_assoc, List.getElem?_append_right (by simp; omega), List.getElem?_append_left (by simp; omega)]
      simp only [List.length_take]
      congr 1
      omega
    · rw [if_neg (by omega), List.getElem?_append_right (by simp; omega), List.getElem?_drop]
      congr 1
      simp
      omega

theorem fill_get (off : Nat) : ∀ (l : List Value) (n : Nat) (cells : Array Value), off + n + l.length ≤ cells.size →
    ((l.zipIdx n).foldl (fun cs (c, j) => cs.setIfInBounds (off + j) c) cells).size = cells.size ∧
    ∀ k, ((l.zipIdx n).foldl (fun cs (c, j) => cs.setIfInBounds (off + j) c) cells)[k]? = if off + n ≤ k ∧ k < off + n + l.length then l[k - (off + n)]? else cells[k]?
  | [], n, cells, _ => by refine ⟨rfl, fun k => ?_⟩; rw [if_neg (by simp only [List.length_nil]; omega)]; rfl
  | v :: l, n, cells, h => by
    simp only [List.length_cons] at h
    obtain ⟨h1, h2⟩ := fill_get off l (n + 1) (cells.setIfInBounds (off + n) v) (by simp; omega)
    simp only [List.zipIdx_cons, List.foldl_cons]
    refine ⟨by rw [h1]; simp, fun k => ?_⟩
    rw [h2 k]
    by_cases hk : k = off + n
    · subst hk
      rw [if_neg (by omega), if_pos (by simp)]
      simp [show off + n < cells.size by omega]
    · by_cases hk2 : off + n < k ∧ k < off + n + (l.length + 1)
      · rw [if_pos (by omega), if_pos (by simp; omega)]
        rw [show k - (off + n) = (k - (off + (n + 1))) + 1 by omega]
        simp
      · rw [if_neg (by omega), if_neg (by simp; omega)]
        rw [Array.getElem?_setIfInBounds_ne (by omega)]

theorem fill_step (off : Nat) (v : Value) (cells : Array Value) (h : off + v.cells.size ≤ cells.size) :
    ∃ r : Array Value, v.cells.zipIdx.foldl (fun cs (c, j) => cs.setIfInBounds (off + j) c) cells = r ∧ r.size = cells.size ∧
    ∀ k, r[k]? = if off ≤ k ∧ k < off + v.cells.size then v.cells[k - off]? else cells[k]? := by
  have := fill_get off v.cells.toList 0 cells (by simpa using h)
  refine ⟨_, rfl, ?_⟩
  rw [← Array.foldl_toList, Array.toList_zipIdx]
  simpa using this

theorem good_inv {a : AV} (h : a.good = true) : a.nl = true ∧ a ≠ .undef := by
  cases a <;> simp_all [AV.good, AV.nl]

/-- Parts laid over cells, as the model does it. -/
theorem fill_ok (he : OkEv P G w ev ρ) (place : Nat → Option (Nat × Nat)) (tr : List (Nat × Operand) → Option (List (Nat × Nat × VO)))
    (htr0 : tr [] = some [])
    (htr : ∀ i x rest r, tr ((i, x) :: rest) = some r → ∃ off n x' r', place i = some (off, n) ∧ trO P x = some x' ∧ tr rest = some r' ∧ r = (off, n, x') :: r') :
    ∀ (parts : List (Nat × Operand)) (aps : List (Nat × Nat × VO)) (cs cs' : List AV) (arr : Array Value), tr parts = some aps → RepL G w cs arr.toList →
      overlay cs (aps.map fun p => (p.1, p.2.1, ev p.2.2)) = some cs' →
      (∀ p ∈ aps, (ev p.2.2).good = true) →
      ∃ arr', Instr.fill place arr (parts.map fun p => (p.1, ρ p.2)) = some arr' ∧ RepL G w cs' arr'.toList
  | [], aps, cs, cs', arr, h, hr, ho, _ => by
    rw [htr0] at h; simp at h; subst h
    simp [overlay] at ho; subst ho
    exact ⟨arr, by simp [Instr.fill], hr⟩
  | (i, x) :: rest, aps, cs, cs', arr, h, hr, ho, hall => by
    obtain ⟨off, n, x', r', hp, hx, hrest, rfl⟩ := htr i x rest aps h
    simp only [List.map_cons, overlay] at ho
    split at ho
    · rename_i hc
      have hok := good_inv (hall (off, n, x') (by simp))
      have hrep := (he _ _ hx).nl hok.1
      have hcl := RepL.cells hrep hok.2
      have hsz : (ρ x).cells.size = n := by have := hcl.1; simp at this; omega
      have hl : arr.size = cs.length := by have := hr.1; simpa using this.symm
      obtain ⟨r, hr1, hr2, hr3⟩ := fill_step off (ρ x) arr (by omega)
      obtain ⟨arr', h1, h2⟩ := fill_ok he place tr htr0 htr rest r' (putCells cs off ((ev x').cells.map AV.view)) cs' r hrest (by
          refine ⟨by rw [putCells_length (by simp; omega)]; simp [hr2]; exact hl.symm, fun k a v ha hv => ?_⟩
          rw [putCells_get (by simp; omega)] at ha
          have hv' : r[k]? = some v := by simpa using hv
          rw [hr3 k] at hv'
          simp only [List.length_map, hc.1] at ha
          rw [hsz] at hv'
          split at ha
          · rename_i hk
            rw [if_pos hk] at hv'
            exact hcl.view.2 (k - off) a v ha (by simpa using hv')
          · rename_i hk
            rw [if_neg hk] at hv'
            exact hr.2 k a v ha (by simpa using hv')) ho (fun p hp => hall p (by simp [hp]))
      refine ⟨arr', ?_, h2⟩
      simp only [List.map_cons, Instr.fill, hp]
      rw [if_neg (by simp [hsz]; omega), hr1]
      exact h1
    · simp at ho

/-- The places of a struct's or an array's parts. -/
def placeOf (P : Program) (t : TypeId) : Option (Nat → Option (Nat × Nat)) :=
  match P.underlying t with
  | some (.array _ e) => match P.info? e with
    | some ie => some fun i => some (i * ie.size, ie.size)
    | none => none
  | some (.struct fs) => match fs.toList.mapM (fun f => (P.info? f.type).map fun i => (f.offset, i.size)) with
    | some ps => some (ps.toArray[·]?)
    | none => none
  | _ => none

def partsAt (P : Program) (place : Nat → Option (Nat × Nat)) : List (Nat × Operand) → Option (List (Nat × Nat × VO))
  | [] => some []
  | (i, x) :: rest => match place i, trO P x, partsAt P place rest with
    | some (off, n), some x, some r => some ((off, n, x) :: r)
    | _, _, _ => none

theorem partsAt_cons (place : Nat → Option (Nat × Nat)) : ∀ i x rest r, partsAt P place ((i, x) :: rest) = some r →
    ∃ off n x' r', place i = some (off, n) ∧ trO P x = some x' ∧ partsAt P place rest = some r' ∧ r = (off, n, x') :: r' := by
  intro i x rest r h
  simp only [partsAt] at h
  split at h
  · rename_i off n x' r' h1 h2 h3
    simp only [Option.some.injEq] at h
    exact ⟨off, n, x', r', h1, h2, h3, h.symm⟩
  · simp at h

theorem pure_build {o : Oper} {t : TypeId} {parts : Array (Nat × Operand)} {place : Nat → Option (Nat × Nat)} {aps : List (Nat × Nat × VO)} {zv : Value} {zcs : List AV} {r : AV}
    (ho : o.op = .build t parts) (hp : placeOf P t = some place) (hz : zeroOf P t = some zv) (hzc : ofCells zv.cells.toList = some zcs) (ha : partsAt P place parts.toList = some aps)
    (hv : pval ev (.build zcs aps) = some r) (he : OkEv P G w ev ρ) : Yields P ρ o G w d r := by
  simp only [pval] at hv
  split at hv
  · rename_i cs hcs
    split at hv
    · rename_i hall
      simp only [Option.some.injEq] at hv; subst hv
      obtain ⟨arr', h1, h2⟩ := fill_ok he place (partsAt P place) rfl (partsAt_cons place) parts.toList aps zcs cs zv.cells ha
        ⟨ofCells_len hzc, fun i a v ha hv => by
          obtain ⟨k1, rfl⟩ := List.getElem?_eq_some_iff.1 ha
          obtain ⟨k2, rfl⟩ := List.getElem?_eq_some_iff.1 hv
          exact Rep.ofCells G w hzc i k1 k2⟩ hcs (fun p hp => by simpa using List.all_eq_true.1 hall p hp)
      have hb : P.built t (parts.map fun (i, x) => (i, ρ x)).toList = some arr' := by
        have e1 : (parts.map fun (i, x) => (i, ρ x)).toList = parts.toList.map fun p => (p.1, ρ p.2) := by simp
        rw [e1]
        unfold placeOf at hp
        unfold zeroOf at hz
        unfold Program.built
        cases hi : P.info? t with
        | none => simp [hi] at hz
        | some it =>
          simp [hi] at hz
          split at hp
          · rename_i n e hu
            split at hp
            · rename_i ie hie
              simp only [Option.some.injEq] at hp; subst hp
              simp only [hu, hz, hie]
              exact h1
            · simp at hp
          · rename_i fs hu
            split at hp
            · rename_i ps hps
              simp only [Option.some.injEq] at hp; subst hp
              simp only [hu, hz, hps]
              exact h1
            · simp at hp
          · simp at hp
      have hrun := run_build (P := P) w t _ arr' hb
      refine .same (v := .agg arr') ?_ (.of ?_) trivial
      · simp only [execOp, ho, Sem.run_bind, hrun, Result.andThen_ok, Sem.run_pure]
      · have := h2.to_array
        exact .agg _ _ this.1 this.2
    · simp at hv
  · simp at hv

theorem pure_lenSl {o : Oper} {t e : TypeId} {x : Operand} {x' : VO} {r : AV} (ho : ∃ c, o.op = .call c ∧ c.callee = .builtin .len ∧ c.args = #[x] ∧ c.argTypes = #[t]) (ht : P.underlying t = some (.slice e))
    (hx : trO P x = some x') (hp : pval ev (.lenSl x') = some r) (he : OkEv P G w ev ρ) : Yields P ρ o G w d r := by
  simp only [pval] at hp
  have hx := he _ _ hx
  obtain ⟨c, ho, h1, h2, h3⟩ := ho
  have hrun : ∀ b n cp, ρ x = .slice b n cp → (execOp ρ o).run P w = .ok (.value (.int .i64 n)) w := by
    intro b n cp e1
    simp [execOp, ho, resolve, h1, h2, h3, invoke, builtin, Builtin.len_, run_underlying ht, e1, goInt]
  split at hp
  · rename_i xs hv
    rw [hv] at hx
    simp only [Option.some.injEq] at hp; subst hp
    rcases hx.vec_inv with ⟨_, rfl, e1⟩ | ⟨b, off, cap, st, vals, _, e1, _⟩ | ⟨_, _, rfl, e1⟩
    · exact .same (hrun _ _ _ e1) (.of (.int _ _)) trivial
    · exact .same (hrun _ _ _ e1) (.of (.int _ _)) trivial
    · exact .same (hrun _ _ _ e1) (.of (.int _ _)) trivial
  · rename_i hv
    rw [hv] at hx
    simp only [Option.some.injEq] at hp; subst hp
    obtain ⟨b, cap, _, e1, _⟩ := hx.row_inv
    exact .same (hrun _ _ _ e1) (.of (.int _ _)) trivial
  · rename_i hv
    rw [hv] at hx
    simp only [Option.some.injEq] at hp; subst hp
    obtain ⟨b, cap, _, e1, _⟩ := hx.orow_inv
    exact .same (hrun _ _ _ e1) (.of (.int _ _)) trivial
  · rename_i nn hv
    rw [hv] at hx
    simp only [Option.some.injEq] at hp; subst hp
    rcases hx.zcap_inv with ⟨_, e1⟩ | ⟨_, _, e1⟩
    · exact .same (hrun _ _ _ e1) (.of (.int _ _)) trivial
    · exact .same (hrun _ _ _ e1) (.of (.int _ _)) trivial
  · rename_i hv
    rw [hv] at hx
    simp only [Option.some.injEq] at hp; subst hp
    obtain ⟨b, cap, m, _, e1, _⟩ := hx.trow_inv
    exact .same (hrun _ _ _ e1) (.of (.int _ _)) trivial
  · simp at hp

theorem pure_lenStr {o : Oper} {t : TypeId} {x : Operand} {x' : VO} {r : AV} (ho : ∃ c, o.op = .call c ∧ c.callee = .builtin .len ∧ c.args = #[x] ∧ c.argTypes = #[t]) (ht : P.underlying t = some .string)
    (hx : trO P x = some x') (hp : pval ev (.lenStr x') = some r) (he : OkEv P G w ev ρ) : Yields P ρ o G w d r := by
  simp only [pval] at hp
  have hx := he _ _ hx
  obtain ⟨c, ho, h1, h2, h3⟩ := ho
  split at hp
  · rename_i xs hv
    rw [hv] at hx
    simp only [Option.some.injEq] at hp; subst hp
    obtain ⟨s, e1, rfl⟩ := hx.str_inv
    have hl : s.data.toList.length = s.size := Array.length_toList
    refine .same (v := .int .i64 s.data.toList.length) ?_ (.of (.int _ _)) trivial
    rw [hl]
    simp [execOp, ho, resolve, h1, h2, h3, invoke, builtin, Builtin.len_, run_underlying ht, e1, goInt]
  · simp at hp

theorem findIdx_range (l : List UInt8) (c : UInt8) (s : ByteArray) (hs : s.data.toList = l) : (List.range s.size).find? (fun i => s[i]! == c) = l.findIdx? (fun b => b == c) := by
  have hsz : s.size = l.length := by rw [← hs]; exact Array.length_toList.symm
  have hget : ∀ i (h : i < l.length), s[i]! = l[i] := by
    intro i h
    subst hs
    have h2 : i < s.size := by rw [hsz]; exact h
    rw [getElem!_pos s i h2]
    rfl
  cases hf : l.findIdx? (fun b => b == c) with
  | none =>
    rw [List.findIdx?_eq_none_iff] at hf
    rw [List.find?_eq_none]
    intro i hi
    rw [List.mem_range, hsz] at hi
    rw [hget i hi]
    have := hf _ (List.getElem_mem hi)
    simpa using this
  | some k =>
    rw [List.findIdx?_eq_some_iff_getElem] at hf
    obtain ⟨hk, h1, h2⟩ := hf
    rw [List.find?_eq_some_iff_append]
    refine ⟨by rw [hget k hk]; exact h1, List.range k, (List.range (s.size - k - 1)).map (fun i => k + 1 + i), ?_, ?_⟩
    · have e : s.size = k + (1 + (s.size - k - 1)) := by omega
      conv => lhs; rw [e, List.range_add, List.range_add]
      simp [Nat.add_assoc]
    · intro j hj
      rw [List.mem_range] at hj
      rw [hget j (by omega)]
      have := h2 j hj
      simpa using this

theorem next_ibs : Extern.allNextRows.lookup "internal/bytealg.IndexByteString" = none := by kernel_rfl
theorem next_nil : Extern.allNextRows.lookup "" = none := by kernel_rfl
theorem gen_ibs : Extern.allGenericRows.lookup "internal/bytealg.IndexByteString" = none := by kernel_rfl
theorem typ_ibs : Extern.allTypedRows.lookup "internal/bytealg.IndexByteString" = none := by kernel_rfl
theorem row_ibs : Extern.allRows.lookup "internal/bytealg.IndexByteString" = some Extern.BytealgIndexByte.indexByte := by kernel_rfl
theorem next_cs : Extern.allNextRows.lookup "internal/bytealg.CountString" = none := by kernel_rfl
theorem gen_cs : Extern.allGenericRows.lookup "internal/bytealg.CountString" = none := by kernel_rfl
theorem typ_cs : Extern.allTypedRows.lookup "internal/bytealg.CountString" = none := by kernel_rfl
theorem row_cs : Extern.allRows.lookup "internal/bytealg.CountString" = some Extern.BytealgCount.count := by kernel_rfl
theorem run_count_string (bs : ByteArray) (c : Int) (w : World) : (Extern.BytealgCount.count #[.string bs, .int .u8 c]).run P w = .ok (.int .i64 (bs.data.toList.count c.toNat.toUInt8 : Nat)) w :=
  Lib.run_countString bs c w
theorem pure_extn {o : Oper} {f : FuncId} {k : Nat} {xs : List VO} {r : AV} (ho : ∃ c, o.op = .call c ∧ c.callee = .value (.func f) ∧ trList P c.args.toList = some xs) (hk : extOf P f = some k)
    (hp : pval ev (.extn k xs) = some r) (he : OkEv P G w ev ρ) (hf : ρ (.func f) = .func (.func f) #[] #[]) : Yields P ρ o G w d r := by
  unfold extOf at hk
  split at hk
  · rename_i fn hfn
    split at hk
    · rename_i hc
      obtain ⟨h1, h2, h3⟩ := hc
      simp only [Option.some.injEq] at hk; subst hk
      simp only [pval] at hp
      obtain ⟨c, ho, hcal, hargs⟩ := ho
      obtain ⟨hl, hr⟩ := trList_ok he hargs
      have hname : (fn.name == "runtime.NumGoroutine") = false := by rw [h2]; decide
      have hnx : Extern.findNext fn = none := by
        unfold Extern.findNext
        simp only [h2]
        rcases h3 with h3 | h3 <;> simp only [h3, next_ibs, next_nil] <;> rfl
      have hfd : Extern.find fn = some Extern.BytealgIndexByte.indexByte := by
        unfold Extern.find
        simp only [h2, gen_ibs, typ_ibs, row_ibs]
        rfl
      unfold extnV at hp
      split at hp
      · rename_i s cc _ hxs
        simp only [Option.some.injEq] at hp; subst hp
        have hlen : xs.length = 2 := by have := congrArg List.length hxs; simpa using this
        match xs, hlen with
        | [x, y], _ =>
          simp only [List.map_cons, List.map_nil, List.cons.injEq, and_true] at hxs
          obtain ⟨e1, e2⟩ := hxs
          cases hal : c.args.toList with
          | nil => rw [hal] at hl; simp at hl
          | cons z zs =>
            cases zs with
            | nil => rw [hal] at hl; simp at hl
            | cons z2 zs2 =>
              have hz2 : zs2 = [] := by rw [hal] at hl; simp at hl; exact hl
              subst hz2
              have r0 := hr 0 (by simp) (by simp [hal])
              have r1 := hr 1 (by simp) (by simp [hal])
              simp only [hal, List.getElem_cons_zero, List.getElem_cons_succ] at r0 r1
              rw [e1] at r0
              rw [e2] at r1
              obtain ⟨bs, q1, q2⟩ := r0.str_inv
              have q3 := r1.int_inv
              have hargsv : c.args.map ρ = #[.string bs, .int .u8 cc] := by
                rw [← Array.toList_inj]
                simp [hal, q1, q3]
              have hrun := run_callFunc_extern (P := P) hfn hname h1 hnx hfd (c.args.map ρ) w
              rw [hargsv, run_indexByte_string] at hrun
              refine .same (v := .int .i64 (firstIdx bs cc.toNat.toUInt8)) ?_ ?_ trivial
              · have hself : c.args.map ρ ++ #[] = c.args.map ρ := by simp
                simp [execOp, ho, resolve, hcal, hf, invoke, Deferred.ofValue, hargsv, hrun, Result.andThen]
              · have : firstIdx bs cc.toNat.toUInt8 = (match s.findIdx? (fun b => b == cc.toNat.toUInt8) with | some i => (i : Int) | none => -1) := by
                  unfold firstIdx
                  rw [findIdx_range s _ bs q2.symm]
                  cases s.findIdx? (fun b => b == cc.toNat.toUInt8) <;> rfl
                rw [this]
                exact .of (.int _ _)
      · rename_i heq _; simp at heq
      · simp at hp
    · split at hk
      · rename_i hc
        obtain ⟨h1, h2, h3⟩ := hc
        simp only [Option.some.injEq] at hk; subst hk
        simp only [pval] at hp
        obtain ⟨c, ho, hcal, hargs⟩ := ho
        obtain ⟨hl, hr⟩ := trList_ok he hargs
        have hname : (fn.name == "runtime.NumGoroutine") = false := by rw [h2]; decide
        have hnx : Extern.findNext fn = none := by
          unfold Extern.findNext
          simp only [h2]
          rcases h3 with h3 | h3 <;> simp only [h3, next_cs, next_nil] <;> rfl
        have hfd : Extern.find fn = some Extern.BytealgCount.count := by
          unfold Extern.find
          simp only [h2, gen_cs, typ_cs, row_cs]
          rfl
        unfold extnV at hp
        split at hp
        · rename_i heq _; simp at heq
        · rename_i s cc _ hxs
          simp only [Option.some.injEq] at hp; subst hp
          have hlen : xs.length = 2 := by have := congrArg List.length hxs; simpa using this
          match xs, hlen with
          | [x, y], _ =>
            simp only [List.map_cons, List.map_nil, List.cons.injEq, and_true] at hxs
            obtain ⟨e1, e2⟩ := hxs
            cases hal : c.args.toList with
            | nil => rw [hal] at hl; simp at hl
            | cons z zs =>
              cases zs with
              | nil => rw [hal] at hl; simp at hl
              | cons z2 zs2 =>
                have hz2 : zs2 = [] := by rw [hal] at hl; simp at hl; exact hl
                subst hz2
                have r0 := hr 0 (by simp) (by simp [hal])
                have r1 := hr 1 (by simp) (by simp [hal])
                simp only [hal, List.getElem_cons_zero, List.getElem_cons_succ] at r0 r1
                rw [e1] at r0
                rw [e2] at r1
                obtain ⟨bs, q1, q2⟩ := r0.str_inv
                have q3 := r1.int_inv
                have hargsv : c.args.map ρ = #[.string bs, .int .u8 cc] := by
                  rw [← Array.toList_inj]
                  simp [hal, q1, q3]
                have hrun := run_callFunc_extern (P := P) hfn hname h1 hnx hfd (c.args.map ρ) w
                rw [hargsv, run_count_string] at hrun
                refine .same (v := .int .i64 (bs.data.toList.count cc.toNat.toUInt8 : Nat)) ?_ ?_ trivial
                · have hself : c.args.map ρ ++ #[] = c.args.map ρ := by simp
                  simp [execOp, ho, resolve, hcal, hf, invoke, Deferred.ofValue, hargsv, hrun, Result.andThen]
                · rw [q2]
                  exact .of (.int _ _)
        · simp at hp
      · simp at hk
  · simp at hk

theorem pure_minmax {o : Oper} {isMax : Bool} {xs : List VO} {r : AV} (ho : ∃ c, o.op = .call c ∧ c.callee = .builtin (if isMax then .max else .min) ∧ trList P c.args.toList = some xs)
    (hp : pval ev (.minmax isMax xs) = some r) (he : OkEv P G w ev ρ) : Yields P ρ o G w d r := by
  simp only [pval] at hp
  obtain ⟨c, ho, h1, h2⟩ := ho
  obtain ⟨hl, hr⟩ := trList_ok he h2
  split at hp
  · rename_i a rest hm
    cases xs with
    | nil => simp at hm
    | cons y ys =>
      simp only [List.map_cons, List.cons.injEq] at hm
      obtain ⟨rfl, rfl⟩ := hm
      cases hargs : c.args.toList with
      | nil => simp [hargs] at hl
      | cons z zs =>
        have h0 := hr 0 (by simp) (by simp [hargs])
        simp only [hargs, List.getElem_cons_zero] at h0
        obtain ⟨v, hv1, hv2⟩ := minmax_run (P := P) (G := G) (w := w) (isMax := isMax) (ys.map ev) (zs.map ρ) (ev y).view (ρ z) r (by have := hl; rw [hargs] at this; simpa using this)
          (fun i i1 i2 => by
            simp at i1 i2
            have := hr (i + 1) (by simp; omega) (by simp [hargs]; omega)
            simp only [hargs, List.getElem_cons_succ] at this
            simpa using this) h0.view hp
        have hno : notOwn r := by
          clear hv1 hv2
          have : ∀ (l : List AV) (a : AV), notOwn a → minmax? isMax a l = some r → notOwn r := by
            intro l
            induction l with
            | nil => intro a ha hm; simp [minmax?] at hm; subst hm; exact ha
            | cons b l ih =>
              intro a ha hm
              unfold minmax? at hm
              split at hm
              · rename_i heq; simp at heq
              · rename_i heq
                simp at heq
                obtain ⟨rfl, rfl⟩ := heq
                split at hm
                · refine ih _ ?_ hm
                  trivial
                · simp at hm
              · simp at hm
          exact this _ _ (notOwn_view _) hp
        refine .same (v := v) ?_ hv2 hno
        cases isMax
        · simp at h1 hv1
          simp [execOp, ho, resolve, h1, invoke, builtin, Builtin.min_, hargs, hv1]
        · simp at h1 hv1
          simp [execOp, ho, resolve, h1, invoke, builtin, Builtin.max_, hargs, hv1]
  · simp at hp

theorem pure_mkIface {o : Oper} {t : TypeId} {x : Operand} {x' : VO} {r : AV} (ho : o.op = .makeInterface t x) (ht : P.concrete t = true) (hx : trO P x = some x')
    (hp : pval ev (.mkIface t x') = some r) (he : OkEv P G w ev ρ) : Yields P ρ o G w d r := by
  simp only [pval] at hp
  have hx := he _ _ hx
  split at hp
  · rename_i hn
    simp only [Option.some.injEq] at hp; subst hp
    refine .same (v := .iface t (ρ x)) ?_ (.of (.iface t _ _ (hx.nl hn).view)) trivial
    have hrun := run_makeInterface (P := P) w t (ρ x) ht
    simp only [execOp, ho, Sem.run_bind, hrun, Result.andThen_ok, Sem.run_pure]
  · simp at hp

end
end Go.Vm
/- New slices, slices of strings. -/
namespace Go.Vm

section
variable {P : Program} {ρ : Operand → Value} {G : Gh} {w : World} {ev : VO → AV} {d : Nat}

theorem flat_length {z : Nat} : ∀ {xs : List AV}, (∀ x ∈ xs, x.cells.length = z) → (flat xs).length = xs.length * z
  | [], _ => by simp [flat]
  | x :: xs, h => by
    have ih := flat_length (z := z) (xs := xs) (fun y hy => h y (by simp [hy]))
    have hx := h x (by simp)
    simp only [flat, List.flatMap_cons, List.length_append] at ih ⊢
    rw [ih, hx, List.length_cons, Nat.add_mul]; omega

theorem flat_set {z : Nat} : ∀ {xs : List AV} (_ : ∀ x ∈ xs, x.cells.length = z) (i : Nat) (v : AV), v.cells.length = z → i < xs.length →
    ∀ k, (flat (xs.set i v))[k]? = if i * z ≤ k ∧ k < i * z + z then v.cells[k - i * z]? else (flat xs)[k]?
  | [], _, i, v, _, hi => by simp at hi
  | x :: xs, h, i, v, hv, hi => by
    intro k
    have hx := h x (by simp)
    cases i with
    | zero =>
      simp only [List.set_cons_zero, flat, List.flatMap_cons, Nat.zero_mul, Nat.zero_le, Nat.zero_add, true_and, Nat.sub_zero]
      by_cases hk : k < z
      · rw [if_pos hk, List.getElem?_append_left (by omega)]
      · rw [if_neg hk, List.getElem?_append_right (by omega), List.getElem?_append_right (by omega), hv, hx]
    | succ i =>
      have ih := flat_set (z := z) (xs := xs) (fun y hy => h y (by simp [hy])) i v hv (by simpa using hi) (k - z)
      simp only [List.set_cons_succ, flat, List.flatMap_cons] at ih ⊢
      have e1 : (i + 1) * z = i * z + z := by rw [Nat.add_mul]; omega
      by_cases hk : k < z
      · rw [if_neg (by omega), List.getElem?_append_left (by omega), List.getElem?_append_left (by omega)]
      · rw [List.getElem?_append_right (by omega), List.getElem?_append_right (by omega), hx, ih]
        by_cases h2 : i * z ≤ k - z ∧ k - z < i * z + z
        · rw [if_pos h2, if_pos (by omega)]; congr 1; omega
        · rw [if_neg h2, if_neg (by omega)]

theorem view_cells (a : AV) : a.view.cells.length = a.cells.length := by
  cases a <;> rfl

theorem view_cells_rep {a : AV} {vs : List Value} (h : RepL G w a.cells vs) : RepL G w a.view.cells vs := by
  cases a <;> first | exact h | exact h.view

theorem overEls_len {z : Nat} : ∀ (ps : List (Nat × AV)) (xs xs' : List AV), overEls z xs ps = some xs' → (∀ x ∈ xs, x.cells.length = z) → xs'.length = xs.length ∧ ∀ x ∈ xs', x.cells.length = z
  | [], xs, xs', h, hz => by simp [overEls] at h; subst h; exact ⟨rfl, hz⟩
  | (i, v) :: rest, xs, xs', h, hz => by
    simp only [overEls] at h
    split at h
    · rename_i hc
      obtain ⟨h1, h2⟩ := overEls_len rest _ xs' h (by
        intro x hx
        rcases List.mem_or_eq_of_mem_set hx with hx | rfl
        · exact hz x hx
        · rw [view_cells]; exact hc.1)
      exact ⟨by rw [h1]; simp, h2⟩
    · simp at h

theorem fillEls_ok (he : OkEv P G w ev ρ) {z : Nat} : ∀ (parts : List (Nat × Operand)) (aps : List (Nat × VO)) (xs xs' : List AV) (arr : Array Value), partsEls P parts = some aps →
      (∀ x ∈ xs, x.cells.length = z) → RepL G w (flat xs) arr.toList →
      overEls z xs (aps.map fun p => (p.1, ev p.2)) = some xs' → (∀ p ∈ aps, (ev p.2).good = true) →
      ∃ arr', Instr.fill (fun i => some (i * z, z)) arr (parts.map fun p => (p.1, ρ p.2)) = some arr' ∧ RepL G w (flat xs') arr'.toList
  | [], aps, xs, xs', arr, h, hz, hr, ho, _ => by
    simp [partsEls] at h; subst h
    simp [overEls] at ho; subst ho
    exact ⟨arr, by simp [Instr.fill], hr⟩
  | (i, x) :: rest, aps, xs, xs', arr, h, hz, hr, ho, hall => by
    simp only [partsEls] at h
    split at h
    · rename_i x' r' hx hrest
      simp only [Option.some.injEq] at h; subst h
      simp only [List.map_cons, overEls] at ho
      split at ho
      · rename_i hc
        have hok := good_inv (hall (i, x') (by simp))
        have hrep := (he _ _ hx).nl hok.1
        have hcl := RepL.cells hrep hok.2
        have hsz : (ρ x).cells.size = z := by have := hcl.1; simp at this; omega
        have hl : arr.size = xs.length * z := by have := hr.1; rw [flat_length hz] at this; simpa using this.symm
        have hb : i * z + z ≤ xs.length * z := by have := Nat.mul_le_mul_right z (show i + 1 ≤ xs.length by omega); rw [Nat.add_mul] at this; omega
        obtain ⟨r, hr1, hr2, hr3⟩ := fill_step (i * z) (ρ x) arr (by omega)
        have hz' : ∀ y ∈ xs.set i (ev x').view, y.cells.length = z := by
          intro y hy
          rcases List.mem_or_eq_of_mem_set hy with hy | rfl
          · exact hz y hy
          · rw [view_cells]; exact hc.1
        obtain ⟨arr', h1, h2⟩ := fillEls_ok he rest r' (xs.set i (ev x').view) xs' r hrest hz' (by
            refine ⟨by rw [flat_length hz']; simp [hr2, hl], fun k a v ha hv => ?_⟩
            rw [flat_set hz i _ (by rw [view_cells]; exact hc.1) hc.2] at ha
            have hv' : r[k]? = some v := by simpa using hv
            rw [hr3 k, hsz] at hv'
            split at ha
            · rename_i hk
              rw [if_pos hk] at hv'
              exact (view_cells_rep hcl).2 (k - i * z) a v ha (by simpa using hv')
            · rename_i hk
              rw [if_neg hk] at hv'
              exact hr.2 k a v ha (by simpa using hv')) ho (fun p hp => hall p (by simp [hp]))
        refine ⟨arr', ?_, h2⟩
        simp only [List.map_cons, Instr.fill]
        rw [if_neg (by simp [hsz]; omega), hr1]
        exact h1
      · simp at ho
    · simp at h

theorem flat_replicate {z : Nat} (x : AV) (hx : x.cells.length = z) : ∀ (n k : Nat), k < n * z → (flat (List.replicate n x))[k]? = x.cells[k % z]?
  | 0, k, h => by simp at h
  | n + 1, k, h => by
    have hz : 0 < z := Nat.pos_of_ne_zero (by rintro rfl; simp at h)
    simp only [List.replicate_succ, flat, List.flatMap_cons]
    by_cases hk : k < z
    · rw [List.getElem?_append_left (by omega), Nat.mod_eq_of_lt hk]
    · rw [List.getElem?_append_right (by omega), hx]
      have ih := flat_replicate x hx n (k - z) (by rw [Nat.add_mul] at h; omega)
      simp only [flat] at ih
      rw [ih, ← Nat.mod_eq_sub_mod (by omega)]

theorem range_map_get (f : Nat → Value) (n k : Nat) (h : k < n) : ((Array.range n).map f)[k]? = some (f k) := by
  simp [h]

/-- The zero cells of n elements. -/
theorem zero_row {za : AV} {zv : Value} {z : Nat} (hz : RepL G w za.cells zv.cells.toList) (hzl : za.cells.length = z) (n : Nat) :
    RepL G w (flat (List.replicate n za)) ((Array.range (n * z)).map (zv.cells[· % zv.cells.size]!)).toList := by
  have hzs : zv.cells.size = z := by have := hz.1; simp at this; omega
  have hall : ∀ x ∈ List.replicate n za, x.cells.length = z := by intro x hx; rw [List.mem_replicate] at hx; rw [hx.2]; exact hzl
  refine ⟨by rw [flat_length hall]; simp, fun k a v ha hv => ?_⟩
  obtain ⟨k1, _⟩ := List.getElem?_eq_some_iff.1 ha
  rw [flat_length hall, List.length_replicate] at k1
  rw [flat_replicate za hzl n k k1] at ha
  have hv' : ((Array.range (n * z)).map (zv.cells[· % zv.cells.size]!))[k]? = some v := by rw [← Array.getElem?_toList]; exact hv
  rw [range_map_get _ _ _ k1] at hv'
  have hpos : 0 < z := Nat.pos_of_ne_zero (by rintro rfl; simp at k1)
  have hm : k % z < zv.cells.size := by rw [hzs]; exact Nat.mod_lt _ hpos
  refine hz.2 (k % z) a v ha ?_
  rw [hzs] at hv'
  simp only [Option.some.injEq] at hv'
  rw [← hv']
  simp [hm]

theorem pure_buildSl {o : Oper} {t e : TypeId} {n z : Nat} {parts : Array (Nat × Operand)} {aps : List (Nat × VO)} {zv : Value} {za r : AV}
    (ho : o.op = .buildSlice t n parts) (ht : P.underlying t = some (.slice e)) (hs : szOf P e = some z) (hz : zeroOf P e = some zv) (hza : AV.ofValue zv = some za) (hzu : za ≠ .undef)
    (hsmall : n * z ≤ 2 ^ 24) (ha : partsEls P parts.toList = some aps) (hv : pval ev (.buildSl z za n aps) = some r) (he : OkEv P G w ev ρ) : Yields P ρ o G w d r := by
  simp only [pval] at hv
  split at hv
  · rename_i hzl
    split at hv
    · rename_i xs hxs
      split at hv
      · rename_i hall
        simp only [Option.some.injEq] at hv; subst hv
        have hzr : RepL G w za.cells zv.cells.toList := RepL.cells (Rep.ofValue G w hza) hzu
        have hrep0 : ∀ x ∈ List.replicate n za, x.cells.length = z := by intro x hx; rw [List.mem_replicate] at hx; rw [hx.2]; exact hzl
        obtain ⟨hl, hst⟩ := overEls_len _ _ _ hxs hrep0
        rw [List.length_replicate] at hl
        obtain ⟨arr', h1, h2⟩ := fillEls_ok he parts.toList aps _ xs _ ha hrep0 (zero_row hzr hzl n) hxs (fun p hp => by simpa using List.all_eq_true.1 hall p hp)
        have hsz : arr'.size = n * z := by have := h2.1; rw [flat_length hst, hl] at this; simpa using this.symm
        have hsr : (sizeOf e).run P w = .ok z w := sizeOf_run hs
        have hzz : (zeroValue e).run P w = .ok zv w := by
          unfold zeroOf at hz
          cases hi : P.info? e with
          | none => simp [hi] at hz
          | some it => simp [hi] at hz; simp [zeroValue, typeInfo, hi, hz]
        have h1' : Instr.fill (fun i => some (i * z, z)) ((Array.range (n * z)).map (zv.cells[· % zv.cells.size]!)) (parts.map fun (i, x) => (i, ρ x)).toList = some arr' := by
          have e1 : (parts.map fun (i, x) => (i, ρ x)).toList = parts.toList.map fun p => (p.1, ρ p.2) := by simp
          rw [e1]; exact h1
        have hrun : (execOp ρ o).run P w = .ok (.value (.slice (some ⟨w.heap.size, 0, none⟩) n n)) (w.alloc (.cells arr' e)) := by
          simp only [execOp, ho, Instr.buildSlice, Sem.run_bind, run_underlying ht, Result.andThen_ok, hsr]
          rw [if_neg (by omega)]
          by_cases hn0 : n * z = 0
          · have e0 : ((Array.range (n * z)).map ((#[] : Array Value)[· % (#[] : Array Value).size]!)) = ((Array.range (n * z)).map (zv.cells[· % zv.cells.size]!)) := by rw [hn0, Array.range_zero']; simp
            rw [if_pos hn0]
            simp only [Sem.run_pure, Result.andThen_ok, Sem.run_bind]
            rw [e0, h1']
            simp [newRow]
          · rw [if_neg hn0]
            simp only [Sem.run_bind, hzz, Result.andThen_ok, Sem.run_pure]
            rw [h1']
            simp [newRow]
        have hrep := new_vec (G := G) (Drawn.refl w) (some z) xs arr' e (0, 0) n z (.slot d, some (flat xs).length) (by omega) hst (.inr rfl) (by rw [flat_length hst, hl, hsz]; exact Nat.le_refl _)
          (fun j j1 j2 => h2.to_array.2 j j1 j2)
        have hown := new_own (G := G) (Drawn.refl w) d z xs arr' e n hst (by rw [hsz]; exact Nat.le_refl _)
        rw [hl] at hrep hown
        exact ⟨_, _, _, hrun, alloc_grow G (Drawn.refl w) _ _, .of hrep, hown⟩
      · simp at hv
    · simp at hv
  · simp at hv

theorem pure_mksl {o : Oper} {t e : TypeId} {z bytes : Nat} {l c : Operand} {l' c' : VO} {it : TypeInfo} {zv : Value} {za r : AV}
    (ho : o.op = .makeSlice t l c) (ht : P.underlying t = some (.slice e)) (hi : P.info? e = some it) (hs : it.size = z) (hb : it.bytes = bytes) (hz : it.zero = some zv)
    (hza : AV.ofValue zv = some za) (hzu : za ≠ .undef) (hl : trO P l = some l') (hc : trO P c = some c') (hv : pval ev (.mksl false z bytes za l' c') = some r) (he : OkEv P G w ev ρ) : Yields P ρ o G w d r := by
  simp only [pval] at hv
  have hl := he _ _ hl
  have hc := he _ _ hc
  split at hv
  · rename_i ln cn hlv hcv
    rw [hlv] at hl; rw [hcv] at hc
    have el := hl.int_inv; have ec := hc.int_inv
    split at hv
    · rename_i hh
      obtain ⟨h0, hlc, hbt, h63, hzl⟩ := hh
      simp only [Option.some.injEq] at hv; subst hv
      have hzr : RepL G w za.cells zv.cells.toList := RepL.cells (Rep.ofValue G w hza) hzu
      have hrun := run_make (P := P) w t e it zv ht hi hz .i64 .i64 ln cn h0 hlc (by rw [hb]; omega) (by omega)
      rw [← el, ← ec, hs] at hrun
      have hzs : zv.cells.size = z := by have := hzr.1; simp at this; omega
      have harr : madeCells zv.cells (cn.toNat * z) = (Array.range (cn.toNat * z)).map (zv.cells[· % zv.cells.size]!) := rfl
      have hrow := zero_row hzr hzl cn.toNat
      have hst : ∀ x ∈ List.replicate ln.toNat za, x.cells.length = z := by intro x hx; rw [List.mem_replicate] at hx; rw [hx.2]; exact hzl
      have hst' : ∀ x ∈ List.replicate cn.toNat za, x.cells.length = z := by intro x hx; rw [List.mem_replicate] at hx; rw [hx.2]; exact hzl
      have hle : ln.toNat * z ≤ cn.toNat * z := Nat.mul_le_mul_right z (by omega)
      have hsz : (madeCells zv.cells (cn.toNat * z)).size = cn.toNat * z := by rw [harr]; simp
      have hrep := new_vec (G := G) (Drawn.refl w) (some z) (List.replicate ln.toNat za) (madeCells zv.cells (cn.toNat * z)) e (0, 0) cn.toNat z
        (.slot d, some (flat (List.replicate ln.toNat za)).length) (by simp; omega) hst (.inr rfl) (by rw [flat_length hst, List.length_replicate, hsz]; exact hle)
        (by
          intro j j1 j2
          have h1 : j < ln.toNat * z := by rw [flat_length hst, List.length_replicate] at j1; exact j1
          refine hrow.2 j _ _ ?_ ?_
          · rw [flat_replicate za hzl cn.toNat j (by omega), ← flat_replicate za hzl ln.toNat j h1, List.getElem?_eq_getElem j1]
          · rw [← harr]; simp [j2])
      have hown := new_own (G := G) (Drawn.refl w) d z (List.replicate ln.toNat za) (madeCells zv.cells (cn.toNat * z)) e cn.toNat hst (by rw [hsz]; exact Nat.le_refl _)
      rw [List.length_replicate] at hrep hown
      refine ⟨_, _, _, ?_, alloc_grow G (Drawn.refl w) _ _, .of hrep, hown⟩
      simp only [execOp, ho, Sem.run_bind, hrun, Result.andThen_ok, Sem.run_pure]
    · simp at hv
  · simp at hv

theorem slice_string_run (s : ByteArray) (t : TypeId) (ht : P.underlying t = some .string) (lo hi : Option Value) (l h : Nat) (hh : h ≤ s.size) (hl : l ≤ h)
    (e1 : (∃ k, lo = some (.int k l)) ∨ (lo = none ∧ l = 0)) (e2 : (∃ k, hi = some (.int k h)) ∨ (hi = none ∧ h = s.size)) :
    (Instr.sliceAt t (.string s) lo hi none).run P w = .ok (.string (s.extract l h)) w := by
  have c1 : ((0 : Int) ≤ (h : Int) ∧ (h : Int) ≤ (s.size : Int)) := by omega
  have c2 : ((0 : Int) ≤ (l : Int) ∧ (l : Int) ≤ (h : Int)) := by omega
  have c3 : ((h : Nat) ≤ s.size) := hh
  rcases e1 with ⟨k, rfl⟩ | ⟨rfl, rfl⟩ <;> rcases e2 with ⟨k', rfl⟩ | ⟨rfl, rfl⟩ <;>
    simp [Instr.sliceAt, run_underlying ht, Instr.slice, Instr.sliceBounds, Instr.sliceBound, asIntOf, hh, hl]

theorem extract_list (s : ByteArray) (l h : Nat) : (s.extract l h).data.toList = (s.data.toList.take h).drop l := by
  simp
  rw [List.drop_take]

theorem pure_slStr {o : Oper} {t : TypeId} {x : Operand} {x' : VO} {lo hi : Option Operand} {lo' hi' : Option VO} {r : AV} (ho : o.op = .slice t x lo hi none) (ht : P.underlying t = some .string)
    (hx : trO P x = some x') (hlo : trOpt P lo = some lo') (hhi : trOpt P hi = some hi') (hp : pval ev (.slStr x' lo' hi') = some r) (he : OkEv P G w ev ρ) : Yields P ρ o G w d r := by
  simp only [pval] at hp
  have hx := he _ _ hx
  split at hp
  · rename_i sl hv
    rw [hv] at hx
    obtain ⟨s, e1, rfl⟩ := hx.str_inv
    have hlen : s.data.toList.length = s.size := Array.length_toList
    have key : ∀ (l h : Nat), ((∃ k, lo.map ρ = some (.int k l)) ∨ (lo.map ρ = none ∧ l = 0)) → ((∃ k, hi.map ρ = some (.int k h)) ∨ (hi.map ρ = none ∧ h = s.size)) → l ≤ h → h ≤ s.size →
        r = .str ((s.data.toList.take h).drop l) → Yields P ρ o G w d r := by
      intro l h k1 k2 h1 h2 hr
      subst hr
      refine .same (v := .string (s.extract l h)) ?_ (.of ?_) trivial
      · have := slice_string_run (P := P) (w := w) s t ht (lo.map ρ) (hi.map ρ) l h h2 h1 k1 k2
        simp only [execOp, ho, Option.map_none, e1, Sem.run_bind, this, Result.andThen_ok, Sem.run_pure]
      · rw [← extract_list]; exact .str _
    have hL : ∀ k n, optV ev lo' (.int .i64 0) = AV.int k n → 0 ≤ n → (∃ k, lo.map ρ = some (.int k n.toNat)) ∨ (lo.map ρ = none ∧ n.toNat = 0) := by
      intro k n e hn
      cases lo with
      | none => simp [trOpt] at hlo; subst hlo; simp [optV] at e; exact .inr ⟨rfl, by omega⟩
      | some y =>
        simp only [trOpt] at hlo
        split at hlo
        · rename_i y' hy
          simp only [Option.some.injEq] at hlo; subst hlo
          simp only [optV] at e
          have := he _ _ hy
          rw [e] at this
          exact .inl ⟨k, by simp [this.int_inv]; omega⟩
        · simp at hlo
    have hH : ∀ k n, optV ev hi' (.int .i64 s.data.toList.length) = AV.int k n → 0 ≤ n → (∃ k, hi.map ρ = some (.int k n.toNat)) ∨ (hi.map ρ = none ∧ n.toNat = s.size) := by
      intro k n e hn
      cases hi with
      | none => simp [trOpt] at hhi; subst hhi; simp only [optV, AV.int.injEq] at e; exact .inr ⟨rfl, by omega⟩
      | some y =>
        simp only [trOpt] at hhi
        split at hhi
        · rename_i y' hy
          simp only [Option.some.injEq] at hhi; subst hhi
          simp only [optV] at e
          have := he _ _ hy
          rw [e] at this
          exact .inl ⟨k, by simp [this.int_inv]; omega⟩
        · simp at hhi
    split at hp
    · rename_i k1 l k2 h e2 e3
      split at hp
      · rename_i hc
        simp only [Option.some.injEq] at hp
        exact key l.toNat h.toNat (hL _ _ e2 hc.1) (hH _ _ e3 (by omega)) (by omega) (by omega) hp.symm
      · simp at hp
    · simp at hp
  · simp at hp

theorem sliceArr_run (n : Nat) (lo hi : Option Value) (l h : Nat) (h1 : l ≤ h) (h2 : h ≤ n) (el : (∃ k, lo = some (.int k l)) ∨ (lo = none ∧ l = 0)) (eh : (∃ k, hi = some (.int k h)) ∨ (hi = none ∧ h = n)) :
    (Instr.sliceBounds false n n lo hi none).run P w = .ok (l, h, n) w := by
  rcases eh with ⟨kh, rfl⟩ | ⟨rfl, rfl⟩ <;> rcases el with ⟨kl, rfl⟩ | ⟨rfl, rfl⟩ <;> simp [Instr.sliceBounds, Instr.sliceBound, asIntOf, h1, h2]

theorem optV_case {lo : Option Operand} {lo' : Option VO} (hlo : trOpt P lo = some lo') (he : OkEv P G w ev ρ) {k : IntKind} {n dn : Int} {dk : IntKind} (e : optV ev lo' (.int dk dn) = .int k n) :
    (∃ k, lo.map ρ = some (.int k n)) ∨ (lo.map ρ = none ∧ n = dn) := by
  cases lo with
  | none =>
    simp [trOpt] at hlo; subst hlo
    simp only [optV, AV.int.injEq] at e
    exact .inr ⟨rfl, e.2.symm⟩
  | some y =>
    simp only [trOpt] at hlo
    split at hlo
    · rename_i y' hy
      simp only [Option.some.injEq] at hlo; subst hlo
      simp only [optV] at e
      have := he _ _ hy
      rw [e] at this
      exact .inl ⟨k, by simp [this.int_inv]⟩
    · simp at hlo

theorem pure_slArr {o : Oper} {t e : TypeId} {n z : Nat} {x : Operand} {x' : VO} {lo hi : Option Operand} {lo' hi' : Option VO} {r : AV} (ho : o.op = .slice t x lo hi none) (ht : P.underlying t = some (.array n e)) (hz : szOf P e = some z)
    (hx : trO P x = some x') (hlo : trOpt P lo = some lo') (hhi : trOpt P hi = some hi') (hp : pval ev (.slArr n z x' lo' hi') = some r) (he : OkEv P G w ev ρ) : Yields P ρ o G w d r := by
  simp only [pval] at hp
  have hx := he _ _ hx
  split at hp
  · rename_i ix of k1 l k2 h hv e2 e3
    rw [hv] at hx
    obtain ⟨b, hb, e1⟩ := hx.ptr_inv
    split at hp
    · rename_i hc
      simp only [Option.some.injEq] at hp; subst hp
      obtain ⟨c1, c2, c3, c4⟩ := hc
      have hl0 : ((l.toNat : Nat) : Int) = l := by omega
      have hh0 : ((h.toNat : Nat) : Int) = h := by omega
      have el := optV_case hlo he e2
      have eh := optV_case hhi he e3
      have hb2 := sliceArr_run (P := P) (w := w) n (lo.map ρ) (hi.map ρ) l.toNat h.toNat (by omega) (by omega)
        (by rcases el with ⟨k, el⟩ | ⟨el, en⟩
            · exact .inl ⟨k, by rw [hl0]; exact el⟩
            · exact .inr ⟨el, by omega⟩)
        (by rcases eh with ⟨k, eh⟩ | ⟨eh, en⟩
            · exact .inl ⟨k, by rw [hh0]; exact eh⟩
            · exact .inr ⟨eh, by omega⟩)
      have hs : (sizeOf e).run P w = .ok z w := sizeOf_run hz
      have hne : ¬ n = l.toNat := by omega
      refine .same (v := .slice (some ⟨b, of + l.toNat * z, none⟩) (h.toNat - l.toNat) (n - l.toNat)) ?_ (RepT.row_mk hb (by omega)) trivial
      simp [execOp, ho, Instr.sliceAt, run_underlying ht, e1, Instr.sureAddr, hb2, hs, hne, add_off]
    · simp at hp
  · simp at hp

end
end Go.Vm
/- The pure operations, all together. -/
namespace Go.Vm

def trPureAll (P : Program) (o : Oper) : Option VOp :=
  match o.op with
  | .build t parts => match placeOf P t, zeroOf P t with
    | some place, some zv => match ofCells zv.cells.toList, partsAt P place parts.toList with
      | some zcs, some aps => some (.build zcs aps)
      | _, _ => none
    | _, _ => none
  | .buildSlice t n parts => match P.underlying t with
    | some (.slice e) => match szOf P e, zeroOf P e, partsEls P parts.toList with
      | some z, some zv, some aps => match AV.ofValue zv with
        | some za => if n * z ≤ 2 ^ 24 then some (.buildSl z za n aps) else none
        | none => none
      | _, _, _ => none
    | _ => none
  | .makeSlice t l c => match P.underlying t, trO P l, trO P c with
    | some (.slice e), some l, some c => match P.info? e with
      | some it => match it.zero with
        | some zv => match AV.ofValue zv with
          | some za => some (.mksl false it.size it.bytes za l c)
          | none => none
        | none => none
      | none => none
    | _, _, _ => none
  | _ => trPure P o

theorem ofValue_ne_undef {v : Value} {a : AV} (h : AV.ofValue v = some a) : a ≠ .undef := by
  rintro rfl
  unfold AV.ofValue at h
  split at h
  · split at h <;> simp at h
  · unfold AV.ofScalar at h
    split at h <;> simp at h

section
variable {P : Program} {ρ : Operand → Value} {G : Gh} {w : World} {ev : VO → AV} {d : Nat}

theorem trPure_sound {o : Oper} {vop : VOp} {r : AV} (h : trPure P o = some vop) (hp : pval ev vop = some r) (he : OkEv P G w ev ρ) (hc : EvConst ρ) (hfn : ∀ f, ρ (.func f) = .func (.func f) #[] #[]) : Yields P ρ o G w d r := by
  unfold trPure at h
  split at h
  · rename_i x ho
    split at h
    · rename_i y hx
      simp only [Option.some.injEq] at h; subst h
      simp only [pval, Option.some.injEq] at hp; subst hp
      exact pure_move ho hx he
    · simp at h
  · rename_i c a b ho
    split at h
    · rename_i c' a' b' hc' ha' hb'
      simp only [Option.some.injEq] at h; subst h
      exact pure_pick ho hc' ha' hb' hp he
    · simp at h
  · rename_i x ho
    split at h
    · rename_i y hx
      simp only [Option.some.injEq] at h; subst h
      exact pure_nilck ho hx hp he
    · simp at h
  · rename_i op t x y yt ho
    exact pure_bin ho h hp he hc
  · rename_i op t x ho
    split at h
    · rename_i y hx
      simp only [Option.some.injEq] at h; subst h
      exact pure_un ho hx hp he
    · simp at h
  · rename_i src dst x ho
    split at h
    · rename_i k' k y hs hd hx
      simp only [Option.some.injEq] at h; subst h
      exact pure_cint ho hs hd hx hp he
    · rename_i y hs hd hx
      simp only [Option.some.injEq] at h; subst h
      exact pure_cstr ho hs hd hx hp he
    · rename_i e y hs hd hx
      split at h
      · rename_i hel
        simp only [Option.some.injEq] at h; subst h
        exact pure_bytesOf ho hs hd hel hx hp he
      · simp at h
    · rename_i e y hs hd hx
      split at h
      · rename_i hel
        simp only [Option.some.injEq] at h; subst h
        exact pure_strOf ho hs hd hel hx hp he
      · simp at h
    · simp at h
  · rename_i t x i ho
    split at h
    · rename_i fs y ht hx
      split at h
      · rename_i f hf
        split at h
        · rename_i n hn
          simp only [Option.some.injEq] at h; subst h
          exact pure_faddr ho ht hf hn hx hp he
        · simp at h
      · simp at h
    · simp at h
  · rename_i t x i ho
    split at h
    · rename_i fs y ht hx
      split at h
      · rename_i f hf
        split at h
        · rename_i ag ha
          simp only [Option.some.injEq] at h; subst h
          exact pure_field ho ht hf ha hx hp he
        · simp at h
      · simp at h
    · simp at h
  · rename_i t x i ho
    split at h
    · rename_i e y j ht hx hi
      split at h
      · rename_i n hn
        simp only [Option.some.injEq] at h; subst h
        exact pure_iaddrSl ho ht hn hx hi hp he
      · simp at h
    · rename_i len e y j ht hx hi
      split at h
      · rename_i n hn
        simp only [Option.some.injEq] at h; subst h
        exact pure_iaddrArr ho ht hn hx hi hp he
      · simp at h
    · simp at h
  · rename_i t x i ho
    split at h
    · rename_i y j ht hx hi
      simp only [Option.some.injEq] at h; subst h
      exact pure_idxStr ho ht hx hi hp he
    · rename_i len e y j ht hx hi
      split at h
      · rename_i n ag hn ha
        simp only [Option.some.injEq] at h; subst h
        exact pure_idxArr ho ht hn ha hx hi hp he
      · simp at h
    · simp at h
  · rename_i x i ho
    split at h
    · rename_i y hx
      simp only [Option.some.injEq] at h; subst h
      exact pure_ext ho hx hp he
    · simp at h
  · rename_i t x lo hi mx ho
    split at h
    · rename_i y lo' hi' ht hx hlo hhi
      split at h
      · rename_i hm
        simp only [Option.some.injEq] at h; subst h
        have : mx = none := by simpa using hm
        subst this
        exact pure_slStr ho ht hx hlo hhi hp he
      · simp at h
    · rename_i n e y lo' hi' ht hx hlo hhi
      split at h
      · rename_i hm
        have : mx = none := by simpa using hm
        subst this
        split at h
        · rename_i z hz
          simp only [Option.some.injEq] at h; subst h
          exact pure_slArr ho ht hz hx hlo hhi hp he
        · simp at h
      · simp at h
    · simp at h
  · rename_i args argTypes ho
    split at h
    · rename_i t y ht hxs
      have hts : argTypes = #[t] := by rw [← Array.toList_inj]; exact ht
      have hx : ∃ x, args = #[x] ∧ trO P x = some y := by
        cases hl : args.toList with
        | nil => rw [hl] at hxs; simp [trList] at hxs
        | cons z zs =>
          rw [hl] at hxs
          simp only [trList] at hxs
          split at hxs
          · rename_i y' r hy hr
            simp only [Option.some.injEq, List.cons.injEq] at hxs
            obtain ⟨rfl, rfl⟩ := hxs
            cases zs with
            | nil => exact ⟨z, by rw [← Array.toList_inj]; exact hl, hy⟩
            | cons a b =>
              simp only [trList] at hr
              split at hr <;> simp at hr
          · simp at hxs
      obtain ⟨x, rfl, hx⟩ := hx
      split at h
      · rename_i hu
        simp only [Option.some.injEq] at h; subst h
        exact pure_lenStr ⟨_, ho, rfl, rfl, hts⟩ hu hx hp he
      · rename_i hu
        simp only [Option.some.injEq] at h; subst h
        exact pure_lenSl ⟨_, ho, rfl, rfl, hts⟩ hu hx hp he
      · simp at h
    · simp at h
  · rename_i args argTypes ho
    split at h
    · rename_i xs hxs
      simp only [Option.some.injEq] at h; subst h
      exact pure_minmax ⟨_, ho, rfl, hxs⟩ hp he
    · simp at h
  · rename_i args argTypes ho
    split at h
    · rename_i xs hxs
      simp only [Option.some.injEq] at h; subst h
      exact pure_minmax ⟨_, ho, rfl, hxs⟩ hp he
    · simp at h
  · rename_i f args argTypes ho
    split at h
    · rename_i k xs hk hxs
      simp only [Option.some.injEq] at h; subst h
      exact pure_extn ⟨_, ho, rfl, hxs⟩ hk hp he (hfn f)
    · simp at h
  · rename_i t x ho
    split at h
    · rename_i hcn
      split at h
      · rename_i y hx
        simp only [Option.some.injEq] at h; subst h
        exact pure_mkIface ho hcn hx hp he
      · simp at h
    · simp at h
  · simp at h

theorem trPureAll_sound {o : Oper} {vop : VOp} {r : AV} (h : trPureAll P o = some vop) (hp : pval ev vop = some r) (he : OkEv P G w ev ρ) (hc : EvConst ρ) (hfn : ∀ f, ρ (.func f) = .func (.func f) #[] #[]) : Yields P ρ o G w d r := by
  unfold trPureAll at h
  split at h
  · rename_i t parts ho
    split at h
    · rename_i place zv hpl hz
      split at h
      · rename_i zcs aps hzc ha
        simp only [Option.some.injEq] at h; subst h
        exact pure_build ho hpl hz hzc ha hp he
      · simp at h
    · simp at h
  · rename_i t n parts ho
    split at h
    · rename_i e ht
      split at h
      · rename_i z zv aps hs hz ha
        split at h
        · rename_i za hza
          split at h
          · rename_i hsm
            simp only [Option.some.injEq] at h; subst h
            exact pure_buildSl ho ht hs hz hza (ofValue_ne_undef hza) hsm ha hp he
          · simp at h
        · simp at h
      · simp at h
    · simp at h
  · rename_i t l c ho
    split at h
    · rename_i e l' c' ht hl hc'
      split at h
      · rename_i it hi
        split at h
        · rename_i zv hz
          split at h
          · rename_i za hza
            simp only [Option.some.injEq] at h; subst h
            exact pure_mksl ho ht hi rfl rfl hz hza (ofValue_ne_undef hza) hl hc' hp he
          · simp at h
        · simp at h
      · simp at h
    · simp at h
  · exact trPure_sound h hp he hc hfn

end
end Go.Vm
/- How what is kept of memory goes on, step by step. -/
namespace Go.Vm

def upd (tv : Nat → Value) (d : Nat) (v : Value) : Nat → Value := fun j => if j = d then v else tv j

section
variable {P : Program} {G0 : Gh} {w0 : World} {G : Gh} {w : World} {s : St} {tv : Nat → Value}

theorem obj_set (s : St) (d : Nat) (a : AV) (x : Ix) : (s.set d a).obj x = s.obj x := by
  cases x <;> rfl

theorem Inv.put (h : Inv P G0 w0 G w s tv) {d : Nat} {a : AV} {v : Value} (ha : RepT G w a v) (ho : OwnAt G w (.slot d) a v) : Inv P G0 w0 G w (s.set d a) (upd tv d v) :=
  { h with
    tmp := fun t => by
      by_cases e : t = d
      · subst e; simpa [St.set, upd] using ha
      · simpa [St.set, upd, e] using h.tmp t
    own := fun t => by
      by_cases e : t = d
      · subst e; simpa [St.set, upd] using ho
      · simpa [St.set, upd, e] using h.own t
    obj := fun x o e => h.obj x o (by rw [← obj_set s d a]; exact e) }

theorem Inv.dropT (h : Inv P G0 w0 G w s tv) (t : Nat) : Inv P G0 w0 G w (s.set t (s.get t).view) tv :=
  { h with
    tmp := fun j => by
      by_cases e : j = t
      · subst e; simpa [St.set, St.get] using (h.tmp j).view
      · simpa [St.set, e] using h.tmp j
    own := fun j => by
      by_cases e : j = t
      · subst e; simpa [St.set, St.get] using OwnAt.view
      · simpa [St.set, e] using h.own j
    obj := fun x o e => h.obj x o (by rw [← obj_set s t]; exact e) }

/-- A holder's real claim on a block. -/
def Claims (a : AV) (v : Value) (b : Nat) : Prop := ∃ z nn xs off len cap, a = .vec (some z) nn xs ∧ v = .slice (some ⟨b, off, none⟩) len cap ∧ len ≠ cap

theorem OwnAt.role {o : Owner} {a : AV} {v : Value} {b : Nat} (h : OwnAt G w o a v) (c : Claims a v b) : (G.role b).1 = o := by
  obtain ⟨z, nn, xs, off, len, cap, rfl, rfl, hne⟩ := c
  rcases (h z nn xs rfl).2 b off len cap rfl with e | ⟨_, e, _⟩
  · exact absurd e hne
  · rw [e]

/-- What is known of a claim goes on where its block stays. -/
theorem OwnAt.keep {G' : Gh} {w' : World} {o : Owner} {a : AV} {v : Value} (h : OwnAt G w o a v) (hs : w.heap.size ≤ w'.heap.size)
    (hb : ∀ b, Claims a v b → G'.role b = G.role b ∧ ∀ k, (∃ u, w.cell? ⟨b, k, none⟩ = some u) → w.frozen? ⟨b, k, none⟩ = false → (∃ u, w'.cell? ⟨b, k, none⟩ = some u) ∧ w'.frozen? ⟨b, k, none⟩ = false) :
    OwnAt G' w' o a v := by
  intro z nn xs e
  refine ⟨(h z nn xs e).1, fun b off len cap ev => ?_⟩
  by_cases hne : len = cap
  · exact .inl hne
  · rcases (h z nn xs e).2 b off len cap ev with e' | ⟨h1, h2, h3⟩
    · exact absurd e' hne
    · obtain ⟨k1, k2⟩ := hb b ⟨z, nn, xs, off, len, cap, e, ev, hne⟩
      exact .inr ⟨Nat.lt_of_lt_of_le h1 hs, k1.trans h2, fun k hk hk' => k2 k (h3 k hk hk').1 (h3 k hk hk').2⟩

theorem Le.newRole {b : Nat} {r : Owner × Option Nat} (hst : ∀ o, stable G.role b o → stable (G.newRole b r).role b o) : Le G w (G.newRole b r) w :=
  ⟨fun b' o u hs hc => ⟨by
      by_cases e : b' = b
      · subst e; exact hst o hs
      · exact stable_of_role (newRole_ne _ _ e) hs, hc⟩, fun i b' e => e, fun _ _ e => e⟩

/-- An object's facts go on. -/
theorem ObjAt.keep {G' : Gh} {w' : World} {x : Ix} {b : Nat} {o : LObj} (h : ObjAt G w x b o) (l : Le G w G' w') (hs : w.heap.size ≤ w'.heap.size)
    (hr : (G.role b).1 = .obj x → G'.role b = G.role b ∧ w'.heap[b]? = w.heap[b]?)
    (hb : ∀ j a v b', OwnAt G w (.cell x j) a v → Claims a v b' → G'.role b' = G.role b' ∧ ∀ k, (∃ u, w.cell? ⟨b', k, none⟩ = some u) → w.frozen? ⟨b', k, none⟩ = false → (∃ u, w'.cell? ⟨b', k, none⟩ = some u) ∧ w'.frozen? ⟨b', k, none⟩ = false) :
    ObjAt G' w' x b o := by
  cases o with
  | cells fz cs =>
    cases fz
    · obtain ⟨h1, arr, T, fr, h2, hf, h3, h4⟩ := h
      obtain ⟨k1, k2⟩ := hr (by rw [h1])
      exact ⟨k1.trans h1, arr, T, fr, k2.trans h2, hf, h3, fun j j1 j2 => ⟨(h4 j j1 j2).1.mono l, (h4 j j1 j2).2.keep hs fun b' c => hb j _ _ b' (h4 j j1 j2).2 c⟩⟩
    · exact ObjAt.frozen l h
  | iter s pos =>
    obtain ⟨k1, k2⟩ := hr (by rw [h.1])
    exact ⟨k1.trans h.1, k2.trans h.2⟩
  | mp kvs =>
    obtain ⟨h1, es, n, h2, h3, h4⟩ := h
    obtain ⟨k1, k2⟩ := hr (by rw [h1])
    exact ⟨k1.trans h1, es, n, k2.trans h2, h3, fun j j1 j2 => ⟨(h4 j j1 j2).1.mono l, (h4 j j1 j2).2.mono l⟩⟩

/-- A block that a slot or a cell held, and holds no more, gets another role. -/
theorem Inv.recl (h : Inv P G0 w0 G w s tv) {b : Nat} {o0 : Owner} (hb : (G.role b).1 = o0) (ho : o0 ≠ .ext ∧ ∀ x, o0 ≠ .obj x) {r : Owner × Option Nat}
    (hst : ∀ o, stable G.role b o → stable (G.newRole b r).role b o) (ht : ∀ t, o0 = .slot t → ¬ Claims (s.tmp t) (tv t) b)
    (hc : ∀ x j bx cs arr T fr, o0 = .cell x j → s.obj x = some (.cells false cs) → G.at x = some bx → w.heap[bx]? = some (.cells arr T fr) → ∀ (h1 : j < cs.length) (h2 : j < arr.size), ¬ Claims cs[j] arr[j] b) :
    Inv P G0 w0 (G.newRole b r) w s tv where
  os := h.os
  tape := h.tape
  output := h.output
  size := h.size
  tmp t := (h.tmp t).mono (.newRole hst) (fun _ _ _ e => e)
  own t := by
    refine (h.own t).keep (Nat.le_refl _) fun b' c => ⟨?_, fun k h1 h2 => ⟨h1, h2⟩⟩
    by_cases e : b' = b
    · subst e
      have := (h.own t).role c
      exact absurd c (ht t (hb.symm.trans this))
    · exact newRole_ne _ _ e
  obj x o e := by
    obtain ⟨bx, h1, h2, h3⟩ := h.obj x o e
    have hne : (G.role bx).1 = .obj x → bx ≠ b := by
      rintro e rfl
      exact ho.2 x (hb.symm.trans e)
    refine ⟨bx, h1, h2, ?_⟩
    cases o with
    | cells fz cs =>
      cases fz
      · obtain ⟨k1, arr, T, fr, k2, hf, k3, k4⟩ := h3
        refine ⟨(newRole_ne _ _ (hne (by rw [k1]))).trans k1, arr, T, fr, k2, hf, k3, fun j j1 j2 => ⟨(k4 j j1 j2).1.mono (.newRole hst), (k4 j j1 j2).2.keep (Nat.le_refl _) fun b' c => ⟨?_, fun k h1 h2 => ⟨h1, h2⟩⟩⟩⟩
        by_cases eb : b' = b
        · subst eb
          have := (k4 j j1 j2).2.role c
          exact absurd c (hc x j bx cs arr T fr (hb.symm.trans this) e h1 k2 j1 j2)
        · exact newRole_ne _ _ eb
      · exact ObjAt.frozen (.newRole hst) h3
    | iter ss pos => exact ⟨(newRole_ne _ _ (hne (by rw [h3.1]))).trans h3.1, h3.2⟩
    | mp kvs =>
      obtain ⟨k1, es, n, k2, k3, k4⟩ := h3
      exact ⟨(newRole_ne _ _ (hne (by rw [k1]))).trans k1, es, n, k2, k3, fun j j1 j2 => ⟨(k4 j j1 j2).1.mono (.newRole hst), (k4 j j1 j2).2.mono (.newRole hst)⟩⟩
  ext b' hb' e := by
    obtain ⟨k1, k2⟩ := h.ext b' hb' e
    refine ⟨k1, (newRole_ne _ _ ?_).trans k2⟩
    rintro rfl
    exact ho.1 (by rw [← hb, k2, e])
  le := h.le.trans (.newRole hst)
  mlen := h.mlen
  llen := h.llen
  glob := h.glob

/-- A slot's value moves on, with the right to append if it had it. -/
theorem Inv.takeT (h : Inv P G0 w0 G w s tv) (t : Nat) : ∃ G', Inv P G0 w0 G' w (s.takeT t).2 tv ∧ RepT G' w (s.takeT t).1 (tv t) ∧ OwnAt G' w .air (s.takeT t).1 (tv t) ∧ G'.mb = G.mb ∧ G'.lb = G.lb ∧ Le G w G' w := by
  unfold St.takeT
  split
  · rename_i z nn xs e
    have hrep : RepT G w (.vec (some z) nn xs) (tv t) := by have := h.tmp t; rw [show s.tmp t = _ from e] at this; exact this
    have hown : OwnAt G w (.slot t) (.vec (some z) nn xs) (tv t) := by have := h.own t; rw [show s.tmp t = _ from e] at this; exact this
    have hdrop : Inv P G0 w0 G w (s.set t (.vec none nn xs)) tv := by have := h.dropT t; rw [e] at this; exact this
    by_cases hc : ∃ b, Claims (.vec (some z) nn xs) (tv t) b
    · obtain ⟨b, hc⟩ := hc
      have hr := hown.role hc
      obtain ⟨z', nn', xs', off, len, cap, e1, e2, hne⟩ := hc
      simp only [AV.vec.injEq, Option.some.injEq] at e1
      obtain ⟨rfl, rfl, rfl⟩ := e1
      rcases (hown z nn xs rfl).2 b off len cap e2 with h1 | ⟨h1, h2, h3⟩
      · exact absurd h1 hne
      · have hst : ∀ o, stable G.role b o → stable (G.newRole b (.air, some (off + (flat xs).length))).role b o := by
          intro o ho
          unfold stable at ho ⊢
          rw [h2] at ho
          rw [newRole_at]
          exact ho
        refine ⟨G.newRole b (.air, some (off + (flat xs).length)), hdrop.recl hr ⟨by simp, by simp⟩ hst (fun t' et c => ?_) (fun x j bx cs arr T fr ex => by simp at ex), hrep.mono (.newRole hst) (fun _ _ _ e => e), ?_, rfl, rfl, .newRole hst⟩
        · simp only [Owner.slot.injEq] at et
          subst et
          obtain ⟨z'', nn'', xs'', _, _, _, e3, _⟩ := c
          simp [St.set] at e3
        · intro z'' nn'' xs'' e3
          simp only [AV.vec.injEq, Option.some.injEq] at e3
          obtain ⟨rfl, rfl, rfl⟩ := e3
          refine ⟨(hown z nn xs rfl).1, fun b' off' len' cap' e4 => ?_⟩
          rw [e2] at e4
          simp only [Value.slice.injEq, Option.some.injEq, Addr.mk.injEq, and_true] at e4
          obtain ⟨⟨rfl, rfl⟩, rfl, rfl⟩ := e4
          exact .inr ⟨h1, newRole_at _ _ _, h3⟩
    · refine ⟨G, hdrop, hrep, ?_, rfl, rfl, .refl G w⟩
      intro z' nn' xs' e3
      refine ⟨(hown z' nn' xs' e3).1, fun b off len cap e4 => .inl ?_⟩
      refine Classical.byContradiction fun hne => hc ⟨b, z', nn', xs', off, len, cap, e3, e4, hne⟩
  · rename_i a hna
    refine ⟨G, h, h.tmp t, OwnAt.of_not fun z nn xs e => ?_, rfl, rfl, .refl G w⟩
    exact hna z nn xs e

/-- What is in flight comes to rest. -/
theorem Inv.land (h : Inv P G0 w0 G w s tv) {a : AV} {v : Value} (hr : RepT G w a v) (ho : OwnAt G w .air a v) (ow : Owner) :
    ∃ G', Inv P G0 w0 G' w s tv ∧ RepT G' w a v ∧ OwnAt G' w ow a v ∧ G'.mb = G.mb ∧ G'.lb = G.lb ∧ Le G w G' w ∧ (∀ b, (G.role b).1 ≠ .air → G'.role b = G.role b) := by
  by_cases hc : ∃ b, Claims a v b
  · obtain ⟨b, hc⟩ := hc
    have hro := ho.role hc
    obtain ⟨z, nn, xs, off, len, cap, e1, e2, hne⟩ := hc
    subst e1
    rcases (ho z nn xs rfl).2 b off len cap e2 with h1 | ⟨h1, h2, h3⟩
    · exact absurd h1 hne
    · have hst : ∀ o, stable G.role b o → stable (G.newRole b (ow, some (off + (flat xs).length))).role b o := by
        intro o ho
        unfold stable at ho ⊢
        rw [h2] at ho
        rw [newRole_at]
        exact ho
      refine ⟨G.newRole b (ow, some (off + (flat xs).length)), h.recl hro ⟨by simp, by simp⟩ hst (fun t' et => by simp at et) (fun x j bx cs arr T fr ex => by simp at ex), hr.mono (.newRole hst) (fun _ _ _ e => e), ?_, rfl, rfl, .newRole hst, ?_⟩
      · intro z'' nn'' xs'' e3
        simp only [AV.vec.injEq, Option.some.injEq] at e3
        obtain ⟨rfl, rfl, rfl⟩ := e3
        refine ⟨(ho z nn xs rfl).1, fun b' off' len' cap' e4 => ?_⟩
        rw [e2] at e4
        simp only [Value.slice.injEq, Option.some.injEq, Addr.mk.injEq, and_true] at e4
        obtain ⟨⟨rfl, rfl⟩, rfl, rfl⟩ := e4
        exact .inr ⟨h1, newRole_at _ _ _, h3⟩
      · intro b' hb'
        refine newRole_ne _ _ ?_
        rintro rfl
        exact hb' hro
  · refine ⟨G, h, hr, ?_, rfl, rfl, .refl G w, fun _ _ => rfl⟩
    intro z' nn' xs' e3
    refine ⟨(ho z' nn' xs' e3).1, fun b off len cap e4 => .inl ?_⟩
    refine Classical.byContradiction fun hne => hc ⟨b, z', nn', xs', off, len, cap, e3, e4, hne⟩

end
end Go.Vm
