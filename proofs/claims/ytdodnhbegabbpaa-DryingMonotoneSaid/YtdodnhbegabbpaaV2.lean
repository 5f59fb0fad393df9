/- What a value of the model stands for, and what is kept of memory. -/
import Derived.Test.YtdodnhbegabbpaaV1
import Derived.Laws.World
namespace Go.Vm

/-- Who may write behind a block's stable cells. -/
inductive Owner where
  | ext
  | obj (x : Ix)
  | slot (t : Nat)
  | cell (x : Ix) (j : Nat)
  | air
  deriving DecidableEq

abbrev Roles := Nat → Owner × Option Nat

def stable (r : Roles) (b o : Nat) : Prop :=
  match (r b).2 with
  | none => True
  | some n => o < n

structure Gh where
  role : Roles
  mb : Nat → Option Nat
  lb : Nat → Nat → Option Nat

def Gh.at (G : Gh) : Ix → Option Nat
  | .loc t k => G.lb t k
  | .mem i => G.mb i

/-- A value stands for an abstract one. -/
inductive Rep (G : Gh) (w : World) : AV → Value → Prop where
  | undef (v : Value) : Rep G w .undef v
  | bool (b : Bool) : Rep G w (.bool b) (.bool b)
  | int (k : IntKind) (n : Int) : Rep G w (.int k n) (.int k n)
  | str (s : ByteArray) : Rep G w (.str s.data.toList) (.string s)
  | agg (cs : List AV) (vs : Array Value) (hl : cs.length = vs.size)
      (h : ∀ (i : Nat) (h1 : i < cs.length) (h2 : i < vs.size), Rep G w cs[i] vs[i]) : Rep G w (.agg cs) (.agg vs)
  | tup (cs : List AV) (vs : Array Value) (hl : cs.length = vs.size)
      (h : ∀ (i : Nat) (h1 : i < cs.length) (h2 : i < vs.size), Rep G w cs[i] vs[i]) : Rep G w (.tup cs) (.tuple vs)
  | nilvec (o : Option Nat) : Rep G w (.vec o false []) (.slice none 0 0)
  | vec (o : Option Nat) (xs : List AV) (b off cap st : Nat) (vals : Nat → Value) (hcap : xs.length ≤ cap)
      (hst : ∀ x ∈ xs, x.cells.length = st)
      (hc : ∀ j, j < (flat xs).length → stable G.role b (off + j) ∧ w.cell? ⟨b, off + j, none⟩ = some (vals j))
      (h : ∀ (j : Nat) (hj : j < (flat xs).length), Rep G w (flat xs)[j] (vals j)) :
      Rep G w (.vec o true xs) (.slice (some ⟨b, off, none⟩) xs.length cap)
  | row (i off len b cap : Nat) (hb : G.mb i = some b) (hcap : len ≤ cap) : Rep G w (.row (.mem i) off len) (.slice (some ⟨b, off, none⟩) len cap)
  | ptr (i off b : Nat) (hb : G.mb i = some b) : Rep G w (.ptr (.mem i) off) (.pointer (some ⟨b, off, none⟩))
  | vptr (cs : List AV) (off b o : Nat) (vals : Nat → Value)
      (hc : ∀ j, j < cs.length → stable G.role b (o + j) ∧ w.cell? ⟨b, o + j, none⟩ = some (vals j))
      (h : ∀ (j : Nat) (hj : j < cs.length), Rep G w cs[j] (vals j)) : Rep G w (.vptr cs off) (.pointer (some ⟨b, o + off, none⟩))
  | nilptr : Rep G w .nilptr (.pointer none)
  | fn (f : Fn) (cs : List AV) (vs : Array Value) (hl : cs.length = vs.size)
      (h : ∀ (i : Nat) (h1 : i < cs.length) (h2 : i < vs.size), Rep G w cs[i] vs[i]) : Rep G w (.fn f cs) (.func f #[] vs)
  | nilfn : Rep G w .nilfn .nilFunc
  | iface (t : TypeId) (a : AV) (v : Value) (h : Rep G w a v) : Rep G w (.iface t a) (.iface t v)
  | nilIface : Rep G w .nilIface .nilIface
  | zcapNil : Rep G w (.zcap false) (.slice none 0 0)
  | zcap (b off : Nat) : Rep G w (.zcap true) (.slice (some ⟨b, off, none⟩) 0 0)

/-- What a slot holds: that, or an address of the call's own. -/
inductive RepT (G : Gh) (w : World) : AV → Value → Prop where
  | of {a : AV} {v : Value} (h : Rep G w a v) : RepT G w a v
  | lptr (t k off b : Nat) (hb : G.lb t k = some b) : RepT G w (.ptr (.loc t k) off) (.pointer (some ⟨b, off, none⟩))
  | lrow (t k off len b cap : Nat) (hb : G.lb t k = some b) (hcap : len ≤ cap) : RepT G w (.row (.loc t k) off len) (.slice (some ⟨b, off, none⟩) len cap)

/-- What is known of memory stays. -/
structure Le (G : Gh) (w : World) (G' : Gh) (w' : World) : Prop where
  cell : ∀ b o u, stable G.role b o → w.cell? ⟨b, o, none⟩ = some u → stable G'.role b o ∧ w'.cell? ⟨b, o, none⟩ = some u
  mb : ∀ i b, G.mb i = some b → G'.mb i = some b

theorem Le.refl (G : Gh) (w : World) : Le G w G w := ⟨fun _ _ _ h h' => ⟨h, h'⟩, fun _ _ h => h⟩
theorem Le.trans {G G' G'' : Gh} {w w' w'' : World} (h : Le G w G' w') (h' : Le G' w' G'' w'') : Le G w G'' w'' :=
  ⟨fun b o u s c => let ⟨s', c'⟩ := h.cell b o u s c; h'.cell b o u s' c', fun i b e => h'.mb i b (h.mb i b e)⟩

theorem Rep.mono {G G' : Gh} {w w' : World} (l : Le G w G' w') {a : AV} {v : Value} (h : Rep G w a v) : Rep G' w' a v := by
  induction h with
  | undef v => exact .undef v
  | bool b => exact .bool b
  | int k n => exact .int k n
  | str s => exact .str s
  | agg cs vs hl _ ih => exact .agg cs vs hl ih
  | tup cs vs hl _ ih => exact .tup cs vs hl ih
  | nilvec o => exact .nilvec o
  | vec o xs b off cap st vals hcap hst hc _ ih =>
    exact .vec o xs b off cap st vals hcap hst (fun j hj => l.cell _ _ _ (hc j hj).1 (hc j hj).2) ih
  | row i off len b cap hb hcap => exact .row i off len b cap (l.mb _ _ hb) hcap
  | ptr i off b hb => exact .ptr i off b (l.mb _ _ hb)
  | vptr cs off b o vals hc _ ih => exact .vptr cs off b o vals (fun j hj => l.cell _ _ _ (hc j hj).1 (hc j hj).2) ih
  | nilptr => exact .nilptr
  | fn f cs vs hl _ ih => exact .fn f cs vs hl ih
  | nilfn => exact .nilfn
  | iface t a v _ ih => exact .iface t a v ih
  | nilIface => exact .nilIface
  | zcapNil => exact .zcapNil
  | zcap b off => exact .zcap b off

theorem RepT.mono {G G' : Gh} {w w' : World} (l : Le G w G' w') (hl : ∀ t k b, G.lb t k = some b → G'.lb t k = some b) {a : AV} {v : Value} (h : RepT G w a v) : RepT G' w' a v := by
  cases h with
  | of h => exact .of (h.mono l)
  | lptr t k off b hb => exact .lptr t k off b (hl _ _ _ hb)
  | lrow t k off len b cap hb hc => exact .lrow t k off len b cap (hl _ _ _ hb) hc

theorem RepT.nl {G : Gh} {w : World} {a : AV} {v : Value} (h : RepT G w a v) (hn : a.nl = true) : Rep G w a v := by
  cases h with
  | of h => exact h
  | lptr => simp [AV.nl] at hn
  | lrow => simp [AV.nl] at hn

theorem Rep.nl {G : Gh} {w : World} {a : AV} {v : Value} (h : Rep G w a v) : a.nl = true := by
  cases h <;> rfl

theorem Rep.view {G : Gh} {w : World} {a : AV} {v : Value} (h : Rep G w a v) : Rep G w a.view v := by
  cases h with
  | nilvec o => exact .nilvec none
  | vec o xs b off cap st vals hcap hst hc h => exact .vec none xs b off cap st vals hcap hst hc h
  | undef v => exact .undef v
  | bool b => exact .bool b
  | int k n => exact .int k n
  | str s => exact .str s
  | agg cs vs hl h => exact .agg cs vs hl h
  | tup cs vs hl h => exact .tup cs vs hl h
  | row i off len b cap hb hcap => exact .row i off len b cap hb hcap
  | ptr i off b hb => exact .ptr i off b hb
  | vptr cs off b o vals hc h => exact .vptr cs off b o vals hc h
  | nilptr => exact .nilptr
  | fn f cs vs hl h => exact .fn f cs vs hl h
  | nilfn => exact .nilfn
  | iface t a v h => exact .iface t a v h
  | nilIface => exact .nilIface
  | zcapNil => exact .zcapNil
  | zcap b off => exact .zcap b off

theorem RepT.view {G : Gh} {w : World} {a : AV} {v : Value} (h : RepT G w a v) : RepT G w a.view v := by
  cases h with
  | of h => exact .of h.view
  | lptr t k off b hb => exact .lptr t k off b hb
  | lrow t k off len b cap hb hc => exact .lrow t k off len b cap hb hc

/-- The right to append, held by o. -/
def OwnAt (G : Gh) (w : World) (o : Owner) (a : AV) (v : Value) : Prop :=
  ∀ z nn xs, a = .vec (some z) nn xs → (∀ x ∈ xs, x.cells.length = z) ∧
    ∀ b off len cap, v = .slice (some ⟨b, off, none⟩) len cap → len = cap ∨
      (b < w.heap.size ∧ G.role b = (o, some (off + (flat xs).length)) ∧
        ∀ k, off + (flat xs).length ≤ k → k < off + cap * z → (∃ u, w.cell? ⟨b, k, none⟩ = some u) ∧ w.frozen? ⟨b, k, none⟩ = false)

theorem OwnAt.view {G : Gh} {w : World} {o : Owner} {a : AV} {v : Value} : OwnAt G w o a.view v := by
  intro z nn xs e
  cases a <;> simp [AV.view] at e

theorem OwnAt.of_not {G : Gh} {w : World} {o : Owner} {a : AV} {v : Value} (h : ∀ z nn xs, a ≠ .vec (some z) nn xs) : OwnAt G w o a v :=
  fun z nn xs e => absurd e (h z nn xs)

/-- The cells of a block stand for a list. -/
def ObjAt (G : Gh) (w : World) (x : Ix) (b : Nat) : LObj → Prop
  | .cells false cs => G.role b = (.obj x, some 0) ∧ ∃ arr T, w.heap[b]? = some (.cells arr T (0, 0)) ∧ cs.length ≤ arr.size ∧
      ∀ (j : Nat) (h1 : j < cs.length) (h2 : j < arr.size), Rep G w cs[j] arr[j] ∧ OwnAt G w (.cell x j) cs[j] arr[j]
  | .cells true cs => ∃ vals : Nat → Value, ∀ (j : Nat) (h : j < cs.length), stable G.role b j ∧ w.cell? ⟨b, j, none⟩ = some (vals j) ∧ Rep G w cs[j] (vals j)
  | .iter s pos => G.role b = (.obj x, some 0) ∧ w.heap[b]? = some (.stringIter ⟨s.toArray⟩ pos)

structure Inv (G0 : Gh) (w0 : World) (G : Gh) (w : World) (s : St) (tv : Nat → Value) : Prop where
  os : w.os = w0.os
  tape : w.tape = w0.tape
  output : w.output = w0.output
  size : w0.heap.size ≤ w.heap.size
  tmp : ∀ t, RepT G w (s.tmp t) (tv t)
  own : ∀ t, OwnAt G w (.slot t) (s.tmp t) (tv t)
  obj : ∀ x o, s.obj x = some o → ∃ b, G.at x = some b ∧ b < w.heap.size ∧ ObjAt G w x b o
  ext : ∀ b, b < w0.heap.size → (G0.role b).1 = .ext → w.heap[b]? = w0.heap[b]? ∧ G.role b = G0.role b
  le : Le G0 w0 G w
  mlen : ∀ i, s.mem.length ≤ i → G.mb i = none
  llen : ∀ t k, (s.loc t).length ≤ k → G.lb t k = none

end Go.Vm
