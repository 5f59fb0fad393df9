/- From the model's operations to the small ones, and the pure ones' soundness. -/
import Derived.Test.YtdodnhbegabbpaaV2
import Derived.Laws.Entries
import Derived.Laws.Build
import Derived.Laws.Cells
import Derived.Laws.Append
import Derived.Laws.MakeOwn
import Derived.Laws.Slices
import Derived.Laws.Strings
import Derived.Laws.StructEq
import Derived.Laws.Small
import Derived.Laws.Pointers
import Derived.Laws.BytesString
namespace Go.Vm

/-! ### constants -/

def AV.ofScalar : Value → Option AV
  | .bool b => some (.bool b)
  | .int k n => some (.int k n)
  | .string s => some (.str s.data.toList)
  | .pointer none => some .nilptr
  | .slice none 0 0 => some (.vec none false [])
  | .nilFunc => some .nilfn
  | .nilIface => some .nilIface
  | _ => none

def ofCells : List Value → Option (List AV)
  | [] => some []
  | v :: rest => match AV.ofScalar v, ofCells rest with
    | some a, some as => some (a :: as)
    | _, _ => none

def AV.ofValue : Value → Option AV
  | .agg cs => match ofCells cs.toList with
    | some as => some (.agg as)
    | none => none
  | v => AV.ofScalar v

theorem Rep.ofScalar (G : Gh) (w : World) {v : Value} {a : AV} (h : AV.ofScalar v = some a) : Rep G w a v := by
  unfold AV.ofScalar at h
  split at h <;> simp at h <;> subst h
  · exact .bool _
  · exact .int _ _
  · exact .str _
  · exact .nilptr
  · exact .nilvec _
  · exact .nilfn
  · exact .nilIface

theorem ofCells_len : ∀ {vs : List Value} {as : List AV}, ofCells vs = some as → as.length = vs.length
  | [], as, h => by simp [ofCells] at h; subst h; rfl
  | v :: rest, as, h => by
    simp only [ofCells] at h
    split at h
    · rename_i a as' h1 h2
      simp at h; subst h
      simp [ofCells_len h2]
    · simp at h

theorem Rep.ofCells (G : Gh) (w : World) : ∀ {vs : List Value} {as : List AV}, ofCells vs = some as →
    ∀ (i : Nat) (h1 : i < as.length) (h2 : i < vs.length), Rep G w as[i] vs[i]
  | [], as, h, i, h1, h2 => by simp at h2
  | v :: rest, as, h, i, h1, h2 => by
    simp only [Vm.ofCells] at h
    split at h
    · rename_i a as' ha hr
      simp at h; subst h
      cases i with
      | zero => exact Rep.ofScalar G w ha
      | succ i => exact Rep.ofCells G w hr i (by simpa using h1) (by simpa using h2)
    · simp at h

theorem Rep.ofValue (G : Gh) (w : World) {v : Value} {a : AV} (h : AV.ofValue v = some a) : Rep G w a v := by
  unfold AV.ofValue at h
  split at h
  · rename_i cs
    split at h
    · rename_i as hc
      simp at h; subst h
      refine .agg as cs (by simpa using ofCells_len hc) fun i h1 h2 => ?_
      have := Rep.ofCells G w hc i h1 (by simpa using h2)
      simpa using this
    · simp at h
  · exact Rep.ofScalar G w h

def isSingle : Value → Bool
  | .agg _ => false
  | _ => true

theorem cells_len_of_rep {G : Gh} {w : World} {a : AV} {v : Value} (h : Rep G w a v) (hu : a ≠ .undef) : a.cells.length = v.cells.size := by
  cases h <;> first | rfl | (exact absurd rfl hu) | (rename_i hl _; exact hl)

/-! ### operands -/

def trO : Operand → Option VO
  | .tmp t => some (.t t)
  | .const v => match AV.ofValue v with
    | some a => some (.k a)
    | none => none
  | .func f => some (.k (.fn (.func f) []))
  | .global _ => none

/-- The operands stand for the abstract ones. -/
def OkEv (G : Gh) (w : World) (ev : VO → AV) (ρ : Operand → Value) : Prop := ∀ x y, trO x = some y → RepT G w (ev y) (ρ x)

theorem okEv_of {G0 : Gh} {w0 : World} {G : Gh} {w : World} {s : St} {a : Act} (h : Inv G0 w0 G w s (fun t => a.tmps.getD t undef)) : OkEv G w s.ev a.eval := by
  intro x y e
  cases x with
  | tmp t => simp [trO] at e; subst e; exact h.tmp t
  | const v =>
    simp only [trO] at e
    split at e
    · rename_i av hv
      simp at e; subst e
      exact .of (Rep.ofValue G w hv)
    · simp at e
  | func f => simp [trO] at e; subst e; exact .of (.fn _ [] #[] rfl (fun i h1 h2 => absurd h1 (by simp)))
  | global g => simp [trO] at e

/-- New blocks, nothing else. -/
structure Grow (G : Gh) (w : World) (G' : Gh) (w' : World) : Prop where
  os : w'.os = w.os
  tape : w'.tape = w.tape
  output : w'.output = w.output
  size : w.heap.size ≤ w'.heap.size
  old : ∀ b, b < w.heap.size → w'.heap[b]? = w.heap[b]? ∧ G'.role b = G.role b
  mb : G'.mb = G.mb
  lb : G'.lb = G.lb

theorem Grow.refl (G : Gh) (w : World) : Grow G w G w := ⟨rfl, rfl, rfl, Nat.le_refl _, fun _ _ => ⟨rfl, rfl⟩, rfl, rfl⟩

theorem cell?_of_heap {w w' : World} {b o : Nat} (h : w'.heap[b]? = w.heap[b]?) : w'.cell? ⟨b, o, none⟩ = w.cell? ⟨b, o, none⟩ := by
  simp [World.cell?, h]
theorem frozen?_of_heap {w w' : World} {b o : Nat} (h : w'.heap[b]? = w.heap[b]?) : w'.frozen? ⟨b, o, none⟩ = w.frozen? ⟨b, o, none⟩ := by
  simp [World.frozen?, h]
theorem lt_of_cell {w : World} {b o : Nat} {u : Value} (h : w.cell? ⟨b, o, none⟩ = some u) : b < w.heap.size := World.block_lt_of_cell? w ⟨b, o, none⟩ h

theorem stable_of_role {r r' : Roles} {b o : Nat} (h : r' b = r b) (hs : stable r b o) : stable r' b o := by
  unfold stable at *; rw [h]; exact hs

theorem Grow.le {G G' : Gh} {w w' : World} (h : Grow G w G' w') : Le G w G' w' :=
  ⟨fun b o u hs hc => ⟨stable_of_role (h.old b (lt_of_cell hc)).2 hs, by rw [cell?_of_heap (h.old b (lt_of_cell hc)).1]; exact hc⟩,
   fun i b e => by rw [h.mb]; exact e⟩

theorem Grow.trans {G G' G'' : Gh} {w w' w'' : World} (h : Grow G w G' w') (h' : Grow G' w' G'' w'') : Grow G w G'' w'' :=
  ⟨h'.os.trans h.os, h'.tape.trans h.tape, h'.output.trans h.output, Nat.le_trans h.size h'.size,
   fun b hb => let hb' := Nat.lt_of_lt_of_le hb h.size; ⟨(h'.old b hb').1.trans (h.old b hb).1, (h'.old b hb').2.trans (h.old b hb).2⟩,
   h'.mb.trans h.mb, h'.lb.trans h.lb⟩

theorem OwnAt.grow {G G' : Gh} {w w' : World} (g : Grow G w G' w') {o : Owner} {a : AV} {v : Value} (h : OwnAt G w o a v) : OwnAt G' w' o a v := by
  intro z nn xs e
  refine ⟨(h z nn xs e).1, fun b off len cap ev => ?_⟩
  rcases (h z nn xs e).2 b off len cap ev with h | ⟨h1, h2, h3⟩
  · exact .inl h
  · refine .inr ⟨Nat.lt_of_lt_of_le h1 g.size, (g.old b h1).2.trans h2, fun k hk hk' => ?_⟩
    obtain ⟨⟨u, hu⟩, hf⟩ := h3 k hk hk'
    exact ⟨⟨u, by rw [cell?_of_heap (g.old b h1).1]; exact hu⟩, by rw [frozen?_of_heap (g.old b h1).1]; exact hf⟩

theorem ObjAt.frozen {G G' : Gh} {w w' : World} (l : Le G w G' w') {x : Ix} {b : Nat} {cs : List AV} (h : ObjAt G w x b (.cells true cs)) : ObjAt G' w' x b (.cells true cs) := by
  obtain ⟨vals, h⟩ := h
  refine ⟨vals, fun j hj => ?_⟩
  obtain ⟨h1, h2, h3⟩ := h j hj
  obtain ⟨k1, k2⟩ := l.cell b j _ h1 h2
  exact ⟨k1, k2, h3.mono l⟩

theorem ObjAt.grow {G G' : Gh} {w w' : World} (g : Grow G w G' w') {x : Ix} {b : Nat} (hb : b < w.heap.size) {o : LObj} (h : ObjAt G w x b o) : ObjAt G' w' x b o := by
  cases o with
  | cells fz cs =>
    cases fz
    · obtain ⟨h1, arr, T, h2, h3, h4⟩ := h
      exact ⟨(g.old b hb).2.trans h1, arr, T, (g.old b hb).1.trans h2, h3, fun j j1 j2 => ⟨(h4 j j1 j2).1.mono g.le, (h4 j j1 j2).2.grow g⟩⟩
    · exact ObjAt.frozen g.le h
  | iter s pos => exact ⟨(g.old b hb).2.trans h.1, (g.old b hb).1.trans h.2⟩

theorem Gh.at_eq {G G' : Gh} (hm : G'.mb = G.mb) (hl : G'.lb = G.lb) (x : Ix) : G'.at x = G.at x := by
  cases x <;> simp [Gh.at, hm, hl]

theorem Inv.grow {G0 : Gh} {w0 : World} {G G' : Gh} {w w' : World} {s : St} {tv : Nat → Value} (h : Inv G0 w0 G w s tv) (g : Grow G w G' w') : Inv G0 w0 G' w' s tv where
  os := g.os.trans h.os
  tape := g.tape.trans h.tape
  output := g.output.trans h.output
  size := Nat.le_trans h.size g.size
  tmp t := (h.tmp t).mono g.le (fun t k b e => by rw [g.lb]; exact e)
  own t := (h.own t).grow g
  obj x o e := by
    obtain ⟨b, h1, h2, h3⟩ := h.obj x o e
    exact ⟨b, by rw [Gh.at_eq g.mb g.lb]; exact h1, Nat.lt_of_lt_of_le h2 g.size, h3.grow g h2⟩
  ext b hb e := by
    have hb' := Nat.lt_of_lt_of_le hb h.size
    exact ⟨(g.old b hb').1.trans (h.ext b hb e).1, (g.old b hb').2.trans (h.ext b hb e).2⟩
  le := h.le.trans g.le
  mlen i e := by rw [g.mb]; exact h.mlen i e
  llen t k e := by rw [g.lb]; exact h.llen t k e

end Go.Vm
