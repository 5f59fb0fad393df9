/- A small machine and its soundness, part VC. -/
import Derived.Test.YtmlfcgmiaapffaaGreatDoorVB
import Derived.Laws.CopyRow
import Derived.Laws.IdiomCopy
import Derived.Laws.AppendOwnNone
import GoSem.Instr.MapUpdate
import GoSem.Instr.MakeMap
import Derived.Laws.StructEq
import Derived.Lib.Builder
import Derived.Lib.UnsafeStr
/- Objects: made, read, written. -/
namespace Go.Vm

section
variable {P : Program} {G0 : Gh} {w0 : World} {G : Gh} {w : World} {s : St} {tv : Nat → Value}

def addLoc (s : St) (d : Nat) (o : LObj) : St := { s with loc := fun j => if j = d then s.loc d ++ [o] else s.loc j }
def addMem (s : St) (o : LObj) : St := { s with mem := s.mem ++ [some o] }
def Gh.addLoc (G : Gh) (d k n : Nat) : Gh := { G with lb := fun t k' => if t = d ∧ k' = k then some n else G.lb t k' }
def Gh.addMem (G : Gh) (i n : Nat) : Gh := { G with mb := fun i' => if i' = i then some n else G.mb i' }

/-- A new object, whatever it is: the ghost knows its block. -/
theorem Inv.newObj (h : Inv P G0 w0 G w s tv) {w1 : World} (hd : Drawn w w1) (o : Obj) (heap : Bool) (d : Nat) (lo : LObj)
    (hlo : ∀ (G' : Gh) (x : Ix), Le G w G' (w1.alloc o) → G'.role w.heap.size = (.obj x, some 0) → (w1.alloc o).heap[w.heap.size]? = some o → (heap = true → G'.mb s.mem.length = some w.heap.size) → ObjAt G' (w1.alloc o) x w.heap.size lo) :
    (heap = false → ∃ G', Inv P G0 w0 G' (w1.alloc o) (addLoc s d lo) tv ∧ G'.at (.loc d (s.loc d).length) = some w.heap.size ∧ Le G w G' (w1.alloc o)) ∧
    (heap = true → ∃ G', Inv P G0 w0 G' (w1.alloc o) (addMem s lo) tv ∧ G'.at (.mem s.mem.length) = some w.heap.size ∧ Le G w G' (w1.alloc o)) := by
  have hat : (w1.alloc o).heap[w.heap.size]? = some o := heap_alloc_at _ _ (by rw [hd.heap])
  constructor
  · intro hloc
    have g := alloc_grow G hd o (.obj (.loc d (s.loc d).length), some 0)
    have hi := h.grow g
    have hlb : ∀ t k b, G.lb t k = some b → ((G.newRole w.heap.size (.obj (.loc d (s.loc d).length), some 0)).addLoc d (s.loc d).length w.heap.size).lb t k = some b := by
      intro t k b e
      simp only [Gh.addLoc]
      split
      · rename_i hh
        obtain ⟨rfl, rfl⟩ := hh
        rw [h.llen t _ (Nat.le_refl _)] at e
        simp at e
      · exact e
    have hle : Le (G.newRole w.heap.size (.obj (.loc d (s.loc d).length), some 0)) (w1.alloc o) ((G.newRole w.heap.size (.obj (.loc d (s.loc d).length), some 0)).addLoc d (s.loc d).length w.heap.size) (w1.alloc o) :=
      ⟨fun _ _ _ a b => ⟨a, b⟩, fun _ _ e => e, fun _ _ e => e⟩
    have hkeep : ∀ {x b lo'}, ObjAt (G.newRole w.heap.size (.obj (.loc d (s.loc d).length), some 0)) (w1.alloc o) x b lo' → ObjAt ((G.newRole w.heap.size (.obj (.loc d (s.loc d).length), some 0)).addLoc d (s.loc d).length w.heap.size) (w1.alloc o) x b lo' :=
      fun hh => hh.keep hle (Nat.le_refl _) (fun _ => ⟨rfl, rfl⟩) fun _ _ _ _ _ _ => ⟨rfl, fun k a b => ⟨a, b⟩⟩
    refine ⟨_, { hi with tmp := fun t => (hi.tmp t).mono hle hlb, own := fun t => hi.own t, obj := fun x lo' e => ?_, ext := hi.ext, le := hi.le.trans hle, mlen := hi.mlen, llen := fun t k hk => ?_ }, ?_, g.le.trans hle⟩
    · have old : ∀ x, s.obj x = some lo' → G.at x ≠ none → ((G.newRole w.heap.size (.obj (.loc d (s.loc d).length), some 0)).addLoc d (s.loc d).length w.heap.size).at x = G.at x := by
        intro x _ hx
        cases x with
        | mem i => rfl
        | loc t k =>
          cases hg : G.lb t k with
          | none => exact absurd hg hx
          | some b => exact (hlb t k b hg).trans hg.symm
      by_cases hx : x = .loc d (s.loc d).length
      · subst hx
        have : lo' = lo := by
          simp only [St.obj, addLoc, if_true] at e
          simpa using e.symm
        subst this
        exact ⟨w.heap.size, by simp [Gh.at, Gh.addLoc], by simp [hd.heap], hlo _ _ (g.le.trans hle) (newRole_at _ _ _) hat (fun h => by rw [hloc] at h; cases h)⟩
      · have e' : s.obj x = some lo' := by
          cases x with
          | mem i => exact e
          | loc t k =>
            simp only [St.obj, addLoc] at e ⊢
            by_cases ht : t = d
            · subst ht
              simp only [if_true] at e
              have hk : k ≠ (s.loc t).length := fun hk => hx (by rw [hk])
              rcases Nat.lt_or_ge k (s.loc t).length with h' | h'
              · rwa [List.getElem?_append_left h'] at e
              · rw [List.getElem?_append_right h'] at e
                have : k - (s.loc t).length ≠ 0 := by omega
                cases hq : k - (s.loc t).length with
                | zero => exact absurd hq this
                | succ q => rw [hq] at e; simp at e
            · simpa [ht] using e
        obtain ⟨b, h1, h2, h3⟩ := hi.obj x lo' e'
        obtain ⟨b', h1', _, _⟩ := h.obj x lo' e'
        refine ⟨b, ?_, h2, hkeep h3⟩
        rw [old x e' (by rw [h1']; simp), ← h1]
        cases x <;> rfl
    · simp only [addLoc] at hk
      simp only [Gh.addLoc]
      by_cases ht : t = d
      · subst ht
        simp at hk
        rw [if_neg (by omega)]
        exact h.llen t k (by omega)
      · rw [if_neg (by simp [ht])]
        exact h.llen t k (by simpa [ht] using hk)
    · simp [Gh.at, Gh.addLoc]
  · intro _
    have g := alloc_grow G hd o (.obj (.mem s.mem.length), some 0)
    have hi := h.grow g
    have hmb : ∀ i b, G.mb i = some b → ((G.newRole w.heap.size (.obj (.mem s.mem.length), some 0)).addMem s.mem.length w.heap.size).mb i = some b := by
      intro i b e
      simp only [Gh.addMem]
      split
      · rename_i hh
        subst hh
        rw [h.mlen _ (Nat.le_refl _)] at e
        simp at e
      · exact e
    have hle : Le (G.newRole w.heap.size (.obj (.mem s.mem.length), some 0)) (w1.alloc o) ((G.newRole w.heap.size (.obj (.mem s.mem.length), some 0)).addMem s.mem.length w.heap.size) (w1.alloc o) :=
      ⟨fun _ _ _ a b => ⟨a, b⟩, hmb, fun _ _ e => e⟩
    have hkeep : ∀ {x b lo'}, ObjAt (G.newRole w.heap.size (.obj (.mem s.mem.length), some 0)) (w1.alloc o) x b lo' → ObjAt ((G.newRole w.heap.size (.obj (.mem s.mem.length), some 0)).addMem s.mem.length w.heap.size) (w1.alloc o) x b lo' :=
      fun hh => hh.keep hle (Nat.le_refl _) (fun _ => ⟨rfl, rfl⟩) fun _ _ _ _ _ _ => ⟨rfl, fun k a b => ⟨a, b⟩⟩
    refine ⟨_, { hi with tmp := fun t => (hi.tmp t).mono hle (fun _ _ _ e => e), own := fun t => hi.own t, obj := fun x lo' e => ?_, ext := hi.ext, le := hi.le.trans hle, mlen := fun i hi' => ?_, llen := hi.llen }, ?_, g.le.trans hle⟩
    · by_cases hx : x = .mem s.mem.length
      · subst hx
        have : lo' = lo := by
          simp only [St.obj, addMem] at e
          simpa using e.symm
        subst this
        exact ⟨w.heap.size, by simp [Gh.at, Gh.addMem], by simp [hd.heap], hlo _ _ (g.le.trans hle) (newRole_at _ _ _) hat (fun _ => by simp [Gh.addMem])⟩
      · have e' : s.obj x = some lo' := by
          cases x with
          | loc t k => exact e
          | mem i =>
            simp only [St.obj, addMem] at e ⊢
            have hk : i ≠ s.mem.length := fun hk => hx (by rw [hk])
            rcases Nat.lt_or_ge i s.mem.length with h' | h'
            · rwa [List.getElem?_append_left h'] at e
            · rw [List.getElem?_append_right h'] at e
              cases hq : i - s.mem.length with
              | zero => omega
              | succ q => rw [hq] at e; simp at e
        obtain ⟨b, h1, h2, h3⟩ := hi.obj x lo' e'
        obtain ⟨b', h1', _, _⟩ := h.obj x lo' e'
        refine ⟨b, ?_, h2, hkeep h3⟩
        have h1'' : G.at x = some b := by rw [← h1]; cases x <;> rfl
        cases x with
        | loc t k => exact h1''
        | mem i => exact hmb i b h1''
    · simp only [addMem, List.length_append, List.length_cons, List.length_nil] at hi'
      simp only [Gh.addMem]
      rw [if_neg (by omega)]
      exact h.mlen i (by omega)
    · simp [Gh.at, Gh.addMem]

/-- One block is written. -/
structure Wrote (b : Nat) (o : Obj) (w w' : World) : Prop where
  os : w'.os = w.os
  tape : w'.tape = w.tape
  output : w'.output = w.output
  size : w'.heap.size = w.heap.size
  at_ : w'.heap[b]? = some o
  ne : ∀ b', b' ≠ b → w'.heap[b']? = w.heap[b']?
  shp : ∀ t, w.shape? b = some t → w'.shape? b = some t

theorem Wrote.le {b : Nat} {o : Obj} {w' : World} (h : Wrote b o w w') (hb : ∀ k, ¬ stable G.role b k) : Le G w G w' :=
  ⟨fun b' k u hs hc => ⟨hs, by
    have : b' ≠ b := by rintro rfl; exact hb k hs
    rw [cell?_of_heap (h.ne b' this)]; exact hc⟩, fun _ _ e => e, fun b' t e => by
    by_cases hb' : b' = b
    · subst hb'; exact h.shp t e
    · rw [shape?_of_heap (h.ne b' hb')]; exact e⟩

theorem not_stable_obj {x : Ix} {b : Nat} (h : G.role b = (.obj x, some 0)) (k : Nat) : ¬ stable G.role b k := by
  unfold stable; rw [h]; simp

theorem obj_setObj {s : St} {x : Ix} {o o' : LObj} (h : s.obj x = some o) : (s.setObj x o').obj x = some o' := by
  cases x with
  | loc t k =>
    simp only [St.obj, St.setObj, if_true] at h ⊢
    obtain ⟨hk, _⟩ := List.getElem?_eq_some_iff.1 h
    simp [hk]
  | mem i =>
    simp only [St.obj, St.setObj] at h ⊢
    cases hm : s.mem[i]? with
    | none => simp [hm] at h
    | some z =>
      obtain ⟨hk, _⟩ := List.getElem?_eq_some_iff.1 hm
      simp [hk]

theorem obj_setObj_ne {s : St} {x y : Ix} {o' : LObj} (h : y ≠ x) : (s.setObj x o').obj y = s.obj y := by
  cases x with
  | loc t k =>
    cases y with
    | mem i => rfl
    | loc t' k' =>
      simp only [St.obj, St.setObj]
      by_cases ht : t' = t
      · subst ht
        have : k ≠ k' := fun e => h (by rw [e])
        simp [this]
      · simp [ht]
  | mem i =>
    cases y with
    | loc t k => rfl
    | mem i' =>
      simp only [St.obj, St.setObj]
      have : i ≠ i' := fun e => h (by rw [e])
      simp [this]

theorem setObj_lens (s : St) (x : Ix) (o : LObj) : (∀ t, ((s.setObj x o).loc t).length = (s.loc t).length) ∧ (s.setObj x o).mem.length = s.mem.length ∧ (s.setObj x o).tmp = s.tmp := by
  cases x with
  | loc t k =>
    refine ⟨fun t' => ?_, rfl, rfl⟩
    simp only [St.setObj]
    split
    · rename_i e; subst e; simp
    · rfl
  | mem i => exact ⟨fun _ => rfl, by simp [St.setObj], rfl⟩

/-- An object is written. -/
theorem Inv.wrote (h : Inv P G0 w0 G w s tv) {x : Ix} {o o' : LObj} {b : Nat} {ob : Obj} {w' : World} (hx : s.obj x = some o) (hb : G.at x = some b) (hr : G.role b = (.obj x, some 0))
    (hw : Wrote b ob w w') (hnew : Le G w G w' → ObjAt G w' x b o') : Inv P G0 w0 G w' (s.setObj x o') tv := by
  have hle : Le G w G w' := hw.le (not_stable_obj hr)
  have hk : ∀ (b' : Nat), (G.role b').1 ≠ .obj x → b' ≠ b := fun b' e eb => by subst eb; exact e (by rw [hr])
  have hcf : ∀ b', b' ≠ b → ∀ k, (∃ u, w.cell? ⟨b', k, none⟩ = some u) → w.frozen? ⟨b', k, none⟩ = false → (∃ u, w'.cell? ⟨b', k, none⟩ = some u) ∧ w'.frozen? ⟨b', k, none⟩ = false := by
    intro b' hne k h1 h2
    exact ⟨by rw [cell?_of_heap (hw.ne b' hne)]; exact h1, by rw [frozen?_of_heap (hw.ne b' hne)]; exact h2⟩
  refine { os := hw.os.trans h.os, tape := hw.tape.trans h.tape, output := hw.output.trans h.output, size := by rw [hw.size]; exact h.size, tmp := fun t => ?_, own := fun t => ?_, obj := fun y lo e => ?_, ext := fun b' hb' e => ?_, le := h.le.trans hle, mlen := ?_, llen := ?_, glob := h.glob }
  · rw [(setObj_lens s x o').2.2]; exact (h.tmp t).mono hle (fun _ _ _ e => e)
  · rw [(setObj_lens s x o').2.2]
    refine (h.own t).keep (by rw [hw.size]; exact Nat.le_refl _) fun b' c => ⟨rfl, hcf b' (hk b' ?_)⟩
    rw [(h.own t).role c]; simp
  · by_cases hy : y = x
    · subst hy
      rw [obj_setObj hx] at e
      simp only [Option.some.injEq] at e
      subst e
      obtain ⟨b', h1, h2, _⟩ := h.obj y o hx
      rw [hb] at h1
      simp only [Option.some.injEq] at h1
      subst h1
      exact ⟨b, hb, by rw [hw.size]; exact h2, hnew hle⟩
    · rw [obj_setObj_ne hy] at e
      obtain ⟨by_, h1, h2, h3⟩ := h.obj y lo e
      refine ⟨by_, h1, by rw [hw.size]; exact h2, h3.keep hle (by rw [hw.size]; exact Nat.le_refl _) (fun e => ⟨rfl, hw.ne _ (hk by_ (by rw [e]; simpa using hy))⟩) fun j a v b' ho c => ⟨rfl, hcf b' (hk b' ?_)⟩⟩
      rw [ho.role c]; simp
  · obtain ⟨k1, k2⟩ := h.ext b' hb' e
    refine ⟨(hw.ne b' (hk b' ?_)).trans k1, k2⟩
    rw [k2, e]; simp
  · intro i hi; exact h.mlen i (by rw [← (setObj_lens s x o').2.1]; exact hi)
  · intro t k hk'; exact h.llen t k (by rw [← (setObj_lens s x o').1 t]; exact hk')

end
end Go.Vm
/- The operations on memory: each is sound. -/
namespace Go.Vm

def Does (P : Program) (ρ : Operand → Value) (o : Oper) (G0 : Gh) (w0 w : World) (tv : Nat → Value) (d : Nat) (a : AV) (s' : St) : Prop :=
  ∃ v w' G', ((execOp ρ o).run P w = .ok (.value v) w' ∨ ((execOp ρ o).run P w = .ok .skip w' ∧ v = undef)) ∧ Inv P G0 w0 G' w' s' tv ∧ RepT G' w' a v ∧ OwnAt G' w' (.slot d) a v

section
variable {P : Program} {ρ : Operand → Value} {G0 : Gh} {w0 : World} {G : Gh} {w : World} {s : St} {tv : Nat → Value} {d : Nat} {o : Oper}

theorem okEv_of' (h : Inv P G0 w0 G w s tv) (hT : ∀ t, ρ (.tmp t) = tv t) (hc : EvConst ρ) (hf : ∀ f, ρ (.func f) = .func (.func f) #[] #[]) : OkEv P G w s.ev ρ := by
  intro x y e
  cases x with
  | tmp t => simp [trO] at e; subst e; rw [hT]; exact h.tmp t
  | const v =>
    simp only [trO] at e
    split at e
    · rename_i av hv
      simp at e; subst e
      rw [hc.con]
      exact .of (Rep.ofValue G w hv)
    · simp at e
  | func f => simp [trO] at e; subst e; rw [hf]; exact .of (.fn _ [] #[] rfl (fun i h1 h2 => absurd h1 (by simp)))
  | global g =>
    simp only [trO] at e
    split at e
    · rename_i cs hg
      simp at e; subst e
      rw [hc.glo]
      exact .of ((h.glob.tab g cs hg).mono h.le)
    · simp at e

theorem ofScalar_notOwn {v : Value} {a : AV} (h : AV.ofScalar v = some a) : notOwn a := by
  unfold AV.ofScalar at h
  split at h <;> simp at h <;> subst h <;> trivial
theorem ofValue_notOwn {v : Value} {a : AV} (h : AV.ofValue v = some a) : notOwn a := by
  unfold AV.ofValue at h
  split at h
  · split at h <;> simp at h
    subst h; trivial
  · exact ofScalar_notOwn h

theorem trO_k {x : Operand} {v : AV} (h : trO P x = some (.k v)) : notOwn v := by
  cases x with
  | tmp t => simp [trO] at h
  | const c =>
    simp only [trO] at h
    split at h
    · rename_i a ha
      simp at h; subst h
      exact ofValue_notOwn ha
    · simp at h
  | func f => simp [trO] at h; subst h; trivial
  | global g =>
    simp only [trO] at h
    split at h
    · simp at h; subst h; trivial
    · simp at h

theorem trO_t {x : Operand} {t : Nat} (h : trO P x = some (.t t)) : x = .tmp t := by
  cases x with
  | tmp t => simp [trO] at h; subst h; rfl
  | const c =>
    simp only [trO] at h
    split at h <;> simp at h
  | func f => simp [trO] at h
  | global g =>
    simp only [trO] at h
    split at h <;> simp at h

/-- An operand's value moves on. -/
theorem Inv.takeO (h : Inv P G0 w0 G w s tv) {x : Operand} {x' : VO} (hx : trO P x = some x') (hT : ∀ t, ρ (.tmp t) = tv t) (he : OkEv P G w s.ev ρ) :
    ∃ G', Inv P G0 w0 G' w (s.takeO x').2 tv ∧ RepT G' w (s.takeO x').1 (ρ x) ∧ OwnAt G' w .air (s.takeO x').1 (ρ x) ∧ G'.mb = G.mb ∧ G'.lb = G.lb ∧ Le G w G' w := by
  cases x' with
  | t n =>
    have := trO_t hx
    subst this
    rw [hT]
    exact h.takeT n
  | k v => exact ⟨G, h, he _ _ hx, OwnAt.of_notOwn (trO_k hx), rfl, rfl, .refl G w⟩

theorem does_assign {x : Operand} {x' : VO} (hI : Inv P G0 w0 G w s tv) (ho : o.op = .assign x ∨ o.op = .move x) (hx : trO P x = some x') (hT : ∀ t, ρ (.tmp t) = tv t) (he : OkEv P G w s.ev ρ) :
    Does P ρ o G0 w0 w tv d (s.takeO x').1 (s.takeO x').2 := by
  obtain ⟨G1, h1, h2, h3, _⟩ := hI.takeO hx hT he
  obtain ⟨G2, k1, k2, k3, _⟩ := h1.land h2 h3 (.slot d)
  exact ⟨ρ x, w, G2, .inl (by rcases ho with ho | ho <;> simp [execOp, ho]), k1, k2, k3⟩

theorem zeroValue_run {t : TypeId} {zv : Value} (h : zeroOf P t = some zv) : (zeroValue t).run P w = .ok zv w := by
  unfold zeroOf at h
  cases hi : P.info? t with
  | none => simp [hi] at h
  | some it => simp [hi] at h; simp [zeroValue, typeInfo, hi, h]

theorem objAt_cells {G' : Gh} {w' : World} {x : Ix} {b : Nat} {cs : List AV} {arr : Array Value} {T : TypeId} (hr : G'.role b = (.obj x, some 0)) (hh : w'.heap[b]? = some (.cells arr T (0, 0)))
    (hl : RepL G' w' cs arr.toList) (hn : ∀ a ∈ cs, notOwn a) : ObjAt G' w' x b (.cells false cs) := by
  have := hl.to_array
  exact ⟨hr, arr, T, _, hh, .inl rfl, Nat.le_of_eq this.1, fun j j1 j2 => ⟨this.2 j j1 j2, OwnAt.of_notOwn (hn _ (List.getElem_mem j1))⟩⟩

theorem RepL.mono {G G' : Gh} {w w' : World} (l : Le G w G' w') {cs : List AV} {vs : List Value} (h : RepL G w cs vs) : RepL G' w' cs vs :=
  ⟨h.1, fun i a v ha hv => (h.2 i a v ha hv).mono l⟩

theorem does_new (hI : Inv P G0 w0 G w s tv) {heap : Bool} {cs : List AV} {v : Value} {T : TypeId} (hl : RepL G w cs v.cells.toList) (hn : ∀ a ∈ cs, notOwn a)
    (hrun : (execOp ρ o).run P w = .ok (.value (.pointer (some ⟨w.heap.size, 0, none⟩))) (w.alloc (.cells v.cells T))) :
    (heap = true → Does P ρ o G0 w0 w tv d (.ptr (.mem s.mem.length) 0) (addMem s (.cells false cs))) ∧
    (heap = false → Does P ρ o G0 w0 w tv d (.ptr (.loc d (s.loc d).length) 0) (addLoc s d (.cells false cs))) := by
  have key := hI.newObj (Drawn.refl w) (.cells v.cells T (0, 0)) heap d (.cells false cs) (fun G' x l hr hh _ => objAt_cells hr hh (hl.mono l) hn)
  constructor
  · intro hb
    obtain ⟨G', h1, h2, _⟩ := key.2 hb
    exact ⟨_, _, G', .inl hrun, h1, RepT.ptr_mk h2, OwnAt.of_notOwn trivial⟩
  · intro hb
    obtain ⟨G', h1, h2, _⟩ := key.1 hb
    exact ⟨_, _, G', .inl hrun, h1, RepT.ptr_mk h2, OwnAt.of_notOwn trivial⟩

theorem ofCells_notOwn : ∀ {vs : List Value} {as : List AV}, ofCells vs = some as → ∀ a ∈ as, notOwn a
  | [], as, h => by simp [ofCells] at h; subst h; simp
  | v :: rest, as, h => by
    simp only [ofCells] at h
    split at h
    · rename_i a as' h1 h2
      simp at h; subst h
      intro x hx
      rcases List.mem_cons.1 hx with rfl | hx
      · exact ofScalar_notOwn h1
      · exact ofCells_notOwn h2 x hx
    · simp at h

theorem does_alloc {t : TypeId} {zv : Value} {cs : List AV} {heap : Bool} {a : AV} {s' : St} (hI : Inv P G0 w0 G w s tv) (ho : o.op = .alloc t) (hz : zeroOf P t = some zv) (hcs : ofCells zv.cells.toList = some cs)
    (hx : exec d (.alloc heap cs) s = some (a, s')) : Does P ρ o G0 w0 w tv d a s' := by
  have hrun : (execOp ρ o).run P w = .ok (.value (.pointer (some ⟨w.heap.size, 0, none⟩))) (w.alloc (.cells zv.cells t)) := by
    simp [execOp, ho, Instr.alloc, zeroValue_run hz, newVar, newRow]
  have key := does_new (P := P) (ρ := ρ) (o := o) (d := d) hI (heap := heap) (cs := cs) (v := zv) (T := t)
    ⟨ofCells_len hcs, fun i a v ha hv => by
      obtain ⟨k1, rfl⟩ := List.getElem?_eq_some_iff.1 ha
      obtain ⟨k2, rfl⟩ := List.getElem?_eq_some_iff.1 hv
      exact Rep.ofCells G w hcs i k1 k2⟩ (ofCells_notOwn hcs) hrun
  simp only [exec] at hx
  split at hx
  · rename_i hb
    simp only [Option.some.injEq, Prod.mk.injEq] at hx
    obtain ⟨rfl, rfl⟩ := hx
    exact key.1 hb
  · rename_i hb
    simp only [Option.some.injEq, Prod.mk.injEq] at hx
    obtain ⟨rfl, rfl⟩ := hx
    exact key.2 (by simpa using hb)

theorem does_box {t : TypeId} {x : Operand} {x' : VO} {heap : Bool} {a : AV} {s' : St} (hI : Inv P G0 w0 G w s tv) (ho : o.op = .box t x) (hxx : trO P x = some x') (he : OkEv P G w s.ev ρ)
    (hx : exec d (.box heap x') s = some (a, s')) : Does P ρ o G0 w0 w tv d a s' := by
  have hrun : (execOp ρ o).run P w = .ok (.value (.pointer (some ⟨w.heap.size, 0, none⟩))) (w.alloc (.cells (ρ x).cells t)) := by
    simp [execOp, ho, Instr.box, newVar, newRow]
  simp only [exec] at hx
  split at hx
  · rename_i hg
    have hg' := good_inv hg
    have hrep := (he _ _ hxx).nl hg'.1
    have key := does_new (P := P) (ρ := ρ) (o := o) (d := d) hI (heap := heap) (cs := (s.ev x').cells.map AV.view) (v := ρ x) (T := t) (RepL.cells hrep hg'.2).view
      (fun a ha => by simp at ha; obtain ⟨b, _, rfl⟩ := ha; exact notOwn_view b) hrun
    split at hx
    · rename_i hb
      simp only [Option.some.injEq, Prod.mk.injEq] at hx
      obtain ⟨rfl, rfl⟩ := hx
      exact key.1 hb
    · rename_i hb
      simp only [Option.some.injEq, Prod.mk.injEq] at hx
      obtain ⟨rfl, rfl⟩ := hx
      exact key.2 (by simpa using hb)
  · simp at hx

/-- A value is read out of cells. -/
theorem load_cells {t : TypeId} {agg : Option Nat} {cs : List AV} {b o off : Nat} {a : AV} (vals : Nat → Value) (ha : aggOf P t = some agg) (hp : part? agg cs off = some a)
    (hc : ∀ j, j < cs.length → w.cell? ⟨b, o + j, none⟩ = some (vals j)) (hr : ∀ (j : Nat) (h : j < cs.length), Rep G w cs[j] (vals j)) :
    ∃ v, (loadVar t ⟨b, o + off, none⟩).run P w = .ok v w ∧ Rep G w a v ∧ notOwn a := by
  cases agg with
  | none =>
    have hagg : (isAgg t).run P w = .ok false w := by
      unfold aggOf at ha
      cases hu : P.underlying t with
      | none => simp [hu] at ha
      | some d => cases d <;> simp only [hu] at ha <;> first | (split at ha <;> simp at ha; done) | simp [isAgg, run_underlying hu]
    simp only [part?] at hp
    split at hp
    · rename_i v hv
      simp at hp; subst hp
      obtain ⟨hlt, rfl⟩ := List.getElem?_eq_some_iff.1 hv
      refine ⟨vals off, ?_, (hr off hlt).view, notOwn_view _⟩
      simp [loadVar, hagg, hc off hlt]
    · simp at hp
  | some sz =>
    have hagg : (isAgg t).run P w = .ok true w ∧ (sizeOf t).run P w = .ok sz w := by
      unfold aggOf szOf at ha
      cases hu : P.underlying t with
      | none => simp [hu] at ha
      | some d =>
        cases d <;> simp only [hu] at ha <;> first
          | (simp at ha; done)
          | (cases hi : P.info? t with
             | none => simp [hi] at ha
             | some i => simp [hi] at ha; exact ⟨by simp [isAgg, run_underlying hu], by simp [sizeOf, typeInfo, hi, ha]⟩)
    simp only [part?] at hp
    split at hp
    · rename_i hle
      simp at hp; subst hp
      have hld := run_loadCells (P := P) w ⟨b, o + off, none⟩ sz (fun j => vals (off + j)) (fun j hj => by
        rw [add_off, Nat.add_assoc]; exact hc (off + j) (by omega))
      refine ⟨.agg ((List.range sz).map fun j => vals (off + j)).toArray, ?_, ?_, trivial⟩
      · simp only [loadVar, Sem.run_bind, hagg.1, Result.andThen_ok, if_true, hagg.2, hld]; rfl
      · refine .agg _ _ (by simp; omega) fun i h1 h2 => ?_
        have := hr (off + i) (by simp at h1; omega)
        simpa using this
    · simp at hp

theorem does_load {t : TypeId} {x : Operand} {x' : VO} {agg : Option Nat} {a : AV} {s' : St} (hI : Inv P G0 w0 G w s tv) (ho : o.op = .load t x) (hxx : trO P x = some x') (ha : aggOf P t = some agg) (he : OkEv P G w s.ev ρ)
    (hx : exec d (.load agg x') s = some (a, s')) : Does P ρ o G0 w0 w tv d a s' := by
  have hr := he _ _ hxx
  have fin : ∀ (b o' : Nat) v, ρ x = .pointer (some ⟨b, o', none⟩) → (loadVar t ⟨b, o', none⟩).run P w = .ok v w → Rep G w a v → notOwn a → s' = s → Does P ρ o G0 w0 w tv d a s' := by
    intro b o' v e1 e2 e3 e4 e5
    subst e5
    refine ⟨v, w, G, .inl ?_, hI, .of e3, OwnAt.of_notOwn e4⟩
    simp only [execOp, ho, Instr.loadAt, e1, Instr.sureAddr, Sem.run_bind, Sem.run_pure, Result.andThen_ok, e2]
  simp only [exec] at hx
  split at hx
  · rename_i cs off hv
    rw [hv] at hr
    obtain ⟨b, o', vals, e1, h1, h2⟩ := hr.vptr_inv
    split at hx
    · rename_i r hp
      simp only [Option.some.injEq, Prod.mk.injEq] at hx
      obtain ⟨rfl, rfl⟩ := hx
      obtain ⟨v, k1, k2, k3⟩ := load_cells (P := P) (G := G) (w := w) vals ha hp (fun j hj => (h1 j hj).2) h2
      exact fin _ _ v e1 k1 k2 k3 rfl
    · simp at hx
  · rename_i ix off hv
    rw [hv] at hr
    obtain ⟨b, hb, e1⟩ := hr.ptr_inv
    split at hx
    · rename_i cs hcs
      split at hx
      · rename_i r hp
        simp only [Option.some.injEq, Prod.mk.injEq] at hx
        obtain ⟨rfl, rfl⟩ := hx
        unfold objCells at hcs
        split at hcs
        · rename_i fz cs' hobj
          simp at hcs; subst hcs
          obtain ⟨b', hb', _, hat⟩ := hI.obj _ _ hobj
          rw [hb] at hb'
          simp only [Option.some.injEq] at hb'
          subst hb'
          have hcells : ∃ vals : Nat → Value, ∀ (j : Nat) (h : j < cs'.length), w.cell? ⟨b, j, none⟩ = some (vals j) ∧ Rep G w cs'[j] (vals j) := by
            cases fz
            · obtain ⟨_, arr, T, fr, h2, _, h3, h4⟩ := hat
              refine ⟨fun j => arr.getD j undef, fun j hj => ?_⟩
              have hj2 : j < arr.size := by omega
              have := (h4 j hj hj2).1
              exact ⟨by simp [World.cell?, h2, hj2], by simpa [hj2] using this⟩
            · obtain ⟨vals, h4⟩ := hat
              exact ⟨vals, fun j hj => (h4 j hj).2⟩
          obtain ⟨vals, c1⟩ := hcells
          obtain ⟨v, k1, k2, k3⟩ := load_cells (P := P) (G := G) (w := w) (b := b) (o := 0) vals ha hp (fun j hj => by rw [Nat.zero_add]; exact (c1 j hj).1) (fun j hj => (c1 j hj).2)
          rw [Nat.zero_add] at k1
          exact fin _ _ v e1 k1 k2 k3 rfl
        · simp at hcs
      · simp at hx
    · simp at hx
  · simp at hx

end
end Go.Vm
/- Writing: stores, what a closure takes along. -/
namespace Go.Vm

section
variable {P : Program} {ρ : Operand → Value} {G0 : Gh} {w0 : World} {G : Gh} {w : World} {s : St} {tv : Nat → Value} {d : Nat} {o : Oper}

theorem takeT_obj (s : St) (t : Nat) (x : Ix) : (s.takeT t).2.obj x = s.obj x := by
  unfold St.takeT
  split
  · exact obj_set s _ _ x
  · rfl
theorem takeO_obj (s : St) (y : VO) (x : Ix) : (s.takeO y).2.obj x = s.obj x := by
  cases y with
  | t n => exact takeT_obj s n x
  | k v => rfl

theorem oneCell_of {a : AV} {v : Value} (h : Rep G w a v) (ho : a.one = true) : v.oneCell' = true := by
  cases h <;> first | rfl | (simp [AV.one] at ho)

theorem one_good {a : AV} (h : a.one = true) : a.good = true := by
  cases a <;> simp_all [AV.one, AV.good, AV.nl]

theorem one_cells {a : AV} (h : a.cells.all AV.one = true) : a.good = true := by
  cases a <;> first
    | rfl
    | (simp only [AV.cells, List.all_cons, List.all_nil, Bool.and_true] at h; exact one_good h)

theorem run_storeCells_fr (P : Program) (g o : Nat) (t : TypeId) (fr : Nat × Nat) : ∀ (vs : List Value) (i : Nat) (cur : Array Value) (w : World), w.heap[g]? = some (.cells cur t fr) → FrOk fr cur.size → o + i + vs.length ≤ cur.size → (∀ v ∈ vs, v.oneCell' = true) →
    (storeCells ⟨g, o, none⟩ vs i).run P w = .ok () (w.setRow g (cur.toList.take (o + i) ++ vs ++ cur.toList.drop (o + i + vs.length)).toArray)
  | [], i, cur, w, hg, _, _, _ => by
    simp only [storeCells, List.append_nil, List.length_nil, Nat.add_zero, List.take_append_drop, Array.toArray_toList]
    rw [setRow_self w g cur t fr hg]
    rfl
  | v :: rest, i, cur, w, hg, hfz, hl, h1 => by
    have hi : o + i < cur.size := by simp at hl; omega
    have hadd : (⟨g, o, none⟩ : Addr).add i = ⟨g, o + i, none⟩ := by unfold Addr.add; split <;> simp_all
    have hcell : w.cell? ⟨g, o + i, none⟩ = some cur[o + i] := by simp [World.cell?, hg, hi]
    have hfro : w.frozen? ⟨g, o + i, none⟩ = false := by
      obtain ⟨lo, hi'⟩ := fr
      rcases hfz with e | e
      · simp only [Prod.mk.injEq] at e
        simp [World.frozen?, hg, e]
      · have : ¬ lo ≤ o + i := by simp only at e; omega
        simp [World.frozen?, hg, this]
    have hst : (store ((⟨g, o, none⟩ : Addr).add i) v).run P w = .ok () (w.setRow g (cur.setIfInBounds (o + i) v)) := by
      rw [hadd, run_store P w _ v _ (h1 v (by simp)), hcell]
      simp [hfro, setCell_eq_setRow w g (o + i) cur t fr v hg]
    have ih := run_storeCells_fr P g o t fr rest (i + 1) (cur.setIfInBounds (o + i) v) (w.setRow g (cur.setIfInBounds (o + i) v)) (setRow_heap w g cur _ t _ hg) (by simpa using hfz) (by simp at hl ⊢; omega) (fun x hx => h1 x (by simp [hx]))
    simp only [storeCells, Sem.run_bind, hst, Result.andThen_ok, ih, setRow_setRow]
    congr 3
    have e := list_seg_step cur.toList (o + i) v rest (by simp at hl ⊢; omega)
    simpa [Array.toList_setIfInBounds, Nat.add_assoc] using e

theorem objAt_inv {x : Ix} {b : Nat} {cs : List AV} (h : ObjAt G w x b (.cells false cs)) : G.role b = (.obj x, some 0) ∧ ∃ arr T fr, w.heap[b]? = some (.cells arr T fr) ∧ FrOk fr arr.size ∧ cs.length ≤ arr.size ∧
    ∀ (j : Nat) (h1 : j < cs.length) (h2 : j < arr.size), Rep G w cs[j] arr[j] ∧ OwnAt G w (.cell x j) cs[j] arr[j] := h

/-- A written object's cells. -/
theorem objAt_put {x : Ix} {b off : Nat} {cs new : List AV} {arr : Array Value} {news : List Value} {T : TypeId} {fr : Nat × Nat} {w' : World} {old : Obj} (hfr : FrOk fr arr.size)
    (hr : G.role b = (.obj x, some 0)) (hl : cs.length ≤ arr.size) (h : ∀ (j : Nat) (h1 : j < cs.length) (h2 : j < arr.size), Rep G w cs[j] arr[j] ∧ OwnAt G w (.cell x j) cs[j] arr[j])
    (hw : Wrote b (.cells (arr.toList.take off ++ news ++ arr.toList.drop (off + news.length)).toArray T fr) w w') (hnl : new.length = news.length) (hfit : off + new.length ≤ cs.length)
    (hnew : ∀ (j : Nat) (h1 : j < new.length) (h2 : j < news.length), Rep G w new[j] news[j] ∧ OwnAt G w (.cell x (off + j)) new[j] news[j]) (_ho : w.heap[b]? = some old) :
    ObjAt G w' x b (.cells false (putCells cs off new)) := by
  have hle : Le G w G w' := hw.le (not_stable_obj hr)
  have hkeep : ∀ {j a v}, OwnAt G w (.cell x j) a v → OwnAt G w' (.cell x j) a v := by
    intro j a v ho
    refine ho.keep (by rw [hw.size]; exact Nat.le_refl _) fun b' c => ⟨rfl, fun k h1 h2 => ?_⟩
    have hne : b' ≠ b := by
      rintro rfl
      have := ho.role c
      rw [hr] at this
      simp at this
    exact ⟨by rw [cell?_of_heap (hw.ne b' hne)]; exact h1, by rw [frozen?_of_heap (hw.ne b' hne)]; exact h2⟩
  have hsz : (arr.toList.take off ++ news ++ arr.toList.drop (off + news.length)).toArray.size = arr.size := by simp; omega
  refine ⟨hr, _, T, fr, hw.at_, by rw [hsz]; exact hfr, by simp [putCells_length hfit]; omega, fun j j1 j2 => ?_⟩
  rw [putCells_length hfit] at j1
  have g1 : (putCells cs off new)[j]? = _ := putCells_get hfit j
  have g2 : (arr.toList.take off ++ news ++ arr.toList.drop (off + news.length))[j]? = if off ≤ j ∧ j < off + news.length then news[j - off]? else arr.toList[j]? := by
    by_cases h1 : j < off
    · rw [if_neg (by omega), List.append_assoc, List.getElem?_append_left (by simp; omega), List.getElem?_take, if_pos h1]
    · by_cases h2 : j < off + news.length
      · rw [if_pos (by omega), List.append_assoc, List.getElem?_append_right (by simp; omega), List.getElem?_append_left (by simp; omega)]
        simp only [List.length_take, Array.length_toList]
        congr 1
        omega
      · rw [if_neg (by omega), List.getElem?_append_right (by simp; omega), List.getElem?_drop]
        congr 1
        simp
        omega
  by_cases hj : off ≤ j ∧ j < off + new.length
  · rw [if_pos hj] at g1
    rw [if_pos (by omega)] at g2
    have k1 : j - off < new.length := by omega
    have k2 : j - off < news.length := by omega
    rw [List.getElem?_eq_getElem k1] at g1
    rw [List.getElem?_eq_getElem k2] at g2
    obtain ⟨_, e1⟩ := List.getElem?_eq_some_iff.1 g1
    obtain ⟨_, e2⟩ := List.getElem?_eq_some_iff.1 g2
    have hh := hnew (j - off) k1 k2
    rw [show off + (j - off) = j by omega] at hh
    simp only [List.getElem_toArray]
    rw [e1, e2]
    exact ⟨hh.1.mono hle, hkeep hh.2⟩
  · rw [if_neg hj] at g1
    rw [if_neg (by omega)] at g2
    have k2 : j < arr.size := by omega
    rw [List.getElem?_eq_getElem j1] at g1
    have g3 : arr.toList[j]? = some arr.toList[j] := List.getElem?_eq_getElem (by simpa using k2)
    rw [g3] at g2
    obtain ⟨_, e1⟩ := List.getElem?_eq_some_iff.1 g1
    obtain ⟨_, e2⟩ := List.getElem?_eq_some_iff.1 g2
    have hh := h j j1 k2
    simp only [List.getElem_toArray]
    rw [e1, e2]
    simp only [Array.getElem_toList]
    exact ⟨hh.1.mono hle, hkeep hh.2⟩

theorem setRow_wrote (w : World) {b : Nat} {old cs : Array Value} {T : TypeId} {fr : Nat × Nat} (h : w.heap[b]? = some (.cells old T fr)) (hs : old.size = cs.size) : Wrote b (.cells cs T fr) w (w.setRow b cs) :=
  ⟨rfl, rfl, rfl, setRow_size _ _ _, setRow_heap w b old cs T _ h, fun b' hb' => setRow_other w b b' cs hb', fun t ht => by
    simp only [World.shape?, h] at ht
    simp only [World.shape?, setRow_heap w b old cs T _ h, ← hs]
    exact ht⟩

theorem putCells_one (cs : List AV) (off : Nat) (a : AV) (h : off < cs.length) : putCells cs off [a] = cs.set off a := by
  apply List.ext_getElem?
  intro k
  rw [putCells_get (by simp; omega)]
  by_cases hk : k = off
  · subst hk; simp [h]
  · rw [List.getElem?_set_ne (by omega), if_neg (by simp; omega)]

theorem cells_single {a : AV} {v : Value} (h : Rep G w a v) (hn : ∀ vs, a = .agg vs → False) (hu : a ≠ .undef) : v.cells = #[v] := by
  cases h <;> first | rfl | (exact absurd rfl hu) | (exact (hn _ rfl).elim)

theorem does_store {t : TypeId} {x y : Operand} {x' y' : VO} {sz : Nat} {a : AV} {s' : St} (hI : Inv P G0 w0 G w s tv) (ho : o.op = .store t x y) (hxx : trO P x = some x') (hyy : trO P y = some y') (hsz : szOf P t = some sz)
    (hT : ∀ t, ρ (.tmp t) = tv t) (he : OkEv P G w s.ev ρ) (hx : exec d (.store sz x' y') s = some (a, s')) : Does P ρ o G0 w0 w tv d a s' := by
  have hrx := he _ _ hxx
  simp only [exec] at hx
  split at hx
  · rename_i ix off hv
    rw [hv] at hrx
    obtain ⟨b, hb, e1⟩ := hrx.ptr_inv
    split at hx
    · rename_i cs hcs
      split at hx
      · rename_i hc
        obtain ⟨hc1, hc2, hc3⟩ := hc
        unfold objCells at hcs
        split at hcs
        · rename_i fz cs' hobj
          simp at hcs
          obtain ⟨rfl, rfl⟩ := hcs
          obtain ⟨G1, i1, r1, o1, m1, m2, l1⟩ := hI.takeO hyy hT he
          have hgood := good_inv (one_cells hc3)
          have hrep := r1.nl hgood.1
          have hobj1 : (s.takeO y').2.obj ix = some (.cells false cs') := by rw [takeO_obj]; exact hobj
          have hb1 : G1.at ix = some b := by rw [Gh.at_eq m1 m2]; exact hb
          have hcl := RepL.cells hrep hgood.2
          have hvs : (ρ y).cells.size = sz := by have := hcl.1; simp at this; omega
          have hsr : (sizeOf t).run P w = .ok sz w := sizeOf_run hsz
          have hone : ∀ v ∈ (ρ y).cells.toList, v.oneCell' = true := by
            intro v hv
            obtain ⟨k, hk, rfl⟩ := List.getElem_of_mem hv
            have hk' : k < (s.takeO y').1.cells.length := by have := hcl.1; omega
            have := hcl.2 k _ _ (List.getElem?_eq_getElem hk') (List.getElem?_eq_getElem hk)
            exact oneCell_of this (List.all_eq_true.1 hc3 _ (List.getElem_mem hk'))
          -- where the value lands
          have main : ∀ (new : List AV), new.length = (ρ y).cells.toList.length →
              (∃ G2, Inv P G0 w0 G2 w (s.takeO y').2 tv ∧ G2.at ix = some b ∧ ∀ (j : Nat) (h1 : j < new.length) (h2 : j < (ρ y).cells.toList.length), Rep G2 w new[j] (ρ y).cells.toList[j] ∧ OwnAt G2 w (.cell ix (off + j)) new[j] (ρ y).cells.toList[j]) →
              s' = (s.takeO y').2.setObj ix (.cells false (putCells cs' off new)) → a = .undef → Does P ρ o G0 w0 w tv d a s' := by
            rintro new hnl ⟨G2, i2, hb2, hnew⟩ rfl rfl
            obtain ⟨b', hb', hlt, hat⟩ := i2.obj _ _ hobj1
            rw [hb2] at hb'
            simp only [Option.some.injEq] at hb'
            subst hb'
            obtain ⟨hrole, arr, T, fr, hh, hfr, hl, hcell⟩ := objAt_inv hat
            have hfit : off + new.length ≤ cs'.length := by rw [hnl]; simp [hvs]; omega
            have hrun := run_storeCells_fr (P := P) b off T fr (ρ y).cells.toList 0 arr w hh hfr (by simp [hvs]; omega) hone
            have hw := setRow_wrote w (cs := (arr.toList.take (off + 0) ++ (ρ y).cells.toList ++ arr.toList.drop (off + 0 + (ρ y).cells.toList.length)).toArray) hh (by simp [hvs]; omega)
            simp only [Nat.add_zero] at hrun hw
            refine ⟨undef, _, G2, .inr ⟨?_, rfl⟩, i2.wrote hobj1 hb2 hrole hw (fun _ => objAt_put hfr hrole hl hcell hw hnl hfit hnew hh), .of (.undef _), OwnAt.of_notOwn trivial⟩
            simp only [execOp, ho, Instr.storeAt, e1, Instr.sureAddr, Sem.run_bind, Sem.run_pure, Result.andThen_ok, storeVar, hsr]
            rw [if_neg (by simp [hvs])]
            rw [hrun]
            rfl
          split at hx
          · rename_i vs hvs'
            simp only [Option.some.injEq, Prod.mk.injEq] at hx
            obtain ⟨rfl, rfl⟩ := hx
            rw [hvs'] at hcl
            refine main (vs.map AV.view) (by simpa [AV.cells] using hcl.1) ⟨G1, i1, hb1, fun j j1 j2 => ?_⟩ rfl rfl
            simp only [List.getElem_map]
            simp only [List.length_map] at j1
            exact ⟨(hcl.2 j _ _ (List.getElem?_eq_getElem j1) (List.getElem?_eq_getElem j2)).view, OwnAt.view⟩
          · rename_i hna
            simp only [Option.some.injEq, Prod.mk.injEq] at hx
            obtain ⟨rfl, rfl⟩ := hx
            have hcells : (s.takeO y').1.cells = [(s.takeO y').1] := by
              generalize (s.takeO y').1 = q at hna ⊢
              cases q <;> first | rfl | (exact absurd rfl (hna _))
            have hvone : (ρ y).cells.toList.length = 1 := by rw [← hcl.1, hcells]; rfl
            have hv1 : (ρ y).cells = #[ρ y] := cells_single hrep hna hgood.2
            obtain ⟨G2, i2, r2, o2, m3, m4, l2, _⟩ := i1.land r1 o1 (.cell ix off)
            refine main [(s.takeO y').1] (by simp [hvone]) ⟨G2, i2, by rw [Gh.at_eq m3 m4]; exact hb1, fun j j1 j2 => ?_⟩ (by rw [putCells_one _ _ _ (by rw [hcells] at hc1; simp at hc1; omega)]) rfl
            have : j = 0 := by simp at j1; omega
            subst this
            simp only [hv1, List.getElem_cons_zero, Nat.add_zero]
            exact ⟨r2.nl hgood.1, o2⟩
        · simp at hcs
      · simp at hx
    · simp at hx
  · simp at hx

end
end Go.Vm
/- Taking out of a cell, what a closure takes along, slices of slices. -/
namespace Go.Vm

section
variable {P : Program} {ρ : Operand → Value} {G0 : Gh} {w0 : World} {G : Gh} {w : World} {s : St} {tv : Nat → Value} {d : Nat} {o : Oper}

theorem wrote_self {b : Nat} {ob : Obj} (h : w.heap[b]? = some ob) : Wrote b ob w w := ⟨rfl, rfl, rfl, rfl, h, fun _ _ => rfl, fun _ e => e⟩

/-- A cell gives its value away, with the right to append. -/
theorem Inv.takeCell (h : Inv P G0 w0 G w s tv) {ix : Ix} {cs : List AV} {off z : Nat} {nn : Bool} {xs : List AV} {b : Nat} {arr : Array Value} {T : TypeId} {fr : Nat × Nat} (hobj : s.obj ix = some (.cells false cs)) (hb : G.at ix = some b)
    (hh : w.heap[b]? = some (.cells arr T fr)) (hv : cs[off]? = some (.vec (some z) nn xs)) (hoff : off < arr.size) (ow : Owner) :
    ∃ G', Inv P G0 w0 G' w (s.setObj ix (.cells false (cs.set off (.vec none nn xs)))) tv ∧ RepT G' w (.vec (some z) nn xs) arr[off] ∧ OwnAt G' w ow (.vec (some z) nn xs) arr[off] := by
  obtain ⟨b', hb', hlt, hat⟩ := h.obj _ _ hobj
  rw [hb] at hb'
  simp only [Option.some.injEq] at hb'
  subst hb'
  obtain ⟨hrole, arr', T', fr', hh', hfr, hl, hcell⟩ := objAt_inv hat
  rw [hh] at hh'
  simp only [Option.some.injEq, Obj.cells.injEq] at hh'
  obtain ⟨rfl, rfl, rfl⟩ := hh'
  obtain ⟨k1, e1⟩ := List.getElem?_eq_some_iff.1 hv
  have hc := hcell off k1 hoff
  rw [e1] at hc
  have hdrop : Inv P G0 w0 G w (s.setObj ix (.cells false (cs.set off (.vec none nn xs)))) tv := by
    refine h.wrote hobj hb hrole (wrote_self hh) fun _ => ⟨hrole, arr, T, fr, hh, hfr, by simp [hl], fun j j1 j2 => ?_⟩
    simp only [List.length_set] at j1
    by_cases hj : j = off
    · subst hj
      simp only [List.getElem_set_self]
      exact ⟨hc.1.view, OwnAt.of_notOwn trivial⟩
    · simp only [List.getElem_set_ne (Ne.symm hj)]
      exact hcell j j1 j2
  by_cases hcl : ∃ b, Claims (.vec (some z) nn xs) arr[off] b
  · obtain ⟨bb, hcl⟩ := hcl
    have hro := hc.2.role hcl
    obtain ⟨z', nn', xs', off', len, cap, e2, e3, hne⟩ := hcl
    simp only [AV.vec.injEq, Option.some.injEq] at e2
    obtain ⟨rfl, rfl, rfl⟩ := e2
    rcases (hc.2 z nn xs rfl).2 bb off' len cap e3 with h1 | ⟨h1, h2, h3⟩
    · exact absurd h1 hne
    · have hst : ∀ o, stable G.role bb o → stable (G.newRole bb (ow, some (off' + (flat xs).length))).role bb o := by
        intro o ho
        unfold stable at ho ⊢
        rw [h2] at ho
        rw [newRole_at]
        exact ho
      refine ⟨G.newRole bb (ow, some (off' + (flat xs).length)), hdrop.recl hro ⟨by simp, by simp⟩ hst (fun t' et => by simp at et) (fun x j bx cs' arr' T' fr' ex ey eat ehp j1 j2 => ?_), .of (hc.1.mono (.newRole hst)), ?_⟩
      · simp only [Owner.cell.injEq] at ex
        obtain ⟨rfl, rfl⟩ := ex
        rw [obj_setObj hobj] at ey
        simp only [Option.some.injEq, LObj.cells.injEq, true_and] at ey
        subst ey
        rintro ⟨z'', nn'', xs'', _, _, _, e4, _⟩
        simp at e4
      · intro z'' nn'' xs'' e4
        simp only [AV.vec.injEq, Option.some.injEq] at e4
        obtain ⟨rfl, rfl, rfl⟩ := e4
        refine ⟨(hc.2 z nn xs rfl).1, fun b' off'' len' cap' e5 => ?_⟩
        rw [e3] at e5
        simp only [Value.slice.injEq, Option.some.injEq, Addr.mk.injEq, and_true] at e5
        obtain ⟨⟨rfl, rfl⟩, rfl, rfl⟩ := e5
        exact .inr ⟨h1, newRole_at _ _ _, h3⟩
  · refine ⟨G, hdrop, .of hc.1, ?_⟩
    intro z' nn' xs' e3
    refine ⟨(hc.2 z' nn' xs' e3).1, fun b' off' len cap e4 => .inl ?_⟩
    refine Classical.byContradiction fun hne => hcl ⟨b', z', nn', xs', off', len, cap, e3, e4, hne⟩

theorem does_loadTake {t : TypeId} {x : Operand} {x' : VO} {a : AV} {s' : St} (hI : Inv P G0 w0 G w s tv) (ho : o.op = .load t x) (hxx : trO P x = some x') (ha : aggOf P t = some none) (he : OkEv P G w s.ev ρ)
    (hx : exec d (.loadTake x') s = some (a, s')) : Does P ρ o G0 w0 w tv d a s' := by
  have hr := he _ _ hxx
  have hagg : (isAgg t).run P w = .ok false w := by
    unfold aggOf at ha
    cases hu : P.underlying t with
    | none => simp [hu] at ha
    | some d => cases d <;> simp only [hu] at ha <;> first | (split at ha <;> simp at ha; done) | simp [isAgg, run_underlying hu]
  simp only [exec] at hx
  split at hx
  · rename_i ix off hv
    rw [hv] at hr
    obtain ⟨b, hb, e1⟩ := hr.ptr_inv
    split at hx
    · rename_i cs hcs
      unfold objCells at hcs
      split at hcs
      · rename_i fz cs' hobj
        simp at hcs
        obtain ⟨rfl, rfl⟩ := hcs
        obtain ⟨b', hb', hlt, hat⟩ := hI.obj _ _ hobj
        rw [hb] at hb'
        simp only [Option.some.injEq] at hb'
        subst hb'
        obtain ⟨hrole, arr, T, fr, hh, _, hl, hcell⟩ := objAt_inv hat
        have hrun : ∀ (h : off < arr.size), (execOp ρ o).run P w = .ok (.value arr[off]) w := by
          intro h
          have : w.cell? ⟨b, off, none⟩ = some arr[off] := by simp [World.cell?, hh, h]
          simp [execOp, ho, Instr.loadAt, e1, Instr.sureAddr, loadVar, hagg, this]
        split at hx
        · rename_i z nn xs hcv
          simp only [Option.some.injEq, Prod.mk.injEq] at hx
          obtain ⟨rfl, rfl⟩ := hx
          obtain ⟨k1, _⟩ := List.getElem?_eq_some_iff.1 hcv
          have hoff : off < arr.size := by omega
          obtain ⟨G', i1, r1, o1⟩ := hI.takeCell hobj hb hh hcv hoff (.slot d)
          exact ⟨_, w, G', .inl (hrun hoff), i1, r1, o1⟩
        · rename_i v hnv hcv
          simp only [Option.some.injEq, Prod.mk.injEq] at hx
          obtain ⟨rfl, rfl⟩ := hx
          obtain ⟨k1, e2⟩ := List.getElem?_eq_some_iff.1 hcv
          have hoff : off < arr.size := by omega
          have hc := hcell off k1 hoff
          rw [e2] at hc
          exact ⟨_, w, G, .inl (hrun hoff), hI, .of hc.1, OwnAt.of_not fun z nn xs e => hnv z nn xs (by rw [e] )⟩
        · simp at hx
      · simp at hcs
    · simp at hx
  · simp at hx

theorem does_loadO {t : TypeId} {x : Operand} {x' : VO} {a : AV} {s' : St} (hI : Inv P G0 w0 G w s tv) (ho : o.op = .load t x) (hxx : trO P x = some x') (ha : aggOf P t = some none) (he : OkEv P G w s.ev ρ)
    (hx : exec d (.loadO x') s = some (a, s')) : Does P ρ o G0 w0 w tv d a s' := by
  refine does_loadTake hI ho hxx ha he ?_
  simp only [exec] at hx ⊢
  split at hx
  · rename_i ix off hv
    split at hx
    · rename_i cs hcs
      split at hx
      · rename_i v hr
        simp only [Option.some.injEq, Prod.mk.injEq] at hx
        obtain ⟨rfl, rfl⟩ := hx
        unfold rawCell at hr
        split at hr
        · simp at hr
        · rename_i v' hnv hc
          simp only [Option.some.injEq] at hr
          subst hr
          rfl
        · simp at hr
      · simp at hx
    · simp at hx
  · simp at hx

/-- An object is written no more. -/
theorem Inv.freeze (h : Inv P G0 w0 G w s tv) {x : Ix} {fz : Bool} {cs : List AV} {b : Nat} (hobj : s.obj x = some (.cells fz cs)) (hb : G.at x = some b) :
    ∃ G', Inv P G0 w0 G' w (s.setObj x (.cells true (cs.map AV.view))) tv ∧ Rep G' w (.vptr (cs.map AV.view) 0) (.pointer (some ⟨b, 0, none⟩)) ∧ Le G w G' w ∧ G'.mb = G.mb ∧ G'.lb = G.lb := by
  obtain ⟨b', hb', hlt, hat⟩ := h.obj _ _ hobj
  rw [hb] at hb'
  simp only [Option.some.injEq] at hb'
  subst hb'
  have vp : ∀ (G' : Gh) (vals : Nat → Value), (∀ (j : Nat) (h : j < cs.length), stable G'.role b j ∧ w.cell? ⟨b, j, none⟩ = some (vals j) ∧ Rep G' w cs[j] (vals j)) →
      Rep G' w (.vptr (cs.map AV.view) 0) (.pointer (some ⟨b, 0, none⟩)) ∧ ObjAt G' w x b (.cells true (cs.map AV.view)) := by
    intro G' vals hc
    have := Rep.vptr (G := G') (w := w) (cs.map AV.view) 0 b 0 vals (fun j hj => by
      simp only [List.length_map] at hj
      rw [Nat.zero_add]
      exact ⟨(hc j hj).1, (hc j hj).2.1⟩) (fun j hj => by
      simp only [List.length_map] at hj
      simpa using (hc j hj).2.2.view)
    refine ⟨by simpa using this, vals, fun j hj => ?_⟩
    simp only [List.length_map] at hj
    exact ⟨(hc j hj).1, (hc j hj).2.1, by simpa using (hc j hj).2.2.view⟩
  cases fz with
  | true =>
    obtain ⟨vals, hc⟩ := hat
    obtain ⟨v1, v2⟩ := vp G vals hc
    refine ⟨G, ?_, v1, .refl G w, rfl, rfl⟩
    refine { h with tmp := by rw [(setObj_lens s x _).2.2]; exact h.tmp, own := by rw [(setObj_lens s x _).2.2]; exact h.own, obj := fun y lo e => ?_, mlen := fun i hi => h.mlen i (by rw [← (setObj_lens s x (.cells true (cs.map AV.view))).2.1]; exact hi), llen := fun t k hk => h.llen t k (by rw [← (setObj_lens s x (.cells true (cs.map AV.view))).1 t]; exact hk) }
    by_cases hy : y = x
    · subst hy
      rw [obj_setObj hobj] at e
      simp only [Option.some.injEq] at e
      subst e
      exact ⟨b, hb, hlt, v2⟩
    · rw [obj_setObj_ne hy] at e
      exact h.obj y lo e
  | false =>
    obtain ⟨hr, arr, T, fr, hh, _, hl, hc⟩ := objAt_inv hat
    have hst : ∀ o, stable G.role b o → stable (G.newRole b (.ext, none)).role b o := fun o _ => by simp [stable, newRole_at]
    have hle : Le G w (G.newRole b (.ext, none)) w := .newRole hst
    obtain ⟨v1, v2⟩ := vp (G.newRole b (.ext, none)) (fun j => arr.getD j undef) (fun j hj => by
      have h2 : j < arr.size := by omega
      have := (hc j hj h2).1.mono hle
      exact ⟨by simp [stable, newRole_at], by simp [World.cell?, hh, h2], by simpa [h2] using this⟩)
    refine ⟨G.newRole b (.ext, none), ?_, v1, hle, rfl, rfl⟩
    have hne : ∀ b', (G.role b').1 ≠ .obj x → b' ≠ b := fun b' e eb => by subst eb; exact e (by rw [hr])
    refine { os := h.os, tape := h.tape, output := h.output, size := h.size, tmp := fun t => ?_, own := fun t => ?_, obj := fun y lo e => ?_, ext := fun b' hb' e => ?_, le := h.le.trans hle,
             glob := h.glob, mlen := fun i hi => h.mlen i (by rw [← (setObj_lens s x (.cells true (cs.map AV.view))).2.1]; exact hi), llen := fun t k hk => h.llen t k (by rw [← (setObj_lens s x (.cells true (cs.map AV.view))).1 t]; exact hk) }
    · rw [(setObj_lens s x _).2.2]; exact (h.tmp t).mono hle (fun _ _ _ e => e)
    · rw [(setObj_lens s x _).2.2]
      exact (h.own t).keep (Nat.le_refl _) fun b' c => ⟨newRole_ne _ _ (hne b' (by rw [(h.own t).role c]; simp)), fun k h1 h2 => ⟨h1, h2⟩⟩
    · by_cases hy : y = x
      · subst hy
        rw [obj_setObj hobj] at e
        simp only [Option.some.injEq] at e
        subst e
        exact ⟨b, hb, hlt, v2⟩
      · rw [obj_setObj_ne hy] at e
        obtain ⟨by_, h1, h2, h3⟩ := h.obj y lo e
        exact ⟨by_, h1, h2, h3.keep hle (Nat.le_refl _) (fun e => ⟨newRole_ne _ _ (hne by_ (by rw [e]; simpa using hy)), rfl⟩) fun j a v b' ho c => ⟨newRole_ne _ _ (hne b' (by rw [ho.role c]; simp)), fun k h1 h2 => ⟨h1, h2⟩⟩⟩
    · obtain ⟨k1, k2⟩ := h.ext b' hb' e
      exact ⟨k1, (newRole_ne _ _ (hne b' (by rw [k2, e]; simp))).trans k2⟩

theorem capture_ok : ∀ (as : List AV) (vals : List Value) (G : Gh) (s s' : St) (vs : List AV), Inv P G0 w0 G w s tv → capture as s = some (vs, s') → as.length = vals.length →
      (∀ (i : Nat) (h1 : i < as.length) (h2 : i < vals.length), RepT G w as[i] vals[i]) →
      ∃ G', Inv P G0 w0 G' w s' tv ∧ RepL G' w vs vals ∧ Le G w G' w ∧ G'.lb = G.lb
  | [], vals, G, s, s', vs, hI, hc, hl, _ => by
    simp [capture] at hc
    obtain ⟨rfl, rfl⟩ := hc
    have : vals = [] := by cases vals <;> simp_all
    subst this
    exact ⟨G, hI, ⟨rfl, fun i a v ha => by simp at ha⟩, .refl G w, rfl⟩
  | a :: rest, vals, G, s, s', vs, hI, hc, hl, hr => by
    cases vals with
    | nil => simp at hl
    | cons v vals =>
      have h0 := hr 0 (by simp) (by simp)
      simp only [List.getElem_cons_zero] at h0
      have cons : ∀ (G' : Gh) (x : AV) (xs : List AV), Rep G' w x v → RepL G' w xs vals → RepL G' w (x :: xs) (v :: vals) := by
        intro G' x xs hx hxs
        refine ⟨by simp [hxs.1], fun i a' v' ha hv => ?_⟩
        cases i with
        | zero => simp at ha hv; subst ha; subst hv; exact hx
        | succ i => exact hxs.2 i a' v' (by simpa using ha) (by simpa using hv)
      simp only [capture] at hc
      split at hc
      · rename_i t k
        split at hc
        · rename_i cs hcs
          split at hc
          · rename_i vs1 s1 hrest
            simp only [Option.some.injEq, Prod.mk.injEq] at hc
            obtain ⟨rfl, rfl⟩ := hc
            obtain ⟨b, hb, e1⟩ := h0.ptr_inv
            unfold objCells at hcs
            split at hcs
            · rename_i fz cs' hobj
              simp at hcs; subst hcs
              obtain ⟨G1, i1, r1, l1, m1, m2⟩ := hI.freeze hobj hb
              obtain ⟨G2, i2, r2, l2, m3⟩ := capture_ok rest vals G1 _ s1 vs1 i1 hrest (by simpa using hl) (fun i j1 j2 => by
                have := hr (i + 1) (by simp; omega) (by simp; omega)
                simp only [List.getElem_cons_succ] at this
                exact this.mono l1 (fun t k b e => by rw [m2]; exact e))
              refine ⟨G2, i2, cons G2 _ _ ?_ r2, l1.trans l2, m3.trans m2⟩
              rw [e1]; exact r1.mono l2
            · simp at hcs
          · simp at hc
        · simp at hc
      · rename_i hnp
        split at hc
        · rename_i hn
          split at hc
          · rename_i vs1 s1 hrest
            simp only [Option.some.injEq, Prod.mk.injEq] at hc
            obtain ⟨rfl, rfl⟩ := hc
            obtain ⟨G2, i2, r2, l2, m3⟩ := capture_ok rest vals G s s1 vs1 hI hrest (by simpa using hl) (fun i j1 j2 => by
              have := hr (i + 1) (by simp; omega) (by simp; omega)
              simpa using this)
            exact ⟨G2, i2, cons G2 _ _ (((h0.nl hn).view).mono l2) r2, l2, m3⟩
          · simp at hc
        · simp at hc

theorem does_mkfn {f : Fn} {caps : Array Operand} {caps' : List VO} {a : AV} {s' : St} (hI : Inv P G0 w0 G w s tv) (ho : o.op = .makeFunc f #[] caps) (hc : trList P caps.toList = some caps') (he : OkEv P G w s.ev ρ)
    (hx : exec d (.mkfn f caps') s = some (a, s')) : Does P ρ o G0 w0 w tv d a s' := by
  simp only [exec] at hx
  split at hx
  · rename_i vs s1 hcap
    simp only [Option.some.injEq, Prod.mk.injEq] at hx
    obtain ⟨rfl, rfl⟩ := hx
    obtain ⟨hl, hr⟩ := trList_ok he hc
    obtain ⟨G1, i1, r1, l1, m1⟩ := capture_ok (G0 := G0) (w0 := w0) (w := w) (tv := tv) (caps'.map s.ev) (caps.toList.map ρ) G s s1 vs hI hcap (by simpa using hl) (fun i j1 j2 => by
      simp only [List.length_map] at j1 j2
      simpa using hr i j1 j2)
    refine ⟨.func f #[] (caps.map ρ), w, G1, .inl ?_, i1, .of ?_, OwnAt.of_notOwn trivial⟩
    · simp [execOp, ho, Instr.makeFunc]
    · have e : (caps.map ρ).toList = caps.toList.map ρ := by simp
      rw [← e] at r1
      have := r1.to_array
      exact .fn f vs _ this.1 this.2
  · simp at hx

end
end Go.Vm
/- Slices of slices; append. -/
namespace Go.Vm

section
variable {P : Program} {ρ : Operand → Value} {G0 : Gh} {w0 : World} {G : Gh} {w : World} {s : St} {tv : Nat → Value} {d : Nat} {o : Oper}

theorem flat_append (xs ys : List AV) : flat (xs ++ ys) = flat xs ++ flat ys := by simp [flat]

theorem flat_drop {z : Nat} : ∀ {xs : List AV} (_ : ∀ x ∈ xs, x.cells.length = z) (l : Nat), l ≤ xs.length → ∀ j, (flat (xs.drop l))[j]? = (flat xs)[l * z + j]?
  | xs, h, 0, _, j => by simp
  | [], _, l + 1, hl, _ => by simp at hl
  | x :: xs, h, l + 1, hl, j => by
    have ih := flat_drop (z := z) (xs := xs) (fun y hy => h y (by simp [hy])) l (by simpa using hl) j
    have hx := h x (by simp)
    simp only [List.drop_succ_cons, ih]
    simp only [flat, List.flatMap_cons]
    rw [List.getElem?_append_right (by rw [Nat.add_mul]; omega), hx]
    congr 1
    rw [Nat.add_mul]; omega

theorem flat_take {xs : List AV} (n : Nat) : ∀ j, j < (flat (xs.take n)).length → (flat (xs.take n))[j]? = (flat xs)[j]? := by
  intro j hj
  have e : flat xs = flat (xs.take n) ++ flat (xs.drop n) := by rw [← flat_append, List.take_append_drop]
  rw [e, List.getElem?_append_left hj]

theorem flat_view_len (xs : List AV) : (flat (xs.map AV.view)).length = (flat xs).length := by
  induction xs with
  | nil => rfl
  | cons x xs ih =>
    simp only [flat, List.map_cons, List.flatMap_cons, List.length_append, view_cells] at ih ⊢
    rw [ih]

theorem cells_view_get (x : AV) (j : Nat) : x.view.cells[j]? = x.cells[j]? ∨ x.view.cells[j]? = x.cells[j]?.map AV.view := by
  cases x <;> first | exact .inl rfl | (right; cases j <;> simp [AV.cells, AV.view])

theorem flat_view_get : ∀ (xs : List AV) (j : Nat), (flat (xs.map AV.view))[j]? = (flat xs)[j]? ∨ (flat (xs.map AV.view))[j]? = (flat xs)[j]?.map AV.view
  | [], j => .inl rfl
  | x :: xs, j => by
    simp only [flat, List.map_cons, List.flatMap_cons]
    by_cases hj : j < x.cells.length
    · rw [List.getElem?_append_left (by rw [view_cells]; exact hj), List.getElem?_append_left hj]
      exact cells_view_get x j
    · rw [List.getElem?_append_right (by rw [view_cells]; omega), List.getElem?_append_right (by omega), view_cells]
      exact flat_view_get xs _

theorem flat_view_rep {xs : List AV} {j : Nat} {v : Value} (h1 : j < (flat (xs.map AV.view)).length) (h2 : j < (flat xs).length) (h : Rep G w (flat xs)[j] v) : Rep G w (flat (xs.map AV.view))[j] v := by
  rcases flat_view_get xs j with e | e
  · rw [List.getElem?_eq_getElem h1, List.getElem?_eq_getElem h2] at e
    simp only [Option.some.injEq] at e
    rw [e]; exact h
  · rw [List.getElem?_eq_getElem h1, List.getElem?_eq_getElem h2] at e
    simp only [Option.map_some, Option.some.injEq] at e
    rw [e]; exact h.view

theorem optV_run {lo : Option Operand} {lo' : Option VO} (hlo : trOpt P lo = some lo') (he : OkEv P G w s.ev ρ) {k : IntKind} {n dn : Int} {dk : IntKind} (e : optV s.ev lo' (.int dk dn) = .int k n) :
    (∃ k, lo.map ρ = some (.int k n)) ∨ (lo.map ρ = none ∧ n = dn) := by
  cases lo with
  | none =>
    simp [trOpt] at hlo; subst hlo
    simp only [optV, AV.int.injEq] at e
    exact .inr ⟨rfl, e.2.symm⟩
  | some y =>
    simp only [trOpt] at hlo
    split at hlo
    · rename_i y' hy
      simp only [Option.some.injEq] at hlo; subst hlo
      simp only [optV] at e
      have := he _ _ hy
      rw [e] at this
      exact .inl ⟨k, by simp [this.int_inv]⟩
    · simp at hlo

theorem sliceBounds_run (len cap : Nat) (lo hi mx : Option Value) (l h m : Nat) (h1 : l ≤ h) (h2 : h ≤ m) (h3 : m ≤ cap)
    (el : (∃ k, lo = some (.int k l)) ∨ (lo = none ∧ l = 0)) (eh : (∃ k, hi = some (.int k h)) ∨ (hi = none ∧ h = len)) (em : (∃ k, mx = some (.int k m)) ∨ (mx = none ∧ m = cap)) (hm : mx ≠ none → hi ≠ none) :
    (Instr.sliceBounds true len cap lo hi mx).run P w = .ok (l, h, m) w := by
  rcases em with ⟨km, rfl⟩ | ⟨rfl, rfl⟩
  · rcases eh with ⟨kh, rfl⟩ | ⟨rfl, rfl⟩
    · rcases el with ⟨kl, rfl⟩ | ⟨rfl, rfl⟩ <;> simp [Instr.sliceBounds, Instr.sliceBound, asIntOf, h1, h2, h3]
    · exact absurd rfl (hm (by simp))
  · rcases eh with ⟨kh, rfl⟩ | ⟨rfl, rfl⟩ <;> rcases el with ⟨kl, rfl⟩ | ⟨rfl, rfl⟩ <;> simp [Instr.sliceBounds, Instr.sliceBound, asIntOf, h1, h2]

theorem slice_run (t e : TypeId) (z : Nat) (ht : P.underlying t = some (.slice e)) (hz : szOf P e = some z) (a : Option Addr) (len cap : Nat) (lo hi mx : Option Value) (l h m : Nat) (h1 : l ≤ h) (h2 : h ≤ m) (h3 : m ≤ cap)
    (el : (∃ k, lo = some (.int k l)) ∨ (lo = none ∧ l = 0)) (eh : (∃ k, hi = some (.int k h)) ∨ (hi = none ∧ h = len)) (em : (∃ k, mx = some (.int k m)) ∨ (mx = none ∧ m = cap)) (hm : mx ≠ none → hi ≠ none) :
    (Instr.sliceAt t (.slice a len cap) lo hi mx).run P w = .ok (.slice (if m = l then a else a.map (·.add (l * z))) (h - l) (m - l)) w := by
  have hs : (sizeOf e).run P w = .ok z w := sizeOf_run hz
  simp [Instr.sliceAt, run_underlying ht, Instr.slice, sliceBounds_run (P := P) (w := w) len cap lo hi mx l h m h1 h2 h3 el eh em hm, hs]

theorem does_slSl {t e : TypeId} {z : Nat} {x : Operand} {x' : VO} {lo hi mx : Option Operand} {lo' hi' mx' : Option VO} {a : AV} {s' : St} (hI : Inv P G0 w0 G w s tv) (ho : o.op = .slice t x lo hi mx) (ht : P.underlying t = some (.slice e))
    (hz : szOf P e = some z) (hxx : trO P x = some x') (hlo : trOpt P lo = some lo') (hhi : trOpt P hi = some hi') (hmx : trOpt P mx = some mx') (hmh : mx ≠ none → hi ≠ none) (he : OkEv P G w s.ev ρ)
    (hx : exec d (.slSl z x' lo' hi' mx') s = some (a, s')) : Does P ρ o G0 w0 w tv d a s' := by
  have hr := he _ _ hxx
  have fin : ∀ v, (Instr.sliceAt t (ρ x) (lo.map ρ) (hi.map ρ) (mx.map ρ)).run P w = .ok v w → RepT G w a v → OwnAt G w (.slot d) a v → s' = s → Does P ρ o G0 w0 w tv d a s' := by
    intro v e1 e2 e3 e4
    subst e4
    refine ⟨v, w, G, .inl ?_, hI, e2, e3⟩
    simp only [execOp, ho, Sem.run_bind, e1, Result.andThen_ok, Sem.run_pure]
  have hmh' : mx.map ρ ≠ none → hi.map ρ ≠ none := by simpa using hmh
  simp only [exec] at hx
  split at hx
  · rename_i own nn xs hv
    rw [hv] at hr
    split at hx
    · rename_i r0 hsl
      simp only [Option.some.injEq, Prod.mk.injEq] at hx
      obtain ⟨rfl, rfl⟩ := hx
      -- one conclusion for both forms
      have main : ∀ (l h m : Nat) (r : AV) (ow : Option Nat), (∀ x ∈ xs, x.cells.length = z) → l ≤ h → h ≤ xs.length → r = .vec ow nn ((xs.take h).drop l) →
          ((∃ k, lo.map ρ = some (.int k l)) ∨ (lo.map ρ = none ∧ l = 0)) → ((∃ k, hi.map ρ = some (.int k h)) ∨ (hi.map ρ = none ∧ h = xs.length)) →
          (mx.map ρ = none ∧ ow = none) ∨ ((∃ k, mx.map ρ = some (.int k m)) ∧ h = m ∧ ow = some z) → r0 = r → Does P ρ o G0 w0 w tv d r0 s := by
        intro l h m r ow hst h1 h2 hr' el eh em ea
        subst hr'; subst ea
        have hst' : ∀ x ∈ (xs.take h).drop l, x.cells.length = z := fun x hx => hst x (List.mem_of_mem_take (List.mem_of_mem_drop hx))
        have hlen : ((xs.take h).drop l).length = h - l := by simp; omega
        rcases hr.vec_inv with ⟨rfl, rfl, e1⟩ | ⟨b, off, cap, st, vals, rfl, e1, hcap, _, hc, hrep⟩ | ⟨a, rfl, rfl, e1⟩
        · have hh : h = 0 ∧ l = 0 := by simp at h2; omega
          obtain ⟨rfl, rfl⟩ := hh
          rcases em with ⟨em, rfl⟩ | ⟨⟨k, em⟩, rfl, rfl⟩
          · have := slice_run (P := P) (w := w) t e z ht hz none 0 0 (lo.map ρ) (hi.map ρ) (mx.map ρ) 0 0 0 (Nat.le_refl _) (Nat.le_refl _) (Nat.le_refl _) el (by simpa using eh) (.inr ⟨em, rfl⟩) hmh'
            refine fin (.slice none 0 0) (by rw [e1]; simpa using this) (.of (by simpa using Rep.nilvec _)) (OwnAt.of_notOwn trivial) rfl
          · have := slice_run (P := P) (w := w) t e z ht hz none 0 0 (lo.map ρ) (hi.map ρ) (mx.map ρ) 0 0 0 (Nat.le_refl _) (Nat.le_refl _) (Nat.le_refl _) el (by simpa using eh) (.inl ⟨k, em⟩) hmh'
            refine fin (.slice none 0 0) (by rw [e1]; simpa using this) (.of (by simpa using Rep.nilvec _)) ?_ rfl
            intro z' nn' xs' e5
            simp at e5
            obtain ⟨rfl, rfl, rfl⟩ := e5
            exact ⟨by simp, fun b off len cap e6 => by simp at e6⟩
        · have repv : ∀ (cap' : Nat), h - l ≤ cap' → ∀ o', Rep G w (.vec o' true ((xs.take h).drop l)) (.slice (some ⟨b, off + l * z, none⟩) (h - l) cap') := by
            intro cap' hcap' o'
            have hfl : (flat ((xs.take h).drop l)).length = (h - l) * z := by rw [flat_length hst', hlen]
            have hget : ∀ j, j < (flat ((xs.take h).drop l)).length → (flat ((xs.take h).drop l))[j]? = (flat xs)[l * z + j]? ∧ l * z + j < (flat xs).length := by
              intro j hj
              rw [hfl] at hj
              have hle : (h - l) * z + l * z = h * z := by rw [← Nat.add_mul]; congr 1; omega
              have hle2 : h * z ≤ xs.length * z := Nat.mul_le_mul_right z h2
              have hft : (flat (xs.take h)).length = h * z := by rw [flat_length (fun x hx => hst x (List.mem_of_mem_take hx))]; simp only [List.length_take]; rw [Nat.min_eq_left h2]
              refine ⟨?_, by rw [flat_length hst]; omega⟩
              rw [flat_drop (fun x hx => hst x (List.mem_of_mem_take hx)) l (by simp; omega), flat_take h _ (by rw [hft]; omega)]
            have := Rep.vec (G := G) (w := w) o' ((xs.take h).drop l) b (off + l * z) cap' z (fun j => vals (l * z + j)) (by omega) hst'
              (fun j hj => by rw [Nat.add_assoc]; exact hc _ (hget j hj).2)
              (fun j hj => by
                have e5 := (hget j hj).1
                have e6 := hrep _ (hget j hj).2
                rw [List.getElem?_eq_getElem hj] at e5
                obtain ⟨_, e7⟩ := List.getElem?_eq_some_iff.1 e5.symm
                rw [e7] at e6
                exact e6)
            rw [hlen] at this
            exact this
          have repe : ∀ (cap' : Nat) o', h = l → Rep G w (.vec o' true ((xs.take h).drop l)) (.slice (some ⟨b, off, none⟩) (h - l) cap') := by
            intro cap' o' hh
            subst hh
            have hnil : (xs.take h).drop h = [] := by rw [List.drop_eq_nil_iff]; simp; omega
            rw [hnil]
            have := Rep.vec (G := G) (w := w) o' [] b off cap' 0 (fun _ => undef) (by simp) (by simp) (fun j hj => by simp [flat] at hj) (fun j hj => by simp [flat] at hj)
            simpa using this
          rcases em with ⟨em, rfl⟩ | ⟨⟨k, em⟩, rfl, rfl⟩
          · have := slice_run (P := P) (w := w) t e z ht hz (some ⟨b, off, none⟩) xs.length cap (lo.map ρ) (hi.map ρ) (mx.map ρ) l h cap h1 (by omega) (Nat.le_refl _) el eh (.inr ⟨em, rfl⟩) hmh'
            rw [← e1] at this
            by_cases hcl : cap = l
            · rw [if_pos hcl] at this
              exact fin _ this (.of (repe _ _ (by omega))) (OwnAt.of_notOwn trivial) rfl
            · rw [if_neg hcl] at this
              simp only [Option.map_some, add_off] at this
              exact fin _ this (.of (repv _ (by omega) _)) (OwnAt.of_notOwn trivial) rfl
          · have := slice_run (P := P) (w := w) t e z ht hz (some ⟨b, off, none⟩) xs.length cap (lo.map ρ) (hi.map ρ) (mx.map ρ) l h h h1 (Nat.le_refl _) (by omega) el eh (.inl ⟨k, em⟩) hmh'
            rw [← e1] at this
            have own : ∀ a', OwnAt G w (.slot d) (.vec (some z) true ((xs.take h).drop l)) (.slice a' (h - l) (h - l)) := by
              intro a' z' nn' xs' e5
              simp only [AV.vec.injEq, Option.some.injEq] at e5
              obtain ⟨rfl, rfl, rfl⟩ := e5
              exact ⟨hst', fun b off len cap e6 => by simp at e6; left; omega⟩
            by_cases hcl : h = l
            · rw [if_pos hcl] at this
              exact fin _ this (.of (repe _ _ hcl)) (own _) rfl
            · rw [if_neg hcl] at this
              simp only [Option.map_some, add_off] at this
              exact fin _ this (.of (repv _ (Nat.le_refl _) _)) (own _) rfl
        · have hh : h = 0 ∧ l = 0 := by simp at h2; omega
          obtain ⟨rfl, rfl⟩ := hh
          rcases em with ⟨em, rfl⟩ | ⟨⟨k, em⟩, rfl, rfl⟩
          · have := slice_run (P := P) (w := w) t e z ht hz (some a) 0 0 (lo.map ρ) (hi.map ρ) (mx.map ρ) 0 0 0 (Nat.le_refl _) (Nat.le_refl _) (Nat.le_refl _) el (by simpa using eh) (.inr ⟨em, rfl⟩) hmh'
            refine fin (.slice (some a) 0 0) (by rw [e1]; simpa using this) (.of (by simpa using Rep.evec _ a)) (OwnAt.of_notOwn trivial) rfl
          · have := slice_run (P := P) (w := w) t e z ht hz (some a) 0 0 (lo.map ρ) (hi.map ρ) (mx.map ρ) 0 0 0 (Nat.le_refl _) (Nat.le_refl _) (Nat.le_refl _) el (by simpa using eh) (.inl ⟨k, em⟩) hmh'
            refine fin (.slice (some a) 0 0) (by rw [e1]; simpa using this) (.of (by simpa using Rep.evec _ a)) ?_ rfl
            intro z' nn' xs' e5
            simp at e5
            obtain ⟨rfl, rfl, rfl⟩ := e5
            exact ⟨by simp, fun b off len cap e6 => by simp at e6; left; omega⟩
      unfold slVec at hsl
      split at hsl
      · rename_i k1 l k2 h e2 e3 e4
        split at hsl
        · rename_i hc
          simp only [Option.some.injEq] at hsl
          have hm0 : mx.map ρ = none := by
            cases mx with
            | none => rfl
            | some q =>
              simp only [trOpt] at hmx
              split at hmx
              · simp only [Option.some.injEq] at hmx; subst hmx; simp at e4
              · simp at hmx
          have el := optV_run hlo he e2
          have eh := optV_run hhi he e3
          have hl0 : ((l.toNat : Nat) : Int) = l := by omega
          have hh0 : ((h.toNat : Nat) : Int) = h := by omega
          refine main l.toNat h.toNat 0 r0 none (by simpa using hc.2.2.2) (by omega) (by omega) hsl.symm ?_ ?_ (.inl ⟨hm0, rfl⟩) rfl
          · rcases el with ⟨k, el⟩ | ⟨el, en⟩
            · exact .inl ⟨k, by rw [hl0]; exact el⟩
            · exact .inr ⟨el, by omega⟩
          · rcases eh with ⟨k, eh⟩ | ⟨eh, en⟩
            · exact .inl ⟨k, by rw [hh0]; exact eh⟩
            · exact .inr ⟨eh, by omega⟩
        · simp at hsl
      · rename_i k1 l k2 h k3 m e2 e3 e4
        split at hsl
        · rename_i hc
          simp only [Option.some.injEq] at hsl
          have hm1 : ∃ k, mx.map ρ = some (.int k m) := by
            cases mx with
            | none => simp [trOpt] at hmx; subst hmx; simp at e4
            | some q =>
              simp only [trOpt] at hmx
              split at hmx
              · rename_i q' hq
                simp only [Option.some.injEq] at hmx; subst hmx
                simp only [Option.map_some, Option.some.injEq] at e4
                have := he _ _ hq
                rw [e4] at this
                exact ⟨_, by simp [this.int_inv]; rfl⟩
              · simp at hmx
          have el := optV_run hlo he e2
          have eh := optV_run hhi he e3
          have hl0 : ((l.toNat : Nat) : Int) = l := by omega
          have hh0 : ((h.toNat : Nat) : Int) = h := by omega
          have hm0 : ((m.toNat : Nat) : Int) = m := by omega
          refine main l.toNat h.toNat m.toNat r0 (some z) (by simpa using hc.2.2.2.2) (by omega) (by omega) hsl.symm ?_ ?_ (.inr ⟨by rw [hm0]; exact hm1, by omega, rfl⟩) rfl
          · rcases el with ⟨k, el⟩ | ⟨el, en⟩
            · exact .inl ⟨k, by rw [hl0]; exact el⟩
            · exact .inr ⟨el, by omega⟩
          · rcases eh with ⟨k, eh⟩ | ⟨eh, en⟩
            · exact .inl ⟨k, by rw [hh0]; exact eh⟩
            · exact .inr ⟨eh, by omega⟩
        · simp at hsl
      · simp at hsl
    · simp at hx
  · rename_i ix off len hv
    rw [hv] at hr
    obtain ⟨b, cap, hb, e1, hcap⟩ := hr.row_inv
    split at hx
    · rename_i k1 l k2 h e2 e3
      split at hx
      · rename_i hc
        simp only [Option.some.injEq, Prod.mk.injEq] at hx
        obtain ⟨rfl, rfl⟩ := hx
        have hm0 : mx.map ρ = none := by
          cases mx with
          | none => rfl
          | some q =>
            simp only [trOpt] at hmx
            split at hmx
            · simp at hmx
            · simp at hmx
        have el := optV_run hlo he e2
        have eh := optV_run hhi he e3
        have hl0 : ((l.toNat : Nat) : Int) = l := by omega
        have hh0 : ((h.toNat : Nat) : Int) = h := by omega
        have := slice_run (P := P) (w := w) t e z ht hz (some ⟨b, off, none⟩) len cap (lo.map ρ) (hi.map ρ) (mx.map ρ) l.toNat h.toNat cap (by omega) (by omega) (Nat.le_refl _)
          (by rcases el with ⟨k, el⟩ | ⟨el, en⟩
              · exact .inl ⟨k, by rw [hl0]; exact el⟩
              · exact .inr ⟨el, by omega⟩)
          (by rcases eh with ⟨k, eh⟩ | ⟨eh, en⟩
              · exact .inl ⟨k, by rw [hh0]; exact eh⟩
              · exact .inr ⟨eh, by omega⟩) (.inr ⟨hm0, rfl⟩) hmh'
        rw [← e1] at this
        have hv' : (if cap = l.toNat then some (⟨b, off, none⟩ : Addr) else (some (⟨b, off, none⟩ : Addr)).map (·.add (l.toNat * z))) = some ⟨b, off + l.toNat * z, none⟩ := by
          split
          · rename_i hcl
            have : l.toNat = 0 := by omega
            simp [this]
          · simp [add_off]
        rw [hv'] at this
        exact fin _ this (RepT.row_mk hb (by omega)) (OwnAt.of_notOwn trivial) rfl
      · simp at hx
    · simp at hx
  · rename_i z0 i len hv
    rw [hv] at hr
    obtain ⟨b, cap, hb, e1, hcap, hcells⟩ := hr.orow_inv
    split at hx
    · rename_i k1 l k2 h e2 e3
      split at hx
      · rename_i hc
        simp only [Option.some.injEq, Prod.mk.injEq] at hx
        obtain ⟨rfl, rfl⟩ := hx
        obtain ⟨rfl, hc1, hc2⟩ := hc
        have hm0 : mx.map ρ = none := by
          cases mx with
          | none => rfl
          | some q =>
            simp only [trOpt] at hmx
            split at hmx
            · simp at hmx
            · simp at hmx
        have el := optV_run hlo he e2
        have eh := optV_run hhi he e3
        have hh0 : ((h.toNat : Nat) : Int) = h := by omega
        have := slice_run (P := P) (w := w) t e z ht hz (some ⟨b, 0, none⟩) len cap (lo.map ρ) (hi.map ρ) (mx.map ρ) 0 h.toNat cap (by omega) (by omega) (Nat.le_refl _)
          (by rcases el with ⟨k, el⟩ | ⟨el, en⟩
              · exact .inl ⟨k, el⟩
              · exact .inr ⟨el, rfl⟩)
          (by rcases eh with ⟨k, eh⟩ | ⟨eh, en⟩
              · exact .inl ⟨k, by rw [hh0]; exact eh⟩
              · exact .inr ⟨eh, by omega⟩) (.inr ⟨hm0, rfl⟩) hmh'
        rw [← e1] at this
        have hv' : (if cap = 0 then some (⟨b, 0, none⟩ : Addr) else (some (⟨b, 0, none⟩ : Addr)).map (·.add (0 * z))) = some ⟨b, 0, none⟩ := by
          split
          · rfl
          · simp [add_off]
        rw [hv'] at this
        simp only [Nat.sub_zero] at this
        exact fin _ this (.of (.orow z0 i h.toNat b cap hb (by omega) hcells)) (OwnAt.of_notOwn trivial) rfl
      · simp at hx
    · simp at hx
  · rename_i nn hv
    rw [hv] at hr
    split at hx
    · rename_i k1 l k2 h e2 e3
      split at hx
      · rename_i hc
        simp only [Option.some.injEq, Prod.mk.injEq] at hx
        obtain ⟨rfl, rfl⟩ := hx
        obtain ⟨rfl, rfl⟩ := hc
        have hm0 : mx.map ρ = none := by
          cases mx with
          | none => rfl
          | some q =>
            simp only [trOpt] at hmx
            split at hmx
            · simp at hmx
            · simp at hmx
        have el := optV_run hlo he e2
        have eh := optV_run hhi he e3
        have run : ∀ a, (Instr.sliceAt t (.slice a 0 0) (lo.map ρ) (hi.map ρ) (mx.map ρ)).run P w = .ok (.slice a 0 0) w := fun a => by
          have := slice_run (P := P) (w := w) t e z ht hz a 0 0 (lo.map ρ) (hi.map ρ) (mx.map ρ) 0 0 0 (by omega) (by omega) (Nat.le_refl _)
            (by rcases el with ⟨k, el⟩ | ⟨el, en⟩
                · exact .inl ⟨k, el⟩
                · exact .inr ⟨el, rfl⟩)
            (by rcases eh with ⟨k, eh⟩ | ⟨eh, en⟩
                · exact .inl ⟨k, eh⟩
                · exact .inr ⟨eh, rfl⟩) (.inr ⟨hm0, rfl⟩) hmh'
          simpa using this
        rcases hr.zcap_inv with ⟨rfl, e1⟩ | ⟨a, rfl, e1⟩
        · have := run none
          rw [← e1] at this
          exact fin _ this (by rw [e1]; exact .of .zcapNil) (OwnAt.of_notOwn trivial) rfl
        · have := run (some a)
          rw [← e1] at this
          exact fin _ this (by rw [e1]; exact .of (.zcap a)) (OwnAt.of_notOwn trivial) rfl
      · simp at hx
    · simp at hx
  · simp at hx

end
end Go.Vm
/- append. -/
namespace Go.Vm

section
variable {P : Program} {ρ : Operand → Value} {G0 : Gh} {w0 : World} {G : Gh} {w : World} {s : St} {tv : Nat → Value} {d : Nat} {o : Oper}

theorem heap_setCells (b : Nat) : ∀ (vs : List Value) (o : Nat) (w : World), (w.setCells b o vs).heap.size = w.heap.size ∧ (∀ b', b' ≠ b → (w.setCells b o vs).heap[b']? = w.heap[b']?) ∧
    (w.setCells b o vs).os = w.os ∧ (w.setCells b o vs).tape = w.tape ∧ (w.setCells b o vs).output = w.output
  | [], _, _ => ⟨rfl, fun _ _ => rfl, rfl, rfl, rfl⟩
  | v :: r, o, w => by
    obtain ⟨h1, h2, h3, h4, h5⟩ := heap_setCells b r (o + 1) (w.setCell ⟨b, o, none⟩ v)
    refine ⟨by rw [World.setCells, h1]; simp, fun b' hb' => ?_, h3, h4, h5⟩
    rw [World.setCells, h2 b' hb']
    simp only [World.setCell, Array.getElem?_modify]
    rw [if_neg (Ne.symm hb')]

theorem cell_setCells (b : Nat) : ∀ (vs : List Value) (o : Nat) (w : World) (x : Addr), (∃ u, w.cell? x = some u) → ∃ u, (w.setCells b o vs).cell? x = some u
  | [], _, _, _, h => h
  | v :: r, o, w, x, h => by
    rw [World.setCells]
    refine cell_setCells b r (o + 1) _ x ?_
    by_cases e : (⟨b, o, none⟩ : Addr) = x
    · obtain ⟨u, hu⟩ := h
      subst e
      exact ⟨v, World.cell?_setCell_same _ _ _ hu⟩
    · rw [World.cell?_setCell_other _ _ _ _ e]; exact h

theorem shape_setCell (w : World) (a : Addr) (v : Value) (b : Nat) : (w.setCell a v).shape? b = w.shape? b := by
  have e : (w.setCell a v).heap[b]? = if a.block = b then (w.heap[b]?).map (fun
      | .cells c elem frozen => .cells (if a.spot.isSome = true then c else c.setIfInBounds a.off v) elem frozen
      | o => o) else w.heap[b]? := by
    unfold World.setCell
    exact Array.getElem?_modify
  unfold World.shape?
  rw [e]
  by_cases h : a.block = b
  · rw [if_pos h]
    cases w.heap[b]? with
    | none => rfl
    | some o =>
      cases o with
      | cells c T fr =>
        by_cases hs : a.spot.isSome = true
        · simp [hs]
        · simp [hs]
      | _ => rfl
  · rw [if_neg h]
theorem shape_setCells (b : Nat) : ∀ (vs : List Value) (k : Nat) (w : World) (b' : Nat), (w.setCells b k vs).shape? b' = w.shape? b'
  | [], _, _, _ => rfl
  | v :: vs, k, w, b' => (shape_setCells b vs (k + 1) _ b').trans (shape_setCell w _ v b')

/-- Cells behind a vector in flight are written. -/
theorem Inv.writeAir (h : Inv P G0 w0 G w s tv) {b tip n : Nat} {ow : Owner} {vs : List Value} (hr : G.role b = (.air, some tip)) (hn : n = vs.length) :
    Inv P G0 w0 (G.newRole b (ow, some (tip + n))) (w.setCells b tip vs) s tv ∧ Le G w (G.newRole b (ow, some (tip + n))) (w.setCells b tip vs) := by
  subst hn
  obtain ⟨h1, h2, h3, h4, h5⟩ := heap_setCells b vs tip w
  have hle : Le G w (G.newRole b (ow, some (tip + vs.length))) (w.setCells b tip vs) := by
    refine ⟨fun b' k u hs hc => ?_, fun _ _ e => e, fun b' t ht => ?_⟩
    by_cases e : b' = b
    · subst e
      have hk : k < tip := by unfold stable at hs; rw [hr] at hs; exact hs
      refine ⟨by unfold stable; rw [newRole_at]; show k < tip + vs.length; omega, ?_⟩
      rw [World.cell?_setCells_out b' vs tip w _ (fun _ _ => .inl hk)]
      exact hc
    · exact ⟨stable_of_role (newRole_ne _ _ e) hs, by rw [cell?_of_heap (h2 b' e)]; exact hc⟩
    · rw [shape_setCells]; exact ht
  refine ⟨?_, hle⟩
  have hne : ∀ b', (G.role b').1 ≠ .air → b' ≠ b := fun b' e eb => by subst eb; exact e (by rw [hr])
  have hcf : ∀ b', b' ≠ b → ∀ k, (∃ u, w.cell? ⟨b', k, none⟩ = some u) → w.frozen? ⟨b', k, none⟩ = false → (∃ u, (w.setCells b tip vs).cell? ⟨b', k, none⟩ = some u) ∧ (w.setCells b tip vs).frozen? ⟨b', k, none⟩ = false :=
    fun b' e k k1 k2 => ⟨by rw [cell?_of_heap (h2 b' e)]; exact k1, by rw [frozen?_of_heap (h2 b' e)]; exact k2⟩
  refine { os := h3.trans h.os, tape := h4.trans h.tape, output := h5.trans h.output, size := by rw [h1]; exact h.size, tmp := fun t => (h.tmp t).mono hle (fun _ _ _ e => e), own := fun t => ?_, obj := fun y lo e => ?_, ext := fun b' hb' e => ?_, le := h.le.trans hle, mlen := h.mlen, llen := h.llen, glob := h.glob }
  · exact (h.own t).keep (by rw [h1]; exact Nat.le_refl _) fun b' c => by
      have := hne b' (by rw [(h.own t).role c]; simp)
      exact ⟨newRole_ne _ _ this, hcf b' this⟩
  · obtain ⟨bx, k1, k2, k3⟩ := h.obj y lo e
    exact ⟨bx, k1, by rw [h1]; exact k2, k3.keep hle (by rw [h1]; exact Nat.le_refl _) (fun e => by
        have hb := hne bx (by rw [e]; simp)
        exact ⟨newRole_ne _ _ hb, h2 bx hb⟩) fun j a v b' ho c => by
      have := hne b' (by rw [ho.role c]; simp)
      exact ⟨newRole_ne _ _ this, hcf b' this⟩⟩
  · obtain ⟨k1, k2⟩ := h.ext b' hb' e
    have hb : b' ≠ b := hne b' (by rw [k2, e]; simp)
    exact ⟨(h2 b' hb).trans k1, (newRole_ne _ _ hb).trans k2⟩

/-- A row of values in memory that stands for elements. -/
theorem elems_vals {esz : Nat} {x : AV} {v : Value} {ys : List AV} (hr : RepT G w x v) (hy : elems? esz x = some ys) :
    (∀ y ∈ ys, y.cells.length = esz) ∧ (ys = [] ∨ ∃ (b off cap : Nat) (news : List Value), v = .slice (some ⟨b, off, none⟩) ys.length cap ∧ news.length = ys.length * esz ∧
      (∀ j u, news[j]? = some u → w.cell? (Addr.add ⟨b, off, none⟩ j) = some u) ∧ RepL G w (flat ys) news ∧ ∀ u ∈ news, u.oneCell' = true) ∧
    ((∃ c, v = .slice none 0 c ∧ ys = []) ∨ ∃ a c, v = .slice (some a) ys.length c) := by
  unfold elems? at hy
  split at hy
  · rename_i o nn xs
    split at hy
    · rename_i hall
      simp only [Option.some.injEq] at hy
      subst hy
      have hsz : ∀ y ∈ xs, y.cells.length = esz := by
        intro y hy
        have := List.all_eq_true.1 hall y hy
        simp at this
        exact this.1
      have hone : ∀ a ∈ flat xs, a.one = true := by
        intro a ha
        obtain ⟨y, hy, hay⟩ := List.mem_flatMap.1 ha
        have := List.all_eq_true.1 hall y hy
        simp at this
        exact this.2 a hay
      rcases hr.vec_inv with ⟨_, rfl, rfl⟩ | ⟨b, off, cap, st, vals, _, rfl, hcap, _, hc, hrep⟩ | ⟨a, _, rfl, rfl⟩
      rotate_left 2
      · exact ⟨hsz, .inl rfl, .inr ⟨a, 0, rfl⟩⟩
      · exact ⟨hsz, .inl rfl, .inl ⟨0, rfl, rfl⟩⟩
      · refine ⟨hsz, .inr ⟨b, off, cap, (List.range (xs.length * esz)).map vals, rfl, by simp, ?_, ?_, ?_⟩, .inr ⟨_, _, rfl⟩⟩
        · intro j u hj
          simp only [List.getElem?_map, Option.map_eq_some_iff] at hj
          obtain ⟨i, hi, rfl⟩ := hj
          have hlt : j < xs.length * esz := by
            rcases Nat.lt_or_ge j (xs.length * esz) with h' | h'
            · exact h'
            · rw [List.getElem?_eq_none (by simpa using h')] at hi; simp at hi
          rw [List.getElem?_range hlt] at hi
          simp only [Option.some.injEq] at hi
          subst hi
          rw [add_off]
          exact (hc j (by rw [flat_length hsz]; exact hlt)).2
        · refine ⟨by rw [flat_length hsz]; simp, fun i a u ha hu => ?_⟩
          obtain ⟨h1, rfl⟩ := List.getElem?_eq_some_iff.1 ha
          simp only [List.getElem?_map, Option.map_eq_some_iff] at hu
          obtain ⟨k, hk, rfl⟩ := hu
          rw [List.getElem?_range (by rw [flat_length hsz] at h1; exact h1)] at hk
          simp only [Option.some.injEq] at hk
          subst hk
          exact hrep i h1
        · intro u hu
          obtain ⟨k, hk, rfl⟩ := List.mem_map.1 hu
          have hk' : k < (flat xs).length := by rw [flat_length hsz]; simpa using hk
          exact oneCell_of (hrep k hk') (hone _ (List.getElem_mem hk'))
    · simp at hy
  · simp at hy

theorem builtin_append_run {c : Call} {a x : Operand} {t u : TypeId} {v : Value} {w' : World} (ho : o.op = .call c) (h1 : c.callee = .builtin .append) (h2 : c.args = #[a, x]) (h3 : c.argTypes = #[t, u])
    (h : (Builtin.append_ #[t, u] o.type #[ρ a, ρ x]).run P w = .ok v w') : (execOp ρ o).run P w = .ok (.value v) w' := by
  simp [execOp, ho, resolve, h1, h2, h3, invoke, builtin, h]

/-- Nothing is appended. -/
theorem append_none_run {t e : TypeId} {it : TypeInfo} (ty : TypeId) (ht : P.underlying t = some (.slice e)) (hi : P.info? e = some it) (base : Option Addr) (len cap : Nat) (hcap : len ≤ cap) (v : Value)
    (hv : (∃ c, v = .slice none 0 c) ∨ ∃ a c, v = .slice (some a) 0 c) : (Builtin.append_ #[t, t] ty #[.slice base len cap, v]).run P w = .ok (.slice base len cap) w := by
  rcases hv with ⟨c, rfl⟩ | ⟨a, c, rfl⟩ <;> cases base <;>
    simp [Builtin.append_, run_underlying ht, sizeOf, typeInfo, hi, Builtin.lenOf, hcap, Builtin.firstCells, loadCells, loadCellsFrom, storeCells]

/-- There is room. -/
theorem append_fits_run {t e : TypeId} {it : TypeInfo} (ty : TypeId) (ht : P.underlying t = some (.slice e)) (hi : P.info? e = some it) (b off len cap : Nat) (a : Addr) (n c : Nat) (news : List Value) (hl : news.length = n * it.size)
    (hnews : ∀ j v, news[j]? = some v → w.cell? (a.add j) = some v) (hroom : len + n ≤ cap) (hcell : ∀ j, j < news.length → (w.cell? ⟨b, off + len * it.size + j, none⟩).isSome = true)
    (hfr : ∀ j, j < news.length → w.frozen? ⟨b, off + len * it.size + j, none⟩ = false) (hone : ∀ v ∈ news, v.oneCell' = true) :
    (Builtin.append_ #[t, t] ty #[.slice (some ⟨b, off, none⟩) len cap, .slice (some a) n c]).run P w = .ok (.slice (some ⟨b, off, none⟩) (len + n) cap) (w.setCells b (off + len * it.size) news) := by
  have hf := run_firstCells_some (P := P) w it.size n a n c news hl hnews
  have hst := run_storeCells_cells (P := P) b (off + len * it.size) news 0 w (by simpa using hcell) (by simpa using hfr) hone
  simp only [Nat.add_zero] at hst
  simp [Builtin.append_, run_underlying ht, sizeOf, typeInfo, hi, Builtin.lenOf, hroom, hf, add_off, hst]

end
end Go.Vm
/- append, as a whole. -/
namespace Go.Vm

section
variable {P : Program} {ρ : Operand → Value} {G0 : Gh} {w0 : World} {G : Gh} {w : World} {s : St} {tv : Nat → Value} {d : Nat} {o : Oper}

theorem RepL.append {cs ds : List AV} {us vs : List Value} (h : RepL G w cs us) (k : RepL G w ds vs) : RepL G w (cs ++ ds) (us ++ vs) := by
  refine ⟨by simp [h.1, k.1], fun i a v ha hv => ?_⟩
  by_cases hi : i < cs.length
  · rw [List.getElem?_append_left hi] at ha
    rw [List.getElem?_append_left (by rw [← h.1]; exact hi)] at hv
    exact h.2 i a v ha hv
  · rw [List.getElem?_append_right (by omega)] at ha
    rw [List.getElem?_append_right (by rw [← h.1]; omega), ← h.1] at hv
    exact k.2 _ a v ha hv

theorem RepL.flatView {ys : List AV} {vs : List Value} (h : RepL G w (flat ys) vs) : RepL G w (flat (ys.map AV.view)) vs := by
  refine ⟨by rw [flat_view_len]; exact h.1, fun i a v ha hv => ?_⟩
  obtain ⟨h1, rfl⟩ := List.getElem?_eq_some_iff.1 ha
  have h2 : i < (flat ys).length := by rw [← flat_view_len]; exact h1
  exact flat_view_rep h1 h2 (h.2 i _ v (List.getElem?_eq_getElem h2) hv)

theorem RepL.get {cs : List AV} {vs : List Value} (h : RepL G w cs vs) (i : Nat) (h1 : i < cs.length) (h2 : i < vs.length) : Rep G w cs[i] vs[i] :=
  h.2 i _ _ (List.getElem?_eq_getElem h1) (List.getElem?_eq_getElem h2)

/-- A value in flight, appended to. -/
theorem append_air {c : Call} {a x : Operand} {t e : TypeId} {it : TypeInfo} {zv : Value} {xs ys : List AV} {nn : Bool} {yv : AV} (hI : Inv P G0 w0 G w s tv) (ho : o.op = .call c) (hc1 : c.callee = .builtin .append) (hc2 : c.args = #[a, x]) (hc3 : c.argTypes = #[t, t])
    (ht : P.underlying t = some (.slice e)) (hi : P.info? e = some it) (hz : it.zero = some zv) (hzs : zv.cells.size = it.size)
    (hra : RepT G w (.vec (some it.size) nn xs) (ρ a)) (hoa : OwnAt G w .air (.vec (some it.size) nn xs) (ρ a)) (hrx : RepT G w yv (ρ x)) (hy : elems? it.size yv = some ys)
    (hb0 : 0 < it.bytes) (hb : (xs.length + ys.length) * it.bytes ≤ 140737488355328) :
    Does P ρ o G0 w0 w tv d (.vec (some it.size) (nn || !ys.isEmpty) (xs ++ ys.map AV.view)) s := by
  obtain ⟨hysz, hyv, hyf⟩ := elems_vals hrx hy
  have hxsz : ∀ x ∈ xs, x.cells.length = it.size := (hoa _ _ _ rfl).1
  have hvsz : ∀ x ∈ ys.map AV.view, x.cells.length = it.size := by
    intro x hx
    obtain ⟨y, hy, rfl⟩ := List.mem_map.1 hx
    rw [view_cells]; exact hysz y hy
  have hall : ∀ x ∈ xs ++ ys.map AV.view, x.cells.length = it.size := by
    intro x hx
    rcases List.mem_append.1 hx with h | h
    · exact hxsz x h
    · exact hvsz x h
  rcases hyv with hynil | ⟨b2, off2, cap2, news, ey, hnl, hncell, hnrep, hnone⟩
  · -- nothing to append
    subst hynil
    obtain ⟨G2, i2, r2, o2, _⟩ := hI.land hra hoa (.slot d)
    have hres : (.vec (some it.size) (nn || !([] : List AV).isEmpty) (xs ++ ([] : List AV).map AV.view) : AV) = .vec (some it.size) nn xs := by simp
    rw [hres]
    have hlc : ∃ base len cap, ρ a = .slice base len cap ∧ len ≤ cap := by
      rcases hra.vec_inv with ⟨_, rfl, e1⟩ | ⟨b, off, cap, st, vals, _, e1, hcap, _⟩ | ⟨_, _, rfl, e1⟩
      · exact ⟨_, _, _, e1, Nat.le_refl _⟩
      · exact ⟨_, _, _, e1, hcap⟩
      · exact ⟨_, _, _, e1, Nat.le_refl _⟩
    obtain ⟨base, len, cap, e1, hlc⟩ := hlc
    refine ⟨ρ a, w, G2, .inl (builtin_append_run ho hc1 hc2 hc3 ?_), i2, r2, o2⟩
    rw [e1]
    refine append_none_run o.type ht hi base len cap hlc (ρ x) ?_
    rcases hyf with ⟨c, e2, _⟩ | ⟨a', c, e2⟩
    · exact .inl ⟨c, e2⟩
    · exact .inr ⟨a', c, e2⟩
  · by_cases hys : ys = []
    · subst hys
      obtain ⟨G2, i2, r2, o2, _⟩ := hI.land hra hoa (.slot d)
      have hres : (.vec (some it.size) (nn || !([] : List AV).isEmpty) (xs ++ ([] : List AV).map AV.view) : AV) = .vec (some it.size) nn xs := by simp
      rw [hres]
      have hlc : ∃ base len cap, ρ a = .slice base len cap ∧ len ≤ cap := by
        rcases hra.vec_inv with ⟨_, rfl, e1⟩ | ⟨b, off, cap, st, vals, _, e1, hcap, _⟩ | ⟨_, _, rfl, e1⟩
        · exact ⟨_, _, _, e1, Nat.le_refl _⟩
        · exact ⟨_, _, _, e1, hcap⟩
        · exact ⟨_, _, _, e1, Nat.le_refl _⟩
      obtain ⟨base, len, cap, e1, hlc⟩ := hlc
      refine ⟨ρ a, w, G2, .inl (builtin_append_run ho hc1 hc2 hc3 ?_), i2, r2, o2⟩
      rw [e1]
      exact append_none_run o.type ht hi base len cap hlc (ρ x) (.inr ⟨_, _, ey⟩)
    · have hn0 : 0 < ys.length := List.length_pos_iff.2 hys
      have hnn : (nn || !ys.isEmpty) = true := by cases ys <;> simp_all
      rw [hnn]
      have hneed : xs.length + ys.length ≤ 140737488355328 := by
        have : (xs.length + ys.length) * 1 ≤ (xs.length + ys.length) * it.bytes := Nat.mul_le_mul_left _ hb0
        omega
      have hflen : (flat (xs ++ ys.map AV.view)).length = (xs.length + ys.length) * it.size := by rw [flat_length hall]; simp
      have hzz : ∀ k, (Builtin.zeroCells zv.cells k).size = k * it.size := by intro k; simp [Builtin.zeroCells, hzs]
      -- a new block
      have fresh : ∀ (olds : List Value) (capN : Nat), RepL G w (flat xs) olds → olds.length = xs.length * it.size → xs.length + ys.length ≤ capN →
          (Builtin.append_ #[t, t] o.type #[ρ a, ρ x]).run P w = .ok (.slice (some ⟨w.heap.size, 0, none⟩) (xs.length + ys.length) capN) (w.drew.alloc (.cells (olds.toArray ++ news.toArray ++ Builtin.zeroCells zv.cells (capN - (xs.length + ys.length))) e)) →
          Does P ρ o G0 w0 w tv d (.vec (some it.size) true (xs ++ ys.map AV.view)) s := by
        intro olds capN hold hol hcap hrun
        have hsz : (olds.toArray ++ news.toArray ++ Builtin.zeroCells zv.cells (capN - (xs.length + ys.length))).size = capN * it.size := by
          simp only [Array.size_append, List.size_toArray, hzz, hol, hnl]
          rw [← Nat.add_mul, ← Nat.add_mul]
          congr 1
          omega
        have hrl : RepL G w (flat (xs ++ ys.map AV.view)) (olds ++ news) := by rw [flat_append]; exact hold.append hnrep.flatView
        have hle : (xs.length + ys.length) * it.size ≤ capN * it.size := Nat.mul_le_mul_right _ hcap
        have hrep := new_vec (G := G) (Drawn.drew w) (some it.size) (xs ++ ys.map AV.view) (olds.toArray ++ news.toArray ++ Builtin.zeroCells zv.cells (capN - (xs.length + ys.length))) e (0, 0) capN it.size
          (.slot d, some (flat (xs ++ ys.map AV.view)).length) (by simpa using hcap) hall (.inr rfl) (by rw [hflen, hsz]; exact hle)
          (by
            intro j j1 j2
            have j3 : j < (olds ++ news).length := by rw [← hrl.1]; exact j1
            have := hrl.get j j1 j3
            have e5 : (olds.toArray ++ news.toArray ++ Builtin.zeroCells zv.cells (capN - (xs.length + ys.length)))[j] = (olds ++ news)[j] := by
              have : (olds.toArray ++ news.toArray) = (olds ++ news).toArray := by simp
              simp only [this]
              rw [Array.getElem_append_left (by simpa using j3)]
              simp
            rw [e5]; exact this)
        have hown := new_own (G := G) (Drawn.drew w) d it.size (xs ++ ys.map AV.view) (olds.toArray ++ news.toArray ++ Builtin.zeroCells zv.cells (capN - (xs.length + ys.length))) e capN hall (by rw [hsz]; exact Nat.le_refl _)
        have hl : (xs ++ ys.map AV.view).length = xs.length + ys.length := by simp
        rw [hl] at hrep hown
        exact ⟨_, _, _, .inl (builtin_append_run ho hc1 hc2 hc3 hrun), hI.grow (alloc_grow G (Drawn.drew w) _ _), .of hrep, hown⟩
      rcases hra.vec_inv with ⟨_, rfl, e1⟩ | ⟨b, off, cap, st, vals, rfl, e1, hcap, _, hc, hrep⟩ | ⟨a0, rfl, rfl, e1⟩
      rotate_left 2
      · have hrun := run_append_grow (P := P) w t o.type e it zv ht hi hz a0 0 0 [] (by simp) (by simp) ⟨b2, off2, none⟩ ys.length cap2 news hnl hncell (by omega) (by simp at hneed; omega) (growslice_fits (by omega) (by simpa using hb))
        rw [← e1, ← ey] at hrun
        refine fresh [] (grownCap w ys.length 0 e) ⟨rfl, fun i a v ha => by simp [flat] at ha⟩ (by simp) (by simpa using grownCap_ge w ys.length 0 e) ?_
        simpa using hrun
      · have hrun := run_append_nil (P := P) w t o.type e it zv ht hi hz ⟨b2, off2, none⟩ ys.length cap2 news hnl hncell hn0 (by simp at hneed; omega) (by simp at hb; omega)
        rw [← e1, ← ey] at hrun
        refine fresh [] (grownCap w ys.length 0 e) ⟨rfl, fun i a v ha => by simp [flat] at ha⟩ (by simp) (by simpa using grownCap_ge w ys.length 0 e) ?_
        simpa using hrun
      · have hxl := flat_length hxsz
        have hold : RepL G w (flat xs) ((List.range (xs.length * it.size)).map vals) := by
          refine ⟨by rw [hxl]; simp, fun i a u ha hu => ?_⟩
          obtain ⟨h1, rfl⟩ := List.getElem?_eq_some_iff.1 ha
          simp only [List.getElem?_map, Option.map_eq_some_iff] at hu
          obtain ⟨k, hk, rfl⟩ := hu
          rw [List.getElem?_range (by rw [hxl] at h1; exact h1)] at hk
          simp only [Option.some.injEq] at hk
          subst hk
          exact hrep i h1
        by_cases hroom : xs.length + ys.length ≤ cap
        · -- in place
          have hne : xs.length ≠ cap := by omega
          rcases (hoa _ _ _ rfl).2 b off xs.length cap e1 with h0 | ⟨hblt, hrole, hsp⟩
          · exact absurd h0 hne
          · have hcz : off + cap * it.size ≥ off + (flat xs).length + news.length := by
              rw [hxl, hnl]
              have : (xs.length + ys.length) * it.size ≤ cap * it.size := Nat.mul_le_mul_right _ hroom
              rw [Nat.add_mul] at this
              omega
            have hspc : ∀ j, j < news.length → (∃ u, w.cell? ⟨b, off + (flat xs).length + j, none⟩ = some u) ∧ w.frozen? ⟨b, off + (flat xs).length + j, none⟩ = false := fun j hj => hsp _ (by omega) (by omega)
            have hrun := append_fits_run (P := P) (w := w) o.type ht hi b off xs.length cap ⟨b2, off2, none⟩ ys.length cap2 news hnl hncell hroom
              (fun j hj => by rw [← hxl]; exact Option.isSome_iff_exists.2 (hspc j hj).1) (fun j hj => by rw [← hxl]; exact (hspc j hj).2) hnone
            rw [← e1, ← ey, ← hxl] at hrun
            obtain ⟨i2, l2⟩ := hI.writeAir (ow := .slot d) (vs := news) hrole rfl
            have hrl : RepL (G.newRole b (.slot d, some (off + (flat xs).length + news.length))) (w.setCells b (off + (flat xs).length) news) (flat (xs ++ ys.map AV.view)) ((List.range (xs.length * it.size)).map vals ++ news) := by
              rw [flat_append]; exact (hold.append hnrep.flatView).mono l2
            have hfl : (flat (xs ++ ys.map AV.view)).length = (flat xs).length + news.length := by rw [flat_append, List.length_append, flat_view_len, flat_length hysz, hnl]
            have hrepv : Rep (G.newRole b (.slot d, some (off + (flat xs).length + news.length))) (w.setCells b (off + (flat xs).length) news) (.vec (some it.size) true (xs ++ ys.map AV.view)) (.slice (some ⟨b, off, none⟩) (xs.length + ys.length) cap) := by
              have := Rep.vec (G := G.newRole b (.slot d, some (off + (flat xs).length + news.length))) (w := w.setCells b (off + (flat xs).length) news) (some it.size) (xs ++ ys.map AV.view) b off cap it.size
                (fun j => ((List.range (xs.length * it.size)).map vals ++ news).getD j undef) (by simpa using hroom) hall
                (fun j hj => by
                  rw [hfl] at hj
                  refine ⟨by unfold stable; rw [newRole_at]; show off + j < off + (flat xs).length + news.length; omega, ?_⟩
                  by_cases hj2 : j < (flat xs).length
                  · rw [World.cell?_setCells_out b news _ w _ (fun _ _ => .inl (by show off + j < off + (flat xs).length; omega)), (hc j hj2).2]
                    rw [hxl] at hj2
                    simp [List.getD, List.getElem?_append_left, hj2]
                  · have := World.cell?_setCells_in b news (off + (flat xs).length) w (fun i hi => Option.isSome_iff_exists.2 (hspc i hi).1) (j - (flat xs).length) (by omega)
                    rw [show off + (flat xs).length + (j - (flat xs).length) = off + j by omega] at this
                    rw [this]
                    have hl2 : ((List.range (xs.length * it.size)).map vals).length = (flat xs).length := by rw [hxl]; simp
                    simp only [List.getD]
                    rw [List.getElem?_append_right (by rw [hl2]; omega), hl2, List.getElem?_eq_getElem (by omega)]
                    rfl)
                (fun j hj => by
                  have j3 : j < ((List.range (xs.length * it.size)).map vals ++ news).length := by rw [← hrl.1]; exact hj
                  have := hrl.get j hj j3
                  simp only [List.getD]
                  rw [List.getElem?_eq_getElem j3]
                  exact this)
              have hl : (xs ++ ys.map AV.view).length = xs.length + ys.length := by simp
              rw [hl] at this
              exact this
            refine ⟨_, _, _, .inl (builtin_append_run ho hc1 hc2 hc3 hrun), i2, .of hrepv, ?_⟩
            intro z' nn' xs' e5
            simp only [AV.vec.injEq, Option.some.injEq] at e5
            obtain ⟨rfl, rfl, rfl⟩ := e5
            refine ⟨hall, fun b' off' len' cap' e6 => .inr ?_⟩
            simp only [Value.slice.injEq, Option.some.injEq, Addr.mk.injEq, and_true] at e6
            obtain ⟨⟨rfl, rfl⟩, rfl, rfl⟩ := e6
            refine ⟨by rw [(heap_setCells b news _ w).1]; exact hblt, by rw [newRole_at, hfl, Nat.add_assoc], fun k hk hk' => ?_⟩
            rw [hfl] at hk
            obtain ⟨k1, k2⟩ := hsp k (by omega) hk'
            exact ⟨by rw [World.cell?_setCells_out b news _ w _ (fun _ _ => .inr (by show off + (flat xs).length + news.length ≤ k; omega))]; exact k1, by rw [World.frozen?_setCells]; exact k2⟩
        · -- it grows
          have hrun := run_append_grow (P := P) w t o.type e it zv ht hi hz ⟨b, off, none⟩ xs.length cap ((List.range (xs.length * it.size)).map vals) (by simp)
            (fun j v hj => by
              simp only [List.getElem?_map, Option.map_eq_some_iff] at hj
              obtain ⟨i, hi', rfl⟩ := hj
              have hlt : j < xs.length * it.size := by
                rcases Nat.lt_or_ge j (xs.length * it.size) with h' | h'
                · exact h'
                · rw [List.getElem?_eq_none (by simpa using h')] at hi'; simp at hi'
              rw [List.getElem?_range hlt] at hi'
              simp only [Option.some.injEq] at hi'
              subst hi'
              rw [add_off]
              exact (hc j (by rw [hxl]; exact hlt)).2)
            ⟨b2, off2, none⟩ ys.length cap2 news hnl hncell (by omega) (by omega) (growslice_fits (by omega) hb)
          rw [← e1, ← ey] at hrun
          exact fresh _ _ hold (by simp) (grownCap_ge w _ cap e) hrun

theorem does_append {c : Call} {a x : Operand} {a' x' : VO} {t e : TypeId} {it : TypeInfo} {zv : Value} {r : AV} {s' : St} (hI : Inv P G0 w0 G w s tv) (ho : o.op = .call c) (hc1 : c.callee = .builtin .append) (hc2 : c.args = #[a, x]) (hc3 : c.argTypes = #[t, t])
    (ht : P.underlying t = some (.slice e)) (hi : P.info? e = some it) (hz : it.zero = some zv) (hzs : zv.cells.size = it.size) (ha : trO P a = some a') (hx : trO P x = some x') (hT : ∀ t, ρ (.tmp t) = tv t) (he : OkEv P G w s.ev ρ)
    (hex : exec d (.append it.size it.bytes a' x') s = some (r, s')) : Does P ρ o G0 w0 w tv d r s' := by
  have hrx := he _ _ hx
  obtain ⟨G1, i1, r1, o1, m1, m2, l1⟩ := hI.takeO ha hT he
  have hrx1 : RepT G1 w (s.ev x') (ρ x) := hrx.mono l1 (fun t k b e => by rw [m2]; exact e)
  simp only [exec] at hex
  split at hex
  · rename_i ys hys
    split at hex
    · rename_i z nn xs hv
      split at hex
      · rename_i hcnd
        obtain ⟨rfl, hb0, hb⟩ := hcnd
        simp only [Option.some.injEq, Prod.mk.injEq] at hex
        obtain ⟨rfl, rfl⟩ := hex
        rw [hv] at r1 o1
        exact append_air i1 ho hc1 hc2 hc3 ht hi hz hzs r1 o1 hrx1 hys hb0 hb
      · simp at hex
    · rename_i xs hv
      split at hex
      · rename_i hcnd
        obtain ⟨hb0, hb⟩ := hcnd
        simp only [Option.some.injEq, Prod.mk.injEq] at hex
        obtain ⟨rfl, rfl⟩ := hex
        rw [hv] at r1
        rcases r1.vec_inv with ⟨_, rfl, e1⟩ | ⟨b, off, cap, st, vals, h0, _⟩ | ⟨_, h0, _⟩
        rotate_left 2
        · simp at h0
        · have r2 : RepT G1 w (.vec (some it.size) false []) (ρ a) := by rw [e1]; exact .of (.nilvec _)
          have o2 : OwnAt G1 w .air (.vec (some it.size) false []) (ρ a) := by
            intro z nn xs e5
            simp at e5
            obtain ⟨rfl, rfl, rfl⟩ := e5
            exact ⟨by simp, fun b off len cap e6 => by rw [e1] at e6; simp at e6⟩
          have := append_air (d := d) i1 ho hc1 hc2 hc3 ht hi hz hzs r2 o2 hrx1 hys hb0 hb
          simpa using this
        · simp at h0
      · simp at hex
    · simp at hex
  · simp at hex

end
end Go.Vm
/- Rows that are written, and the letters of a string one by one. -/
namespace Go.Vm

section
variable {P : Program} {ρ : Operand → Value} {G0 : Gh} {w0 : World} {G : Gh} {w : World} {s : St} {tv : Nat → Value} {d : Nat} {o : Oper}

theorem does_newRow (hI : Inv P G0 w0 G w s tv) {heap : Bool} {cs : List AV} {arr : Array Value} {T : TypeId} {fr : Nat × Nat} {w1 : World} {n cap : Nat} (hd : Drawn w w1) (hcap : n ≤ cap) (hfr : FrOk fr arr.size) (hl : cs.length ≤ arr.size)
    (hr : ∀ (j : Nat) (h1 : j < cs.length) (h2 : j < arr.size), Rep G w cs[j] arr[j]) (hn : ∀ a ∈ cs, notOwn a)
    (hrun : (execOp ρ o).run P w = .ok (.value (.slice (some ⟨w.heap.size, 0, none⟩) n cap)) (w1.alloc (.cells arr T fr))) :
    (heap = true → Does P ρ o G0 w0 w tv d (.row (.mem s.mem.length) 0 n) (addMem s (.cells false cs))) ∧
    (heap = false → Does P ρ o G0 w0 w tv d (.row (.loc d (s.loc d).length) 0 n) (addLoc s d (.cells false cs))) := by
  have key := hI.newObj hd (.cells arr T fr) heap d (.cells false cs) (fun G' x l hro hh _ =>
    ⟨hro, arr, T, fr, hh, hfr, hl, fun j h1 h2 => ⟨(hr j h1 h2).mono l, OwnAt.of_notOwn (hn _ (List.getElem_mem h1))⟩⟩)
  constructor
  · intro hb
    obtain ⟨G', h1, h2, _⟩ := key.2 hb
    exact ⟨_, _, G', .inl hrun, h1, RepT.row_mk h2 hcap, OwnAt.of_notOwn trivial⟩
  · intro hb
    obtain ⟨G', h1, h2, _⟩ := key.1 hb
    exact ⟨_, _, G', .inl hrun, h1, RepT.row_mk h2 hcap, OwnAt.of_notOwn trivial⟩

theorem does_mkslObj {t e : TypeId} {l c : Operand} {l' c' : VO} {it : TypeInfo} {zv : Value} {za r : AV} {heap : Bool} {s' : St} (hI : Inv P G0 w0 G w s tv)
    (ho : o.op = .makeSlice t l c) (ht : P.underlying t = some (.slice e)) (hi : P.info? e = some it) (hz : it.zero = some zv)
    (hza : AV.ofValue zv = some za) (hzu : za ≠ .undef) (hl : trO P l = some l') (hc : trO P c = some c') (he : OkEv P G w s.ev ρ)
    (hx : exec d (.mkslObj heap it.size it.bytes za l' c') s = some (r, s')) : Does P ρ o G0 w0 w tv d r s' := by
  simp only [exec] at hx
  have hl := he _ _ hl
  have hc := he _ _ hc
  split at hx
  · rename_i ln cn hlv hcv
    rw [hlv] at hl; rw [hcv] at hc
    have el := hl.int_inv; have ec := hc.int_inv
    split at hx
    · rename_i hh
      obtain ⟨h0, hlc, hbt, h63, hzl⟩ := hh
      have hzr : RepL G w za.cells zv.cells.toList := RepL.cells (Rep.ofValue G w hza) hzu
      have hrun := run_make (P := P) w t e it zv ht hi hz .i64 .i64 ln cn h0 hlc (by omega) (by omega)
      rw [← el, ← ec] at hrun
      have harr : madeCells zv.cells (cn.toNat * it.size) = (Array.range (cn.toNat * it.size)).map (zv.cells[· % zv.cells.size]!) := rfl
      have hrow := (zero_row hzr hzl cn.toNat).view
      have hlen := hrow.1
      have key := does_newRow (P := P) (ρ := ρ) (o := o) (d := d) hI (heap := heap) (cs := (flat (List.replicate cn.toNat za)).map AV.view) (arr := madeCells zv.cells (cn.toNat * it.size)) (T := e) (n := ln.toNat) (cap := cn.toNat)
        (Drawn.refl w) (by omega) (.inl rfl) (by rw [hlen, harr]; simp)
        (fun j h1 h2 => hrow.2 j _ _ (List.getElem?_eq_getElem h1) (by rw [← harr]; simp [h2]))
        (fun a ha => by simp only [List.mem_map] at ha; obtain ⟨b, _, rfl⟩ := ha; exact notOwn_view b)
        (by simp only [execOp, ho, Sem.run_bind, hrun, Result.andThen_ok, Sem.run_pure])
      split at hx
      · rename_i hb
        simp only [Option.some.injEq, Prod.mk.injEq] at hx
        obtain ⟨rfl, rfl⟩ := hx
        exact key.1 hb
      · rename_i hb
        simp only [Option.some.injEq, Prod.mk.injEq] at hx
        obtain ⟨rfl, rfl⟩ := hx
        exact key.2 (by simpa using hb)
    · simp at hx
  · simp at hx

theorem does_slZ {t e : TypeId} {x h m : Operand} {x' : VO} {z : Nat} {a : AV} {s' : St} {k k' : IntKind} (hI : Inv P G0 w0 G w s tv) (ho : o.op = .slice t x none (some h) (some m)) (ht : P.underlying t = some (.slice e))
    (hs : szOf P e = some z) (hxx : trO P x = some x') (hh : ρ h = .int k 0) (hm : ρ m = .int k' 0) (he : OkEv P G w s.ev ρ)
    (hx : exec d (.slZ x') s = some (a, s')) : Does P ρ o G0 w0 w tv d a s' := by
  have hr := he _ _ hxx
  have hsr : (sizeOf e).run P w = .ok z w := sizeOf_run hs
  simp only [exec] at hx
  split at hx
  · rename_i ow nn xs hv
    rw [hv] at hr
    simp only [Option.some.injEq, Prod.mk.injEq] at hx
    obtain ⟨rfl, rfl⟩ := hx
    rcases hr.vec_inv with ⟨rfl, _, e1⟩ | ⟨b, off, cap, st, vals, rfl, e1, hcap, _⟩ | ⟨a, rfl, rfl, e1⟩
    · refine ⟨.slice none 0 0, w, G, .inl ?_, hI, .of .zcapNil, OwnAt.of_notOwn trivial⟩
      simp [execOp, ho, e1, hh, hm, Instr.sliceAt, run_underlying ht, Instr.slice, Instr.sliceBounds, Instr.sliceBound, asIntOf, hsr]
    · refine ⟨.slice (some ⟨b, off, none⟩) 0 0, w, G, .inl ?_, hI, .of (.zcap _), OwnAt.of_notOwn trivial⟩
      simp [execOp, ho, e1, hh, hm, Instr.sliceAt, run_underlying ht, Instr.slice, Instr.sliceBounds, Instr.sliceBound, asIntOf, hsr]
    · refine ⟨.slice (some a) 0 0, w, G, .inl ?_, hI, .of (.zcap _), OwnAt.of_notOwn trivial⟩
      simp [execOp, ho, e1, hh, hm, Instr.sliceAt, run_underlying ht, Instr.slice, Instr.sliceBounds, Instr.sliceBound, asIntOf, hsr]
  · simp at hx

theorem pure_buildZ {ev : VO → AV} {t e : TypeId} {z : Nat} {a : AV} (ho : o.op = .buildSlice t 0 #[]) (ht : P.underlying t = some (.slice e)) (hs : szOf P e = some z)
    (hx : pval ev .buildZ = some a) : Yields P ρ o G w d a := by
  simp only [pval, Option.some.injEq] at hx
  subst hx
  have hsr : (sizeOf e).run P w = .ok z w := sizeOf_run hs
  have hrun : (execOp ρ o).run P w = .ok (.value (.slice (some ⟨w.heap.size, 0, none⟩) 0 0)) (w.alloc (.cells #[] e)) := by
    simp only [execOp, ho, Instr.buildSlice, Sem.run_bind, run_underlying ht, Result.andThen_ok, hsr]
    have e0 : Array.map (fun _ => (default : Value)) (Array.range 0) = #[] := by rw [Array.range_zero']; simp
    simp [Instr.fill, newRow, e0]
  exact ⟨_, _, _, hrun, alloc_grow G (Drawn.refl w) _ (.air, some 0), .of (.zcap _), OwnAt.of_notOwn trivial⟩

theorem does_appendRow {c : Call} {a x : Operand} {a' x' : VO} {t e : TypeId} {it : TypeInfo} {zv : Value} {r : AV} {s' : St} (hI : Inv P G0 w0 G w s tv) (ho : o.op = .call c) (hc1 : c.callee = .builtin .append) (hc2 : c.args = #[a, x]) (hc3 : c.argTypes = #[t, t])
    (ht : P.underlying t = some (.slice e)) (hi : P.info? e = some it) (hz : it.zero = some zv) (hzs : zv.cells.size = it.size) (ha : trO P a = some a') (hx : trO P x = some x') (he : OkEv P G w s.ev ρ)
    (hex : exec d (.appendRow it.size it.bytes a' x') s = some (r, s')) : Does P ρ o G0 w0 w tv d r s' := by
  have hra := he _ _ ha
  have hrx := he _ _ hx
  simp only [exec] at hex
  split at hex
  · rename_i nn ys hv hys
    rw [hv] at hra
    obtain ⟨hysz, hyv, hyf⟩ := elems_vals hrx hys
    split at hex
    · rename_i hemp
      simp only [Option.some.injEq, Prod.mk.injEq] at hex
      obtain ⟨rfl, rfl⟩ := hex
      have hnil : ys = [] := by simpa using hemp
      subst hnil
      have hvx : (∃ c, ρ x = .slice none 0 c) ∨ ∃ a c, ρ x = .slice (some a) 0 c := by
        rcases hyf with ⟨c, e2, _⟩ | ⟨a', c, e2⟩
        · exact .inl ⟨c, e2⟩
        · exact .inr ⟨a', c, e2⟩
      rcases hra.zcap_inv with ⟨rfl, e1⟩ | ⟨a0, rfl, e1⟩
      · exact ⟨.slice none 0 0, w, G, .inl (builtin_append_run ho hc1 hc2 hc3 (by rw [e1]; exact append_none_run o.type ht hi none 0 0 (Nat.le_refl _) (ρ x) hvx)), hI, .of (.nilvec none), OwnAt.of_notOwn trivial⟩
      · refine ⟨.slice (some a0) 0 0, w, G, .inl (builtin_append_run ho hc1 hc2 hc3 (by rw [e1]; exact append_none_run o.type ht hi (some a0) 0 0 (Nat.le_refl _) (ρ x) hvx)), hI, .of ?_, OwnAt.of_notOwn trivial⟩
        exact .evec none a0
    · rename_i hemp
      split at hex
      · rename_i hb
        simp only [Option.some.injEq, Prod.mk.injEq] at hex
        obtain ⟨rfl, rfl⟩ := hex
        have hne : ys ≠ [] := by simpa using hemp
        have hn0 : 0 < ys.length := List.length_pos_iff.2 hne
        have hneed : ys.length ≤ 140737488355328 := by
          have : ys.length * 1 ≤ ys.length * it.bytes := Nat.mul_le_mul_left _ hb.1
          omega
        rcases hyv with h0 | ⟨b2, off2, cap2, news, ey, hnl, hncell, hnrep, hnone⟩
        · exact absurd h0 hne
        have hzz : ∀ k, (Builtin.zeroCells zv.cells k).size = k * it.size := by intro k; simp [Builtin.zeroCells, hzs]
        have hv2 := hnrep.view
        have fin : ∀ capN : Nat, ys.length ≤ capN → (Builtin.append_ #[t, t] o.type #[ρ a, ρ x]).run P w = .ok (.slice (some ⟨w.heap.size, 0, none⟩) ys.length capN) (w.drew.alloc (.cells (news.toArray ++ Builtin.zeroCells zv.cells (capN - ys.length)) e)) →
            Does P ρ o G0 w0 w tv d (.row (.mem s.mem.length) 0 ys.length) (addMem s (.cells false ((flat ys).map AV.view))) := by
          intro capN hcap hrun
          refine (does_newRow (P := P) (ρ := ρ) (o := o) (d := d) hI (heap := true) (cs := (flat ys).map AV.view) (arr := news.toArray ++ Builtin.zeroCells zv.cells (capN - ys.length)) (T := e) (n := ys.length) (cap := capN)
            (Drawn.drew w) hcap (.inl rfl) (by rw [hv2.1]; simp) (fun j h1 h2 => ?_) (fun a ha => by simp only [List.mem_map] at ha; obtain ⟨b, _, rfl⟩ := ha; exact notOwn_view b) (builtin_append_run ho hc1 hc2 hc3 hrun)).1 rfl
          have j3 : j < news.length := by rw [← hv2.1]; exact h1
          refine hv2.2 j _ _ (List.getElem?_eq_getElem h1) ?_
          rw [Array.getElem_append_left (by simpa using j3)]
          simp
        rcases hra.zcap_inv with ⟨rfl, e1⟩ | ⟨a0, rfl, e1⟩
        · have hrun := run_append_nil (P := P) w t o.type e it zv ht hi hz ⟨b2, off2, none⟩ ys.length cap2 news hnl hncell hn0 (by omega) (by have := hb.2; omega)
          rw [← e1, ← ey] at hrun
          exact fin _ (grownCap_ge w _ 0 e) hrun
        · have hrun := run_append_grow (P := P) w t o.type e it zv ht hi hz a0 0 0 [] (by simp) (by simp) ⟨b2, off2, none⟩ ys.length cap2 news hnl hncell (by omega) (by omega) (growslice_fits (by omega) (by simpa using hb.2))
          rw [← e1, ← ey] at hrun
          simp only [Nat.zero_add] at hrun
          exact fin _ (by have := grownCap_ge w ys.length 0 e; exact this) (by simpa using hrun)
      · simp at hex
  · simp at hex

theorem does_range {t : TypeId} {x : Operand} {x' : VO} {a : AV} {s' : St} (hI : Inv P G0 w0 G w s tv) (ho : o.op = .range t x) (ht : P.underlying t = some .string) (hxx : trO P x = some x') (he : OkEv P G w s.ev ρ)
    (hx : exec d (.range x') s = some (a, s')) : Does P ρ o G0 w0 w tv d a s' := by
  have hr := he _ _ hxx
  simp only [exec] at hx
  split at hx
  · rename_i b hv
    rw [hv] at hr
    obtain ⟨ss, e1, rfl⟩ := hr.str_inv
    simp only [Option.some.injEq, Prod.mk.injEq] at hx
    obtain ⟨rfl, rfl⟩ := hx
    have hss : (⟨ss.data.toList.toArray⟩ : ByteArray) = ss := by simp
    have key := hI.newObj (Drawn.refl w) (.stringIter ss 0) false d (.iter ss.data.toList 0) (fun G' x l hro hh _ => ⟨hro, by rw [hss]; exact hh⟩)
    obtain ⟨G', h1, h2, _⟩ := key.1 rfl
    refine ⟨_, _, G', .inl ?_, h1, RepT.ptr_mk h2, OwnAt.of_notOwn trivial⟩
    simp only [execOp, ho, Instr.range, e1, Sem.run_bind, run_underlying ht, Result.andThen_ok, Sem.run_pure, run_newObj]
    rfl
  · simp at hx

theorem does_next {it : Operand} {it' : VO} {a : AV} {s' : St} (hI : Inv P G0 w0 G w s tv) (ho : o.op = .next it true) (hxx : trO P it = some it') (he : OkEv P G w s.ev ρ)
    (hx : exec d (.next it') s = some (a, s')) : Does P ρ o G0 w0 w tv d a s' := by
  have hr := he _ _ hxx
  simp only [exec] at hx
  split at hx
  · rename_i ix hv
    rw [hv] at hr
    obtain ⟨b, hb, e1⟩ := hr.ptr_inv
    split at hx
    · rename_i bs pos hobj
      obtain ⟨b', hb', hlt, hat⟩ := hI.obj _ _ hobj
      rw [hb] at hb'
      simp only [Option.some.injEq] at hb'
      subst hb'
      obtain ⟨hro, hh⟩ := hat
      have hget : (getObj b).run P w = .ok (.stringIter ⟨bs.toArray⟩ pos) w := by simp [getObj, Sem.run, hh]
      split at hx
      · rename_i c hc
        obtain ⟨hpos, hc'⟩ := List.getElem?_eq_some_iff.1 hc
        split at hx
        · rename_i hlt2
          simp only [Option.some.injEq, Prod.mk.injEq] at hx
          obtain ⟨rfl, rfl⟩ := hx
          have hsz : pos < (⟨bs.toArray⟩ : ByteArray).size := hpos
          have hdec : Utf8.decode ⟨bs.toArray⟩ pos = (c.toNat, 1) := by
            have hg : (ByteArray.get! ⟨bs.toArray⟩ (pos + 0)) = c := by
              show (bs.toArray)[pos + 0]! = c
              simp [hpos, hc']
            have : c.toNat < 128 := by simpa [UInt8.lt_iff_toNat_lt] using hlt2
            unfold Utf8.decode
            simp only [hg]
            rw [if_pos this]
          have hset : (setObj b (.stringIter ⟨bs.toArray⟩ (pos + 1))).run P w = .ok () { w with heap := w.heap.setIfInBounds b (.stringIter ⟨bs.toArray⟩ (pos + 1)) } := by simp [setObj, Sem.run, hh]
          have hw : Wrote b (.stringIter ⟨bs.toArray⟩ (pos + 1)) w { w with heap := w.heap.setIfInBounds b (.stringIter ⟨bs.toArray⟩ (pos + 1)) } :=
            ⟨rfl, rfl, rfl, by simp, by simp [hlt], fun b' hb' => by simp [Array.getElem?_setIfInBounds_ne (Ne.symm hb')], fun t ht => by simp [World.shape?, hh] at ht⟩
          refine ⟨.tuple #[.bool true, .int .i64 pos, .int .i32 c.toNat], _, G, .inl ?_, hI.wrote hobj hb hro hw (fun _ => ⟨hro, hw.at_⟩), .of ?_, OwnAt.of_notOwn trivial⟩
          · simp only [execOp, ho, e1, Instr.next, Sem.run_bind, hget, Result.andThen_ok, hsz, if_true, hdec, hset, Sem.run_pure]
            rfl
          · refine .tup _ _ rfl fun i h1 h2 => ?_
            match i, h1, h2 with
            | 0, _, _ => exact .bool true
            | 1, _, _ => exact .int .i64 pos
            | 2, _, _ => exact .int .i32 c.toNat
            | n + 3, h1, _ => simp at h1; omega
        · simp at hx
      · rename_i hc
        have hge : bs.length ≤ pos := by simpa using hc
        simp only [Option.some.injEq, Prod.mk.injEq] at hx
        obtain ⟨rfl, rfl⟩ := hx
        have hsz : ¬ pos < (⟨bs.toArray⟩ : ByteArray).size := by show ¬ pos < bs.length; omega
        refine ⟨.tuple #[.bool false], w, G, .inl ?_, hI, .of ?_, OwnAt.of_notOwn trivial⟩
        · simp only [execOp, ho, e1, Instr.next, Sem.run_bind, hget, Result.andThen_ok, hsz, if_false, Sem.run_pure]
        · refine .tup _ _ rfl fun i h1 h2 => ?_
          match i, h1, h2 with
          | 0, _, _ => exact .bool false
          | n + 1, h1, _ => simp at h1
    · simp at hx
  · simp at hx

/-- There is room in a row that is written. -/
theorem append_fits_row {t e : TypeId} {it : TypeInfo} (ty : TypeId) (ht : P.underlying t = some (.slice e)) (hi : P.info? e = some it) (b len cap : Nat) (a : Addr) (n c : Nat) (news : List Value) (arr : Array Value) (T : TypeId) (fr : Nat × Nat) (hl : news.length = n * it.size)
    (hnews : ∀ j v, news[j]? = some v → w.cell? (a.add j) = some v) (hroom : len + n ≤ cap) (hh : w.heap[b]? = some (.cells arr T fr)) (hfr : FrOk fr arr.size) (hfit : len * it.size + news.length ≤ arr.size) (hone : ∀ v ∈ news, v.oneCell' = true) :
    (Builtin.append_ #[t, t] ty #[.slice (some ⟨b, 0, none⟩) len cap, .slice (some a) n c]).run P w = .ok (.slice (some ⟨b, 0, none⟩) (len + n) cap) (w.setRow b (arr.toList.take (len * it.size) ++ news ++ arr.toList.drop (len * it.size + news.length)).toArray) := by
  have hf := run_firstCells_some (P := P) w it.size n a n c news hl hnews
  have hst := run_storeCells_fr (P := P) b (len * it.size) T fr news 0 arr w hh hfr (by simpa using hfit) hone
  simp only [Nat.add_zero] at hst
  simp [Builtin.append_, run_underlying ht, sizeOf, typeInfo, hi, Builtin.lenOf, hroom, hf, add_off, hst]

/-- A string's bytes. -/
def strNews (s : ByteArray) : List Value := s.data.toList.map fun b => Value.int .u8 b.toNat
theorem strNews_len (s : ByteArray) : (strNews s).length = s.size := by simp [strNews]
theorem run_firstCells_str (size : Nat) (s : ByteArray) : (Builtin.firstCells size s.size (.string s)).run P w = .ok (strNews s).toArray w := by
  have hx : (Array.map (fun b : UInt8 => Value.int IntKind.u8 (b.toNat : Int)) s.data).extract 0 s.size = Array.map (fun b : UInt8 => Value.int IntKind.u8 (b.toNat : Int)) s.data := by
    have hs : s.size = (Array.map (fun b : UInt8 => Value.int IntKind.u8 (b.toNat : Int)) s.data).size := by rw [Array.size_map]; rfl
    rw [hs, Array.extract_size]
  have e : (strNews s).toArray = Array.map (fun b : UInt8 => Value.int IntKind.u8 (b.toNat : Int)) s.data := by
    apply Array.ext'; simp [strNews]
  rw [e]
  simp [Builtin.firstCells]
theorem append_none_str {t u e : TypeId} {it : TypeInfo} (ty : TypeId) (ht : P.underlying t = some (.slice e)) (hu : P.underlying u = some .string) (hi : P.info? e = some it) (base : Option Addr) (len cap : Nat) (hcap : len ≤ cap) (s : ByteArray) (h0 : s.size = 0) :
    (Builtin.append_ #[t, u] ty #[.slice base len cap, .string s]).run P w = .ok (.slice base len cap) w := by
  have hf := run_firstCells_str (P := P) (w := w) it.size s
  have e : strNews s = [] := List.eq_nil_of_length_eq_zero (by rw [strNews_len]; exact h0)
  rw [h0, e] at hf
  cases base <;>
    simp [Builtin.append_, run_underlying ht, run_underlying hu, sizeOf, typeInfo, hi, Builtin.lenOf, h0, hcap, hf, storeCells]
theorem append_fits_str {t u e : TypeId} {it : TypeInfo} (ty : TypeId) (ht : P.underlying t = some (.slice e)) (hu : P.underlying u = some .string) (hi : P.info? e = some it) (b len cap : Nat) (s : ByteArray) (arr : Array Value) (T : TypeId) (fr : Nat × Nat)
    (hroom : len + s.size ≤ cap) (hh : w.heap[b]? = some (.cells arr T fr)) (hfr : FrOk fr arr.size) (hfit : len * it.size + (strNews s).length ≤ arr.size) :
    (Builtin.append_ #[t, u] ty #[.slice (some ⟨b, 0, none⟩) len cap, .string s]).run P w = .ok (.slice (some ⟨b, 0, none⟩) (len + s.size) cap) (w.setRow b (arr.toList.take (len * it.size) ++ strNews s ++ arr.toList.drop (len * it.size + (strNews s).length)).toArray) := by
  have hf := run_firstCells_str (P := P) (w := w) it.size s
  have hone : ∀ v ∈ strNews s, v.oneCell' = true := by
    intro v hv; simp only [strNews, List.mem_map] at hv; obtain ⟨b, _, rfl⟩ := hv; rfl
  have hst := run_storeCells_fr (P := P) b (len * it.size) T fr (strNews s) 0 arr w hh hfr (by simpa using hfit) hone
  simp only [Nat.add_zero] at hst
  simp [Builtin.append_, run_underlying ht, run_underlying hu, sizeOf, typeInfo, hi, Builtin.lenOf, hroom, hf, add_off, hst]
theorem append_nil_str {t u e : TypeId} {it : TypeInfo} {z : Value} (ty : TypeId) (ht : P.underlying t = some (.slice e)) (hu : P.underlying u = some .string) (hi : P.info? e = some it) (hz : it.zero = some z) (s : ByteArray)
    (h0 : 0 < s.size) (h63 : (s.size : Int) ≤ 9223372036854775807) (h48 : s.size * it.bytes ≤ 281474976710656) :
    (Builtin.append_ #[t, u] ty #[.slice none 0 0, .string s]).run P w =
      .ok (.slice (some ⟨w.heap.size, 0, none⟩) s.size (grownCap w s.size 0 e))
        (w.drew.alloc (.cells ((strNews s).toArray ++ Builtin.zeroCells z.cells (grownCap w s.size 0 e - s.size)) e)) := by
  rw [run_append_nil_string w t u ty e it z ht hu hi hz s h0 h63 h48]
  have e : (strNews s).toArray = s.data.map (fun b => Value.int .u8 b.toNat) := by
    apply Array.ext'; simp [strNews]
  rw [e]
theorem append_grow_str {t u e : TypeId} {it : TypeInfo} {z : Value} (ty : TypeId) (ht : P.underlying t = some (.slice e)) (hu : P.underlying u = some .string) (hi : P.info? e = some it) (hz : it.zero = some z)
    (b : Addr) (sLen sCap : Nat) (olds : List Value) (hlo : olds.length = sLen * it.size) (holds : ∀ j v, olds[j]? = some v → w.cell? (b.add j) = some v) (s : ByteArray)
    (hg : sCap < sLen + s.size) (h63 : ((sLen + s.size : Nat) : Int) ≤ 9223372036854775807) (hfit : Builtin.nextslicecap (sLen + s.size) sCap * it.bytes ≤ 281474976710656) :
    (Builtin.append_ #[t, u] ty #[.slice (some b) sLen sCap, .string s]).run P w =
      .ok (.slice (some ⟨w.heap.size, 0, none⟩) (sLen + s.size) (grownCap w (sLen + s.size) sCap e))
        (w.drew.alloc (.cells (olds.toArray ++ (strNews s).toArray ++ Builtin.zeroCells z.cells (grownCap w (sLen + s.size) sCap e - (sLen + s.size))) e)) := by
  have hn : ¬ (sLen + s.size ≤ sCap) := by omega
  have h63' : ¬ (9223372036854775807 < ((sLen : Int) + (s.size : Int))) := by omega
  have h48' : ¬ (281474976710656 < Builtin.nextslicecap (sLen + s.size) sCap * it.bytes) := by omega
  have hf := run_firstCells_str (P := P) (w := w.drew) it.size s
  have hfo := run_firstCells_some (P := P) w.drew it.size sLen b sLen sCap olds hlo (by simpa using holds)
  simp [Builtin.append_, run_underlying ht, run_underlying hu, sizeOf, typeInfo, zeroValue, hi, hz, Builtin.lenOf, hn, h63', h48', Question.forced, hf, hfo, newRow, grownCap]
  congr 2
  apply Array.ext'
  simp [List.append_assoc]

def killMem (s : St) (i : Nat) : St := { s with mem := s.mem.set i none }

theorem obj_kill {s : St} {i : Nat} {x : Ix} {o : LObj} (h : (killMem s i).obj x = some o) : s.obj x = some o ∧ x ≠ .mem i := by
  cases x with
  | loc t k => exact ⟨h, by simp⟩
  | mem j =>
    simp only [St.obj, killMem] at h
    by_cases e : i = j
    · subst e
      by_cases hl : i < s.mem.length
      · rw [List.getElem?_set_self hl] at h; simp at h
      · rw [List.getElem?_eq_none (by simpa using hl)] at h; simp at h
    · rw [List.getElem?_set_ne e] at h
      exact ⟨h, by simp; exact fun e' => e e'.symm⟩

theorem Inv.kill (h : Inv P G0 w0 G w s tv) (i : Nat) : Inv P G0 w0 G w (killMem s i) tv :=
  { h with
    obj := fun x o e => h.obj x o (obj_kill e).1
    mlen := fun j hj => h.mlen j (by simpa [killMem] using hj) }

/-- A row is written and gets a new number. -/
theorem Inv.moveRow (h : Inv P G0 w0 G w s tv) {i b : Nat} {ob : Obj} {o o' : LObj} {w' : World} (hx : s.obj (.mem i) = some o) (hb : G.mb i = some b) (hr : G.role b = (.obj (.mem i), some 0))
    (hw : Wrote b ob w w') (hnew : ∀ G', Le G w G' w' → G'.role b = (.obj (.mem s.mem.length), some 0) → ObjAt G' w' (.mem s.mem.length) b o') :
    ∃ G', Inv P G0 w0 G' w' (addMem (killMem s i) o') tv ∧ G'.mb s.mem.length = some b ∧ Le G w G' w' := by
  let G' : Gh := (G.newRole b (.obj (.mem s.mem.length), some 0)).addMem s.mem.length b
  have hrb : G'.role b = (.obj (.mem s.mem.length), some 0) := newRole_at _ _ _
  have hrn : ∀ b', b' ≠ b → G'.role b' = G.role b' := fun b' e => newRole_ne _ _ e
  have hmb : ∀ j c, G.mb j = some c → G'.mb j = some c := by
    intro j c e
    show (if j = s.mem.length then some b else G.mb j) = some c
    split
    · rename_i hh
      subst hh
      rw [h.mlen _ (Nat.le_refl _)] at e
      simp at e
    · exact e
  have hmn : G'.mb s.mem.length = some b := by show (if _ then _ else _) = _; simp
  have hle : Le G w G' w' := by
    refine ⟨fun b' k u hs hc => ?_, hmb, (hw.le (not_stable_obj hr)).shp⟩
    have hne : b' ≠ b := by rintro rfl; exact not_stable_obj hr k hs
    exact ⟨stable_of_role (hrn b' hne) hs, by rw [cell?_of_heap (hw.ne b' hne)]; exact hc⟩
  have hk : ∀ (b' : Nat), (G.role b').1 ≠ .obj (.mem i) → b' ≠ b := fun b' e eb => by subst eb; exact e (by rw [hr])
  have hcf : ∀ b', b' ≠ b → ∀ k, (∃ u, w.cell? ⟨b', k, none⟩ = some u) → w.frozen? ⟨b', k, none⟩ = false → (∃ u, w'.cell? ⟨b', k, none⟩ = some u) ∧ w'.frozen? ⟨b', k, none⟩ = false := by
    intro b' hne k h1 h2
    exact ⟨by rw [cell?_of_heap (hw.ne b' hne)]; exact h1, by rw [frozen?_of_heap (hw.ne b' hne)]; exact h2⟩
  have hs' : w.heap.size ≤ w'.heap.size := by rw [hw.size]; exact Nat.le_refl _
  refine ⟨G', ?_, hmn, hle⟩
  refine { os := hw.os.trans h.os, tape := hw.tape.trans h.tape, output := hw.output.trans h.output, size := by rw [hw.size]; exact h.size, tmp := fun t => (h.tmp t).mono hle (fun _ _ _ e => e), own := fun t => ?_, obj := fun y lo e => ?_, ext := fun b' hb' e => ?_, le := h.le.trans hle, mlen := fun j hj => ?_, llen := h.llen, glob := h.glob }
  · refine (h.own t).keep hs' fun b' c => ?_
    have hne := hk b' (by rw [(h.own t).role c]; simp)
    exact ⟨hrn b' hne, hcf b' hne⟩
  · by_cases hy : y = .mem s.mem.length
    · subst hy
      have e' : lo = o' := by
        simp only [St.obj, addMem, killMem] at e
        rw [List.getElem?_append_right (by simp)] at e
        simpa using e.symm
      subst e'
      obtain ⟨b', h1, h2, _⟩ := h.obj (.mem i) o hx
      have h1' : G.mb i = some b' := h1
      rw [hb] at h1'
      simp only [Option.some.injEq] at h1'
      subst h1'
      exact ⟨b, hmn, by rw [hw.size]; exact h2, hnew G' hle hrb⟩
    · have e1 : (killMem s i).obj y = some lo := by
        cases y with
        | loc t k => exact e
        | mem j =>
          have hj : j ≠ s.mem.length := fun e => hy (by rw [e])
          simp only [St.obj, addMem] at e ⊢
          by_cases hl : j < (killMem s i).mem.length
          · rwa [List.getElem?_append_left hl] at e
          · have hl' : s.mem.length ≤ j := by simpa [killMem] using hl
            rw [List.getElem?_eq_none (by simp [killMem]; omega)] at e
            simp at e
      obtain ⟨e2, hyi⟩ := obj_kill e1
      obtain ⟨by_, h1, h2, h3⟩ := h.obj y lo e2
      refine ⟨by_, ?_, by rw [hw.size]; exact h2, h3.keep hle hs' (fun e => ?_) fun j a v b' ho c => ?_⟩
      · cases y with
        | loc t k => exact h1
        | mem j => exact hmb j by_ h1
      · have hne := hk by_ (by rw [e]; simpa using hyi)
        exact ⟨hrn _ hne, hw.ne _ hne⟩
      · have hne := hk b' (by rw [ho.role c]; simp)
        exact ⟨hrn _ hne, hcf b' hne⟩
  · obtain ⟨k1, k2⟩ := h.ext b' hb' e
    have hne := hk b' (by rw [k2, e]; simp)
    exact ⟨(hw.ne b' hne).trans k1, (hrn _ hne).trans k2⟩
  · have hj' : s.mem.length + 1 ≤ j := by simpa [addMem, killMem] using hj
    show (if j = s.mem.length then some b else G.mb j) = none
    rw [if_neg (by omega)]
    exact h.mlen j (by omega)

theorem does_newO (hI : Inv P G0 w0 G w s tv) {cs : List AV} {arr : Array Value} {T : TypeId} {w1 : World} {z n cap : Nat} (hd : Drawn w w1) (hcap : n ≤ cap) (hl : cs.length ≤ arr.size) (hcz : cap * z ≤ arr.size)
    (hr : ∀ (j : Nat) (h1 : j < cs.length) (h2 : j < arr.size), Rep G w cs[j] arr[j]) (hn : ∀ a ∈ cs, notOwn a)
    (hrun : (execOp ρ o).run P w = .ok (.value (.slice (some ⟨w.heap.size, 0, none⟩) n cap)) (w1.alloc (.cells arr T (0, 0)))) :
    Does P ρ o G0 w0 w tv d (.orow z s.mem.length n) (addMem s (.cells false cs)) := by
  obtain ⟨G', h1, h2, _⟩ := (hI.newObj hd (.cells arr T (0, 0)) true d (.cells false cs) (fun G' x l hro hh _ =>
    ⟨hro, arr, T, _, hh, .inl rfl, hl, fun j h1 h2 => ⟨(hr j h1 h2).mono l, OwnAt.of_notOwn (hn _ (List.getElem_mem h1))⟩⟩)).2 rfl
  have hat : (w1.alloc (.cells arr T (0, 0))).heap[w.heap.size]? = some (.cells arr T (0, 0)) := heap_alloc_at _ _ (by rw [hd.heap])
  refine ⟨_, _, G', .inl hrun, h1, .of (.orow z s.mem.length n w.heap.size cap h2 hcap fun k hk => ?_), OwnAt.of_notOwn trivial⟩
  have hk' : k < arr.size := by omega
  exact ⟨arr[k], by simp only [World.cell?, hat]; exact Array.getElem?_eq_getElem hk'⟩

theorem does_appO {c : Call} {a x : Operand} {t u e : TypeId} {it : TypeInfo} {zv : Value} {av r : AV} {m : Mem} {ys : List AV} {news : List Value} (hI : Inv P G0 w0 G w s tv) (ho : o.op = .call c) (hc1 : c.callee = .builtin .append) (hc2 : c.args = #[a, x]) (hc3 : c.argTypes = #[t, u])
    (hzs : zv.cells.size = it.size) (hra : RepT G w av (ρ a)) (hnl : news.length = ys.length * it.size) (hnrep : RepL G w (flat ys) news)
    (Rnil : ys.length * it.bytes ≤ 140737488355328 → 0 < it.bytes → 0 < ys.length → ρ a = .slice none 0 0 → (Builtin.append_ #[t, u] o.type #[ρ a, ρ x]).run P w =
      .ok (.slice (some ⟨w.heap.size, 0, none⟩) ys.length (grownCap w ys.length 0 e)) (w.drew.alloc (.cells (news.toArray ++ Builtin.zeroCells zv.cells (grownCap w ys.length 0 e - ys.length)) e)))
    (Rfit : ∀ (b len cap : Nat) (arr : Array Value) (T : TypeId) (fr : Nat × Nat), ρ a = .slice (some ⟨b, 0, none⟩) len cap → FrOk fr arr.size → len + ys.length ≤ cap → w.heap[b]? = some (.cells arr T fr) → len * it.size + news.length ≤ arr.size →
      (Builtin.append_ #[t, u] o.type #[ρ a, ρ x]).run P w = .ok (.slice (some ⟨b, 0, none⟩) (len + ys.length) cap) (w.setRow b (arr.toList.take (len * it.size) ++ news ++ arr.toList.drop (len * it.size + news.length)).toArray))
    (Rgrow : ∀ (a0 : Addr) (len cap : Nat) (olds : List Value), ρ a = .slice (some a0) len cap → olds.length = len * it.size → (∀ j v, olds[j]? = some v → w.cell? (Addr.add a0 j) = some v) → cap < len + ys.length → (len + ys.length) * it.bytes ≤ 140737488355328 → 0 < it.bytes →
      (Builtin.append_ #[t, u] o.type #[ρ a, ρ x]).run P w = .ok (.slice (some ⟨w.heap.size, 0, none⟩) (len + ys.length) (grownCap w (len + ys.length) cap e))
        (w.drew.alloc (.cells (olds.toArray ++ news.toArray ++ Builtin.zeroCells zv.cells (grownCap w (len + ys.length) cap e - (len + ys.length))) e)))
    (hap : appO it.size it.bytes s.mem av ys = some (r, m)) : Does P ρ o G0 w0 w tv d r { s with mem := m } := by
  have hzz : ∀ k, (Builtin.zeroCells zv.cells k).size = k * it.size := by intro k; simp [Builtin.zeroCells, hzs]
  cases av with
  | vec ow nn xs =>
    cases nn with
    | true => simp [appO] at hap
    | false =>
    simp only [appO] at hap
    split at hap
    · rename_i hcnd
      obtain ⟨hne, hb0, hbb⟩ := hcnd
      simp only [Option.some.injEq, Prod.mk.injEq] at hap
      obtain ⟨rfl, rfl⟩ := hap
      have hne' : ys ≠ [] := by simpa using hne
      have hn0 : 0 < ys.length := List.length_pos_iff.2 hne'
      have hv2 := hnrep.view
      rcases hra.vec_inv with ⟨_, _, e1⟩ | ⟨_, _, _, _, _, h0, _⟩ | ⟨_, h0, _⟩
      rotate_left 2
      · simp at h0
      · have hrun := Rnil hbb hb0 hn0 e1
        have hge := grownCap_ge w ys.length 0 e
        have hsz : (news.toArray ++ Builtin.zeroCells zv.cells (grownCap w ys.length 0 e - ys.length)).size = grownCap w ys.length 0 e * it.size := by
          simp only [Array.size_append, List.size_toArray, hzz, hnl]
          rw [← Nat.add_mul]
          congr 1
          omega
        refine does_newO (P := P) (ρ := ρ) (o := o) (d := d) hI (cs := (flat ys).map AV.view) (z := it.size) (T := e)
          (Drawn.drew w) hge (by rw [hv2.1]; simp) (by rw [hsz]; exact Nat.le_refl _) (fun j h1 h2 => ?_) (fun a ha => by simp only [List.mem_map] at ha; obtain ⟨b, _, rfl⟩ := ha; exact notOwn_view b) (builtin_append_run ho hc1 hc2 hc3 hrun)
        have j3 : j < news.length := by rw [← hv2.1]; exact h1
        refine hv2.2 j _ _ (List.getElem?_eq_getElem h1) ?_
        rw [Array.getElem_append_left (by simpa using j3)]
        simp
      · simp at h0
    · simp at hap
  | zcap nz =>
    simp only [appO] at hap
    split at hap
    · rename_i hcnd
      obtain ⟨hne, hb0, hbb⟩ := hcnd
      simp only [Option.some.injEq, Prod.mk.injEq] at hap
      obtain ⟨rfl, rfl⟩ := hap
      have hne' : ys ≠ [] := by simpa using hne
      have hn0 : 0 < ys.length := List.length_pos_iff.2 hne'
      have hv2 := hnrep.view
      have hrun : (Builtin.append_ #[t, u] o.type #[ρ a, ρ x]).run P w =
          .ok (.slice (some ⟨w.heap.size, 0, none⟩) ys.length (grownCap w ys.length 0 e)) (w.drew.alloc (.cells (news.toArray ++ Builtin.zeroCells zv.cells (grownCap w ys.length 0 e - ys.length)) e)) := by
        rcases hra.zcap_inv with ⟨_, e1⟩ | ⟨a0, _, e1⟩
        · exact Rnil hbb hb0 hn0 e1
        · have := Rgrow a0 0 0 [] e1 (by simp) (by simp) (by omega) (by rw [Nat.zero_add]; exact hbb) hb0
          simpa using this
      have hge := grownCap_ge w ys.length 0 e
      have hsz : (news.toArray ++ Builtin.zeroCells zv.cells (grownCap w ys.length 0 e - ys.length)).size = grownCap w ys.length 0 e * it.size := by
        simp only [Array.size_append, List.size_toArray, hzz, hnl]
        rw [← Nat.add_mul]
        congr 1
        omega
      refine does_newO (P := P) (ρ := ρ) (o := o) (d := d) hI (cs := (flat ys).map AV.view) (z := it.size) (T := e)
        (Drawn.drew w) hge (by rw [hv2.1]; simp) (by rw [hsz]; exact Nat.le_refl _) (fun j h1 h2 => ?_) (fun a ha => by simp only [List.mem_map] at ha; obtain ⟨b, _, rfl⟩ := ha; exact notOwn_view b) (builtin_append_run ho hc1 hc2 hc3 hrun)
      have j3 : j < news.length := by rw [← hv2.1]; exact h1
      refine hv2.2 j _ _ (List.getElem?_eq_getElem h1) ?_
      rw [Array.getElem_append_left (by simpa using j3)]
      simp
    · simp at hap
  | orow z i len =>
    simp only [appO] at hap
    obtain ⟨b, cap, hb, e1, hcap, hcells⟩ := hra.orow_inv
    split at hap
    · rename_i cs hobj
      split at hap
      · rename_i hcnd
        obtain ⟨rfl, hne, hcl, hb0, hbb⟩ := hcnd
        simp only [Option.some.injEq, Prod.mk.injEq] at hap
        obtain ⟨rfl, rfl⟩ := hap
        have hobj' : s.obj (.mem i) = some (.cells false cs) := by simp [St.obj, hobj]
        have hne' : ys ≠ [] := by simpa using hne
        have hn0 : 0 < ys.length := List.length_pos_iff.2 hne'
        obtain ⟨b', hb', hlt, hat⟩ := hI.obj _ _ hobj'
        have hbb' : b = b' := by
          have : G.mb i = some b' := hb'
          rw [hb] at this
          simpa using this
        subst hbb'
        obtain ⟨hrole, arr, T, fr, hh, hfr, hl, hcell⟩ := objAt_inv hat
        have holdR : ∀ (j : Nat) (h1 : j < cs.length) (h2 : j < arr.size), Rep G w cs[j] arr[j] := fun j h1 h2 => (hcell j h1 h2).1
        have hold : RepL G w (cs.take (len * it.size)) (arr.toList.take (len * it.size)) := by
          refine ⟨by simp; omega, fun j a v ha hv => ?_⟩
          rw [List.getElem?_take] at ha hv
          split at hv
          · rename_i hj
            rw [if_pos hj] at ha
            obtain ⟨h1, rfl⟩ := List.getElem?_eq_some_iff.1 ha
            have h2 : j < arr.size := by omega
            rw [List.getElem?_eq_getElem (by simpa using h2)] at hv
            simp only [Option.some.injEq, Array.getElem_toList] at hv
            subst hv
            exact holdR j h1 h2
          · simp at hv
        have hall := (hold.append hnrep).view
        have hno : ∀ a ∈ (cs.take (len * it.size) ++ flat ys).map AV.view, notOwn a := fun a ha => by simp only [List.mem_map] at ha; obtain ⟨b, _, rfl⟩ := ha; exact notOwn_view b
        have hfl : (flat ys).length = news.length := hnrep.1
        by_cases hroom : len + ys.length ≤ cap
        · have hcz : len * it.size + news.length ≤ cap * it.size := by
            rw [hnl, ← Nat.add_mul]
            exact Nat.mul_le_mul_right _ hroom
          have hfit : len * it.size + news.length ≤ arr.size := by
            have hq : 0 < news.length ∨ news.length = 0 := by omega
            rcases hq with hq | hq
            · obtain ⟨u, hu⟩ := hcells (len * it.size + news.length - 1) (by omega)
              simp only [World.cell?, hh] at hu
              have := (Array.getElem?_eq_some_iff.1 hu).1
              omega
            · omega
          have hrun := Rfit b len cap arr T fr e1 hfr hroom hh hfit
          have hsz2 : (arr.toList.take (len * it.size) ++ news ++ arr.toList.drop (len * it.size + news.length)).toArray.size = arr.size := by simp; omega
          have hw := setRow_wrote w (cs := (arr.toList.take (len * it.size) ++ news ++ arr.toList.drop (len * it.size + news.length)).toArray) hh hsz2.symm
          obtain ⟨G', i2, hm2, l2⟩ := hI.moveRow (o' := .cells false ((cs.take (len * it.size) ++ flat ys).map AV.view)) hobj' hb hrole hw (fun G' l hro => by
            refine ⟨hro, _, T, fr, hw.at_, by rw [hsz2]; exact hfr, by rw [hsz2]; simp; omega, fun j h1 h2 => ⟨?_, OwnAt.of_notOwn (hno _ (List.getElem_mem h1))⟩⟩
            refine (hall.2 j _ _ (List.getElem?_eq_getElem h1) ?_).mono l
            have h1' : j < (cs.take (len * it.size) ++ flat ys).length := by simpa using h1
            have h3 : j < (arr.toList.take (len * it.size) ++ news).length := by simp; simp at h1'; omega
            simp only [List.getElem_toArray]
            rw [List.getElem?_eq_getElem h3, List.getElem_append_left h3])
          exact ⟨_, _, G', .inl (builtin_append_run ho hc1 hc2 hc3 hrun), i2, .of (.orow _ _ _ b cap hm2 hroom fun k hk => l2.ex b k (hcells k hk)), OwnAt.of_notOwn trivial⟩
        · have hrun := Rgrow ⟨b, 0, none⟩ len cap (arr.toList.take (len * it.size)) e1 (by simp; omega)
            (fun j v hj => by
              rw [List.getElem?_take] at hj
              split at hj
              · rw [add_off]
                simp only [World.cell?, hh, Nat.zero_add]
                simpa using hj
              · simp at hj)
            (by omega) hbb hb0
          have hge := grownCap_ge w (len + ys.length) cap e
          have hsz : ((arr.toList.take (len * it.size)).toArray ++ news.toArray ++ Builtin.zeroCells zv.cells (grownCap w (len + ys.length) cap e - (len + ys.length))).size = grownCap w (len + ys.length) cap e * it.size := by
            simp only [Array.size_append, List.size_toArray, hzz, hnl]
            have : (arr.toList.take (len * it.size)).length = len * it.size := by simp; omega
            rw [this, ← Nat.add_mul, ← Nat.add_mul]
            congr 1
            omega
          have key := does_newO (P := P) (ρ := ρ) (o := o) (d := d) (hI.kill i) (cs := (cs.take (len * it.size) ++ flat ys).map AV.view) (z := it.size) (T := e)
            (Drawn.drew w) hge (by rw [hall.1]; simp) (by rw [hsz]; exact Nat.le_refl _) (fun j h1 h2 => by
              have j3 : j < (arr.toList.take (len * it.size) ++ news).length := by rw [← hall.1]; exact h1
              refine hall.2 j _ _ (List.getElem?_eq_getElem h1) ?_
              have e3 : (arr.toList.take (len * it.size)).toArray ++ news.toArray = (arr.toList.take (len * it.size) ++ news).toArray := by simp
              rw [List.getElem?_eq_getElem j3]
              simp only [e3]
              rw [Array.getElem_append_left (by simpa using j3)]
              simp) hno (builtin_append_run ho hc1 hc2 hc3 hrun)
          have hml : (killMem s i).mem.length = s.mem.length := by simp [killMem]
          rw [hml] at key
          exact key
      · simp at hap
    · simp at hap
  | _ => simp [appO] at hap

theorem appO_nil {esz bytes : Nat} {m : Mem} {a : AV} : appO esz bytes m a [] = none := by
  unfold appO
  split
  · simp
  · simp
  · split <;> simp
  · rfl

theorem does_appendO {c : Call} {a x : Operand} {a' x' : VO} {t e : TypeId} {it : TypeInfo} {zv : Value} {r : AV} {s' : St} (hI : Inv P G0 w0 G w s tv) (ho : o.op = .call c) (hc1 : c.callee = .builtin .append) (hc2 : c.args = #[a, x]) (hc3 : c.argTypes = #[t, t])
    (ht : P.underlying t = some (.slice e)) (hi : P.info? e = some it) (hz : it.zero = some zv) (hzs : zv.cells.size = it.size) (ha : trO P a = some a') (hx : trO P x = some x') (he : OkEv P G w s.ev ρ)
    (hex : exec d (.appendO it.size it.bytes a' x') s = some (r, s')) : Does P ρ o G0 w0 w tv d r s' := by
  have hra := he _ _ ha
  have hrx := he _ _ hx
  simp only [exec] at hex
  split at hex
  · rename_i ys hys
    split at hex
    · rename_i v m hap
      simp only [Option.some.injEq, Prod.mk.injEq] at hex
      obtain ⟨rfl, rfl⟩ := hex
      obtain ⟨hysz, hyv, hyf⟩ := elems_vals hrx hys
      rcases hyv with h0 | ⟨b2, off2, cap2, news, ey, hnl, hncell, hnrep, hnone⟩
      · subst h0; rw [appO_nil] at hap; simp at hap
      have small : ∀ n : Nat, n * it.bytes ≤ 140737488355328 → 0 < it.bytes → n ≤ 140737488355328 := fun n h1 h2 => by
        have : n * 1 ≤ n * it.bytes := Nat.mul_le_mul_left _ h2
        omega
      refine does_appO (e := e) hI ho hc1 hc2 hc3 hzs hra hnl hnrep (fun hbb hb0 hn0 e1 => ?_) (fun b len cap arr T fr e1 hfr hroom hh hfit => ?_) (fun b len cap olds e1 h1 h2 h3 hbb hb0 => ?_) hap
      · have := small _ hbb hb0
        rw [e1, ey]
        exact run_append_nil (P := P) w t o.type e it zv ht hi hz ⟨b2, off2, none⟩ ys.length cap2 news hnl hncell hn0 (by omega) (by omega)
      · rw [e1, ey]
        exact append_fits_row (P := P) o.type ht hi b len cap ⟨b2, off2, none⟩ ys.length cap2 news arr T fr hnl hncell hroom hh hfr hfit hnone
      · have := small _ hbb hb0
        rw [e1, ey]
        exact run_append_grow (P := P) w t o.type e it zv ht hi hz b len cap olds h1 h2 ⟨b2, off2, none⟩ ys.length cap2 news hnl hncell h3 (by omega) (growslice_fits (by omega) hbb)
    · simp at hex
  · simp at hex

theorem does_appStr {c : Call} {a x : Operand} {a' x' : VO} {t u e : TypeId} {it : TypeInfo} {zv : Value} {r : AV} {s' : St} (hI : Inv P G0 w0 G w s tv) (ho : o.op = .call c) (hc1 : c.callee = .builtin .append) (hc2 : c.args = #[a, x]) (hc3 : c.argTypes = #[t, u])
    (ht : P.underlying t = some (.slice e)) (hu : P.underlying u = some .string) (hi : P.info? e = some it) (hz : it.zero = some zv) (hzs : zv.cells.size = it.size) (h1 : it.size = 1) (ha : trO P a = some a') (hx : trO P x = some x') (he : OkEv P G w s.ev ρ)
    (hex : exec d (.appStr it.bytes a' x') s = some (r, s')) : Does P ρ o G0 w0 w tv d r s' := by
  have hra := he _ _ ha
  have hrx := he _ _ hx
  simp only [exec] at hex
  split at hex
  · rename_i bs hv
    rw [hv] at hrx
    obtain ⟨y, ey, rfl⟩ := hrx.str_inv
    have hys : y.data.toList.length = y.size := Array.length_toList
    split at hex
    · rename_i v m hap
      simp only [Option.some.injEq, Prod.mk.injEq] at hex
      obtain ⟨rfl, rfl⟩ := hex
      unfold appS at hap
      split at hap
      · rename_i hnil
        have h0 : y.size = 0 := by rw [← hys, hnil]; rfl
        split at hap
        · rename_i ow xs hav
          simp only [Option.some.injEq, Prod.mk.injEq] at hap
          obtain ⟨rfl, rfl⟩ := hap
          rw [hav] at hra
          rcases hra.vec_inv with ⟨_, _, e1⟩ | ⟨_, _, _, _, _, h0, _⟩ | ⟨_, h0, _⟩
          rotate_left 2
          · simp at h0
          · have hrun := append_none_str (P := P) (w := w) o.type ht hu hi none 0 0 (Nat.le_refl _) y h0
            rw [← e1, ← ey] at hrun
            exact ⟨_, w, G, .inl (builtin_append_run ho hc1 hc2 hc3 hrun), hI, by rw [e1]; exact .of (.nilvec _), OwnAt.of_notOwn trivial⟩
          · simp at h0
        · rename_i z i len hav
          simp only [Option.some.injEq, Prod.mk.injEq] at hap
          obtain ⟨rfl, rfl⟩ := hap
          rw [hav] at hra
          obtain ⟨b, cap, hb, e1, hcap, hcells⟩ := hra.orow_inv
          have hrun := append_none_str (P := P) (w := w) o.type ht hu hi (some ⟨b, 0, none⟩) len cap hcap y h0
          rw [← e1, ← ey] at hrun
          exact ⟨_, w, G, .inl (builtin_append_run ho hc1 hc2 hc3 hrun), hI, hra, OwnAt.of_notOwn trivial⟩
        · simp at hap
      · have hlen : (y.data.toList.map fun b => AV.int .u8 b.toNat).length = y.size := by rw [List.length_map]; exact hys
        have hap' : appO it.size it.bytes s.mem (s.ev a') (y.data.toList.map fun b => AV.int .u8 b.toNat) = some (v, m) := by rw [h1]; exact hap
        have small : ∀ n : Nat, n * it.bytes ≤ 140737488355328 → 0 < it.bytes → n ≤ 140737488355328 := fun n h1 h2 => by
          have : n * 1 ≤ n * it.bytes := Nat.mul_le_mul_left _ h2
          omega
        refine does_appO (news := strNews y) (e := e) (zv := zv) hI ho hc1 hc2 hc3 hzs hra (by rw [strNews_len, hlen, h1, Nat.mul_one]) ?_ (fun hbb hb0 hn0 e1 => ?_) (fun b len cap arr T fr e1 hfr hroom hh hfit => ?_) (fun b len cap olds e1 h2 h3 h4 hbb hb0 => ?_) hap'
        · rw [flat_ints]
          refine ⟨by simp [strNews], fun j a v ha hv => ?_⟩
          simp only [strNews, List.getElem?_map] at ha hv
          cases hj : y.data.toList[j]? with
          | none => rw [hj] at ha; simp at ha
          | some q =>
            rw [hj] at ha hv
            simp only [Option.map_some, Option.some.injEq] at ha hv
            subst ha; subst hv
            exact .int _ _
        · rw [hlen] at hbb hn0 ⊢
          have := small _ hbb hb0
          rw [e1, ey]
          exact append_nil_str (P := P) (w := w) o.type ht hu hi hz y hn0 (by omega) (by omega)
        · rw [hlen] at hroom ⊢
          rw [e1, ey]
          exact append_fits_str (P := P) (w := w) o.type ht hu hi b len cap y arr T fr hroom hh hfr hfit
        · rw [hlen] at h4 hbb ⊢
          have := small _ hbb hb0
          rw [e1, ey]
          exact append_grow_str (P := P) (w := w) o.type ht hu hi hz b len cap olds h2 h3 y h4 (by omega) (growslice_fits (by omega) hbb)
    · simp at hex
  · simp at hex

theorem does_strOfM {src dst e : TypeId} {x : Operand} {x' : VO} {r : AV} {s' : St} (hI : Inv P G0 w0 G w s tv) (ho : o.op = .convert src dst x) (hs : P.underlying src = some (.slice e))
    (hd : P.underlying dst = some .string) (hel : P.underlying e = some (.int .u8)) (hx : trO P x = some x') (he : OkEv P G w s.ev ρ) (hex : exec d (.strOfM x') s = some (r, s')) : Does P ρ o G0 w0 w tv d r s' := by
  have hrx := he _ _ hx
  simp only [exec] at hex
  split at hex
  · rename_i ix off len hv
    rw [hv] at hrx
    obtain ⟨b, cap, hb, e1, hcap⟩ := hrx.row_inv
    split at hex
    · rename_i cs hcs
      split at hex
      · rename_i hle
        split at hex
        · rename_i bs hbs
          simp only [Option.some.injEq, Prod.mk.injEq] at hex
          obtain ⟨rfl, rfl⟩ := hex
          obtain ⟨ns, hns, rfl⟩ := bytesV_inv _ _ hbs
          have hnl : ns.length = len := by
            have := congrArg List.length hns
            simp at this; omega
          unfold objCells at hcs
          split at hcs
          · rename_i fz cs' hobj
            split at hcs
            · simp only [Option.some.injEq] at hcs
              subst hcs
              obtain ⟨b', hb', _, hat⟩ := hI.obj _ _ hobj
              rw [hb] at hb'
              simp only [Option.some.injEq] at hb'
              subst hb'
              have hcells : ∃ vals : Nat → Value, ∀ (j : Nat) (h : j < cs'.length), w.cell? ⟨b, j, none⟩ = some (vals j) ∧ Rep G w cs'[j] (vals j) := by
                cases fz
                · obtain ⟨_, arr, T, fr, h2, _, h3, h4⟩ := hat
                  refine ⟨fun j => arr.getD j undef, fun j hj => ?_⟩
                  have hj2 : j < arr.size := by omega
                  have := (h4 j hj hj2).1
                  exact ⟨by simp [World.cell?, h2, hj2], by simpa [hj2] using this⟩
                · obtain ⟨vals, h4⟩ := hat
                  exact ⟨vals, fun j hj => (h4 j hj).2⟩
              obtain ⟨vals, c1⟩ := hcells
              have hrun : (convert src dst (ρ x)).run P w = .ok (.string (strOfNums ns)) w := by
                rw [e1, ← hnl]
                refine run_convert_bytes_arg w src e hs hel b off ns.length cap ns rfl (fun i hi => ?_) dst hd
                have hj : off + i < cs'.length := by omega
                obtain ⟨k1, k2⟩ := c1 (off + i) hj
                have hq : ((cs'.drop off).take len)[i]? = (ns.map (AV.int .u8))[i]? := by rw [hns]
                rw [List.getElem?_take, if_pos (by omega), List.getElem?_drop, List.getElem?_eq_getElem hj, List.getElem?_map, List.getElem?_eq_getElem hi] at hq
                simp only [Option.map_some, Option.some.injEq] at hq
                rw [hq] at k2
                rw [k1]
                generalize vals (off + i) = u at k2
                cases k2
                simp [List.getD, hi]
              refine ⟨_, w, G, .inl ?_, hI, .of (.str (strOfNums ns)), OwnAt.of_notOwn trivial⟩
              simp only [execOp, ho, Sem.run_bind, hrun, Result.andThen_ok, Sem.run_pure]
            · simp at hcs
          · simp at hcs
        · simp at hex
      · simp at hex
    · simp at hex
  · rename_i ow nn xs hv
    split at hex
    · rename_i bs hbs
      simp only [Option.some.injEq, Prod.mk.injEq] at hex
      obtain ⟨rfl, rfl⟩ := hex
      obtain ⟨u, w', G', h1, h2, h3, h4⟩ := pure_strOf (P := P) (ρ := ρ) (o := o) (G := G) (w := w) (d := d) (ev := s.ev) (r := .str bs) ho hs hd hel hx (by simp only [pval, hv, hbs]) he
      exact ⟨u, w', G', .inl h1, hI.grow h2, h3, h4⟩
    · simp at hex
  · simp at hex

theorem does_bytesObj {src dst e : TypeId} {x : Operand} {x' : VO} {heap : Bool} {r : AV} {s' : St} (hI : Inv P G0 w0 G w s tv) (ho : o.op = .convert src dst x) (hs : P.underlying src = some .string)
    (hd : P.underlying dst = some (.slice e)) (hel : P.underlying e = some (.int .u8)) (hx : trO P x = some x') (he : OkEv P G w s.ev ρ) (hex : exec d (.bytesObj heap x') s = some (r, s')) : Does P ρ o G0 w0 w tv d r s' := by
  have hrx := he _ _ hx
  simp only [exec] at hex
  split at hex
  · rename_i bs hv
    rw [hv] at hrx
    obtain ⟨y, ey, rfl⟩ := hrx.str_inv
    have hys : y.data.toList.length = y.size := Array.length_toList
    have hrun := run_bytes_of_string (P := P) w src dst e y hs hd hel
    rw [← ey] at hrun
    have hcap : y.size ≤ grownCap w y.size 0 e := grownCap_ge w y.size 0 e
    have key := does_newRow (P := P) (ρ := ρ) (o := o) (d := d) hI (heap := heap) (cs := y.data.toList.map fun b => AV.int .u8 b.toNat) (arr := bytesRow y (grownCap w y.size 0 e)) (T := e) (fr := ((bytesRow y (grownCap w y.size 0 e)).size, (bytesRow y (grownCap w y.size 0 e)).size + 1)) (n := y.size) (Drawn.drew w) hcap (.inr (Nat.le_refl _)) (by simp [bytesRow])
      (fun j h1 h2 => by
        simp at h1
        simp [bytesRow, h1]
        exact .int _ _) (fun a ha => by simp only [List.mem_map] at ha; obtain ⟨b, _, rfl⟩ := ha; trivial)
      (by simp only [execOp, ho, Sem.run_bind, hrun, Result.andThen_ok, Sem.run_pure])
    rw [hys] at hex
    split at hex
    · rename_i hb
      simp only [Option.some.injEq, Prod.mk.injEq] at hex
      obtain ⟨rfl, rfl⟩ := hex
      exact key.1 hb
    · rename_i hb
      simp only [Option.some.injEq, Prod.mk.injEq] at hex
      obtain ⟨rfl, rfl⟩ := hex
      exact key.2 (by simpa using hb)
  · simp at hex

end
end Go.Vm
/- Maps. -/
namespace Go.Vm

/-- Keys whose sameness is told at once. -/
def keyKind (P : Program) (t : TypeId) : Option Nat := match P.underlying t with
  | some (.int _) => some 0
  | some .string => some 1
  | some .bool => some 2
  | _ => none

section
variable {P : Program} {G : Gh} {w : World}
theorem keySame_rep {kd : Nat} {kt : TypeId} {desc : TypeDesc} (hd : P.underlying kt = some desc) (hk : keyKind P kt = some kd) {a b : AV} {x y : Value} (ha : Rep G w a x) (hb : Rep G w b y) {r : Bool} (h : keySame kd a b = some r) : Instr.sameNow desc x y = some r ∧ (r = true → a = b ∧ x = y) := by
  unfold keyKind at hk
  rw [hd] at hk
  unfold keySame at h
  split at h
  · cases ha; cases hb
    cases desc <;> simp at hk
    split at h
    · rename_i hkk
      simp only [Option.some.injEq] at h
      subst hkk; subst h
      exact ⟨by simp [Instr.sameNow], fun h => by simp at h; subst h; exact ⟨rfl, rfl⟩⟩
    · simp at h
  · cases ha; cases hb
    cases desc <;> simp at hk
    rename_i sa sb
    simp only [Option.some.injEq] at h
    subst h
    have e : (sa == sb) = (sa.data.toList == sb.data.toList) := by rw [beq_toListBytes, ByteArray.toList_eq, ByteArray.toList_eq]
    refine ⟨by simp only [Instr.sameNow, e], fun h => ?_⟩
    have h1 : sa.data.toList = sb.data.toList := by simpa using h
    have : sa = sb := by cases sa; cases sb; simpa using h1
    subst this
    exact ⟨rfl, rfl⟩
  · cases ha; cases hb
    cases desc <;> simp at hk
    simp only [Option.some.injEq] at h
    subst h
    exact ⟨by simp [Instr.sameNow], fun h => by simp at h; subst h; exact ⟨rfl, rfl⟩⟩
  · simp at h
/-- The entries stand for the pairs. -/
def MpAt (G : Gh) (w : World) (kvs : List (AV × AV)) (es : List MapEntry) : Prop := es.length = kvs.length ∧ ∀ (j : Nat) (h1 : j < kvs.length) (h2 : j < es.length), Rep G w kvs[j].1 es[j].key ∧ Rep G w kvs[j].2 es[j].val
theorem mfind_rep {kd : Nat} {kt : TypeId} {desc : TypeDesc} (hd : P.underlying kt = some desc) (hk : keyKind P kt = some kd) {a : AV} {x : Value} (ha : Rep G w a x) : ∀ (kvs : List (AV × AV)) (es : List MapEntry) (i : Nat), MpAt G w kvs es →
    ∀ r, mfindI kd a kvs i = some r → (r = none → Instr.findNow desc x es i = some none) ∧ ∀ j v, r = some (j, v) → ∃ k e, j = i + k ∧ k < kvs.length ∧ es[k]? = some e ∧ e.key = x ∧ kvs[k]? = some (a, v) ∧ Rep G w v e.val ∧ Instr.findNow desc x es i = some (some (j, e.val))
  | [], es, i, h, r, hr => by
    have : es = [] := List.eq_nil_of_length_eq_zero h.1
    subst this
    simp only [mfindI, Option.some.injEq] at hr
    subst hr
    exact ⟨fun _ => rfl, fun j v e => by simp at e⟩
  | p :: kvs, [], i, h, r, hr => by simp [MpAt] at h
  | p :: kvs, e :: es, i, h, r, hr => by
    have h0 := h.2 0 (by simp) (by simp)
    simp only [List.getElem_cons_zero] at h0
    have ht : MpAt G w kvs es := ⟨by simpa using h.1, fun j h1 h2 => by
      have := h.2 (j + 1) (by simpa using h1) (by simpa using h2)
      simp only [List.getElem_cons_succ] at this
      exact this⟩
    simp only [mfindI] at hr
    split at hr
    · rename_i hs
      obtain ⟨k1, k2⟩ := keySame_rep hd hk ha h0.1 hs
      obtain ⟨k3, k4⟩ := k2 rfl
      simp only [Option.some.injEq] at hr
      subst hr
      refine ⟨fun h => by simp at h, fun j v hv => ?_⟩
      simp only [Option.some.injEq, Prod.mk.injEq] at hv
      obtain ⟨rfl, rfl⟩ := hv
      exact ⟨0, e, rfl, by simp, rfl, k4.symm, by simp [k3], h0.2, by simp [Instr.findNow, k1]⟩
    · rename_i hs
      obtain ⟨k1, _⟩ := keySame_rep hd hk ha h0.1 hs
      obtain ⟨r1, r2⟩ := mfind_rep hd hk ha kvs es (i + 1) ht r hr
      refine ⟨fun h => by simp only [Instr.findNow, k1]; exact r1 h, fun j v hv => ?_⟩
      obtain ⟨k, e', rfl, q1, q2, q3, q4, q5, q6⟩ := r2 j v hv
      exact ⟨k + 1, e', by omega, by simp; omega, by simpa using q2, q3, by simpa using q4, q5, by simp only [Instr.findNow, k1]; exact q6⟩
    · simp at hr
theorem mfind_kind {kd : Nat} {a : AV} : ∀ (kvs : List (AV × AV)) (i : Nat) {jv : Nat × AV}, mfindI kd a kvs i = some (some jv) → (∃ k n, a = .int k n) ∨ (∃ l, a = .str l) ∨ ∃ b, a = .bool b
  | [], i, jv, h => by simp [mfindI] at h
  | p :: kvs, i, jv, h => by
    have hk : ∀ r, keySame kd a p.1 = some r → (∃ k n, a = .int k n) ∨ (∃ l, a = .str l) ∨ ∃ b, a = .bool b := by
      intro r hr
      unfold keySame at hr
      split at hr
      · exact .inl ⟨_, _, rfl⟩
      · exact .inr (.inl ⟨_, rfl⟩)
      · exact .inr (.inr ⟨_, rfl⟩)
      · simp at hr
    simp only [mfindI] at h
    split at h
    · rename_i hs; exact hk _ hs
    · rename_i hs; exact hk _ hs
    · simp at h
theorem same_bits {a : AV} {x : Value} (h : Rep G w a x) (hk : (∃ k n, a = .int k n) ∨ (∃ l, a = .str l) ∨ ∃ b, a = .bool b) : Instr.sameBits 10000 x x = true := by
  rcases hk with ⟨k, n, rfl⟩ | ⟨l, rfl⟩ | ⟨b, rfl⟩
  · cases h; simp [Instr.sameBits]
  · cases h
    rename_i s
    simp only [Instr.sameBits, beq_toListBytes, beq_self_eq_true]
  · cases h; simp [Instr.sameBits]
theorem RepT.mapr_inv {i : Nat} {v : Value} (h : RepT G w (.mapr i) v) : ∃ b, G.mb i = some b ∧ v = .map (some b) := by
  cases h with | of h => cases h with | mapr i b hb => exact ⟨b, hb, rfl⟩
theorem RepT.nilmap_inv {v : Value} (h : RepT G w .nilmap v) : v = .map none := by
  cases h with | of h => cases h; rfl
theorem repT_key {kd : Nat} {a : AV} {x : Value} {kvs : List (AV × AV)} {r : Option (Nat × AV)} (h : RepT G w a x) (hf : mfind kd a kvs = some r) : Rep G w a x ∨ r = none ∧ kvs = [] := by
  cases h with
  | of h => exact .inl h
  | lptr t k off b hb =>
    cases kvs with
    | nil => simp only [mfind, mfindI, Option.some.injEq] at hf; exact .inr ⟨hf.symm, rfl⟩
    | cons p kvs => simp [mfind, mfindI, keySame] at hf
  | lrow t k off len b cap hb hc =>
    cases kvs with
    | nil => simp only [mfind, mfindI, Option.some.injEq] at hf; exact .inr ⟨hf.symm, rfl⟩
    | cons p kvs => simp [mfind, mfindI, keySame] at hf
theorem checkKey_ok {kt : TypeId} {kd : Nat} {desc : TypeDesc} (hd : P.underlying kt = some desc) (hk : keyKind P kt = some kd) (b : Bool) (v : Value) : (Instr.checkKey b 10000 kt v).run P w = .ok () w := by
  unfold keyKind at hk
  rw [hd] at hk
  cases desc <;> simp at hk <;> (unfold Instr.checkKey; simp [run_underlying hd])
theorem findKey_ok {kt : TypeId} {desc : TypeDesc} (hd : P.underlying kt = some desc) {x : Value} {es : List MapEntry} {r : Option (Nat × Value)} (h : Instr.findNow desc x es 0 = some r) : (Instr.findKey kt x es).run P w = .ok r w := by
  simp [Instr.findKey, run_underlying hd, h]
theorem MpAt.mono {G' : Gh} {w' : World} {kvs : List (AV × AV)} {es : List MapEntry} (h : MpAt G w kvs es) (l : Le G w G' w') : MpAt G' w' kvs es := ⟨h.1, fun j h1 h2 => ⟨(h.2 j h1 h2).1.mono l, (h.2 j h1 h2).2.mono l⟩⟩
theorem mpAt_push {kvs : List (AV × AV)} {es : List MapEntry} (h : MpAt G w kvs es) {k v : AV} {e : MapEntry} (hk : Rep G w k e.key) (hv : Rep G w v e.val) : MpAt G w (kvs ++ [(k, v)]) (es ++ [e]) := by
  refine ⟨by simp [h.1], fun j h1 h2 => ?_⟩
  by_cases hj : j < kvs.length
  · have hj2 : j < es.length := by rw [h.1]; exact hj
    rw [List.getElem_append_left hj, List.getElem_append_left hj2]
    exact h.2 j hj hj2
  · simp only [List.length_append, List.length_cons, List.length_nil] at h1
    have : j = kvs.length := by omega
    subst this
    have e2 : (es ++ [e])[kvs.length] = e := by rw [List.getElem_append_right (by rw [h.1]; exact Nat.le_refl _)]; simp [h.1]
    rw [e2]
    simp only [List.getElem_concat_length]
    exact ⟨hk, hv⟩
theorem mpAt_set {kvs : List (AV × AV)} {es : List MapEntry} (h : MpAt G w kvs es) {k v : AV} {e : MapEntry} (i : Nat) (hk : Rep G w k e.key) (hv : Rep G w v e.val) : MpAt G w (kvs.set i (k, v)) (es.set i e) := by
  refine ⟨by simp [h.1], fun j h1 h2 => ?_⟩
  simp only [List.getElem_set]
  split
  · exact ⟨hk, hv⟩
  · exact h.2 j (by simpa using h1) (by simpa using h2)
theorem objAt_mp {x : Ix} {b : Nat} {kvs : List (AV × AV)} : ObjAt G w x b (.mp kvs) ↔ G.role b = (.obj x, some 0) ∧ ∃ es n, w.heap[b]? = some (.map es n) ∧ MpAt G w kvs es.toList := by
  constructor
  · rintro ⟨h1, es, n, h2, h3, h4⟩
    exact ⟨h1, es, n, h2, by simpa using h3, fun j k1 k2 => by
      have := h4 j k1 (by simpa using k2)
      simpa only [Array.getElem_toList] using this⟩
  · rintro ⟨h1, es, n, h2, h3, h4⟩
    exact ⟨h1, es, n, h2, by simpa using h3, fun j k1 k2 => by
      have := h4 j k1 (by simpa using k2)
      simpa only [Array.getElem_toList] using this⟩
end

section
variable {P : Program} {ρ : Operand → Value} {G0 : Gh} {w0 : World} {G : Gh} {w : World} {s : St} {tv : Nat → Value} {d : Nat} {o : Oper}
theorem does_mkmap {t : TypeId} {a : AV} {s' : St} (hI : Inv P G0 w0 G w s tv) (ho : o.op = .makeMap t none) (hx : exec d .mkmap s = some (a, s')) : Does P ρ o G0 w0 w tv d a s' := by
  simp only [exec, Option.some.injEq, Prod.mk.injEq] at hx
  obtain ⟨rfl, rfl⟩ := hx
  have key := hI.newObj (Drawn.refl w) (.map #[] 0) true d (.mp []) (fun G' x l hro hh _ => ⟨hro, #[], 0, hh, rfl, fun j h1 => by simp at h1⟩)
  obtain ⟨G', h1, h2, _⟩ := key.2 rfl
  refine ⟨_, _, G', .inl ?_, h1, .of (.mapr _ _ h2), OwnAt.of_notOwn trivial⟩
  simp only [execOp, ho, Option.map_none, Instr.makeMap, Sem.run_bind, Sem.run_pure, run_newObj, Result.andThen_ok]
  rfl
theorem does_mlook {t : TypeId} {m k : Operand} {m' k' : VO} {both : Bool} {kt et : TypeId} {kd : Nat} {z : Value} {za : AV} {a : AV} {s' : St} (hI : Inv P G0 w0 G w s tv) (ho : o.op = .lookup t m k both) (ht : P.underlying t = some (.map kt et)) (hkd : keyKind P kt = some kd)
    (hz : zeroOf P et = some z) (hza : AV.ofValue z = some za) (hm : trO P m = some m') (hk : trO P k = some k') (he : OkEv P G w s.ev ρ) (hx : exec d (.mlook kd za both m' k') s = some (a, s')) : Does P ρ o G0 w0 w tv d a s' := by
  obtain ⟨desc, hd⟩ : ∃ desc, P.underlying kt = some desc := by
    unfold keyKind at hkd
    cases hu : P.underlying kt with
    | none => rw [hu] at hkd; simp at hkd
    | some d => exact ⟨d, rfl⟩
  have hrm := he _ _ hm
  have hrk := he _ _ hk
  have hzr := Rep.ofValue G w hza
  have hzrun : (zeroValue et).run P w = .ok z w := by
    unfold zeroOf at hz
    cases hi : P.info? et with
    | none => rw [hi] at hz; simp at hz
    | some it => rw [hi] at hz; simp only [Option.bind_some] at hz; simp [zeroValue, typeInfo, hi, hz]
  simp only [exec] at hx
  split at hx
  · rename_i hv
    rw [hv] at hrm
    simp only [Option.some.injEq, Prod.mk.injEq] at hx
    obtain ⟨rfl, rfl⟩ := hx
    have e1 : ρ m = .map none := hrm.nilmap_inv
    have hrun : (execOp ρ o).run P w = .ok (.value (if both then .tuple #[z, .bool false] else z)) w := by
      simp only [execOp, ho, Instr.lookup, e1, Sem.run_bind, run_underlying ht, Result.andThen_ok, Sem.run_pure, checkKey_ok hd hkd, findKey_ok (r := none) hd (x := ρ k) (es := []) rfl, hzrun]
      try (cases both <;> rfl)
    refine ⟨_, w, G, .inl hrun, hI, ?_, ?_⟩
    · cases both
      · exact .of hzr
      · exact .of (.tup _ _ rfl fun i h1 h2 => by
          match i, h1, h2 with
          | 0, _, _ => exact hzr
          | 1, _, _ => exact .bool false)
    · cases both
      · exact OwnAt.of_notOwn (ofValue_notOwn hza)
      · exact OwnAt.of_notOwn trivial
  · rename_i i hv
    rw [hv] at hrm
    obtain ⟨b, hb, e1⟩ := hrm.mapr_inv
    split at hx
    · rename_i kvs hobj
      obtain ⟨b', hb', hlt, hat⟩ := hI.obj _ _ hobj
      have hbb : b = b' := by
        have : G.at (.mem i) = some b := hb
        rw [this] at hb'; exact Option.some.inj hb'
      subst hbb
      obtain ⟨hro, es, n, hh, hmp⟩ := objAt_mp.1 hat
      have hget : (getObj b).run P w = .ok (.map es n) w := by simp [getObj, Sem.run, hh]
      have hkn : ∀ r, mfind kd (s.ev k') kvs = some r → Rep G w (s.ev k') (ρ k) ∨ r = none ∧ kvs = [] := by
        exact fun r hr => repT_key hrk hr
      split at hx
      · rename_i hf
        simp only [Option.some.injEq, Prod.mk.injEq] at hx
        obtain ⟨rfl, rfl⟩ := hx
        have hfn : Instr.findNow desc (ρ k) es.toList 0 = some none := by
          rcases hkn _ hf with h | ⟨_, rfl⟩
          · exact (mfind_rep hd hkd h kvs es.toList 0 hmp none hf).1 rfl
          · have : es.toList = [] := List.eq_nil_of_length_eq_zero (by simpa using hmp.1)
            rw [this]; rfl
        have hrun : (execOp ρ o).run P w = .ok (.value (if both then .tuple #[z, .bool false] else z)) w := by
          simp only [execOp, ho, Instr.lookup, e1, Sem.run_bind, run_underlying ht, hget, Result.andThen_ok, Sem.run_pure, checkKey_ok hd hkd, findKey_ok hd hfn, hzrun]
          try (cases both <;> rfl)
        refine ⟨_, w, G, .inl hrun, hI, ?_, ?_⟩
        · cases both
          · exact .of hzr
          · exact .of (.tup _ _ rfl fun i h1 h2 => by
              match i, h1, h2 with
              | 0, _, _ => exact hzr
              | 1, _, _ => exact .bool false)
        · cases both
          · exact OwnAt.of_notOwn (ofValue_notOwn hza)
          · exact OwnAt.of_notOwn trivial
      · rename_i j v hf
        simp only [Option.some.injEq, Prod.mk.injEq] at hx
        obtain ⟨rfl, rfl⟩ := hx
        have hkr : Rep G w (s.ev k') (ρ k) := (hkn _ hf).resolve_right (by rintro ⟨h, _⟩; simp at h)
        obtain ⟨_, e, _, _, _, _, _, hvr, hfn⟩ := (mfind_rep hd hkd hkr kvs es.toList 0 hmp _ hf).2 j v rfl
        have hrun : (execOp ρ o).run P w = .ok (.value (if both then .tuple #[e.val, .bool true] else e.val)) w := by
          simp only [execOp, ho, Instr.lookup, e1, Sem.run_bind, run_underlying ht, hget, Result.andThen_ok, Sem.run_pure, checkKey_ok hd hkd, findKey_ok hd hfn]
          try (cases both <;> rfl)
        refine ⟨_, w, G, .inl hrun, hI, ?_, ?_⟩
        · cases both
          · exact .of hvr.view
          · exact .of (.tup _ _ rfl fun i h1 h2 => by
              match i, h1, h2 with
              | 0, _, _ => exact hvr.view
              | 1, _, _ => exact .bool true)
        · cases both
          · exact OwnAt.view
          · exact OwnAt.of_notOwn trivial
      · simp at hx
    · simp at hx
  · simp at hx
theorem does_minsert {t : TypeId} {m k x : Operand} {m' k' x' : VO} {kt et : TypeId} {kd : Nat} {a : AV} {s' : St} (hI : Inv P G0 w0 G w s tv) (ho : o.op = .insert t m k x ∨ o.op = .mapUpdate t m k x) (ht : P.underlying t = some (.map kt et)) (hkd : keyKind P kt = some kd)
    (hm : trO P m = some m') (hk : trO P k = some k') (hxx : trO P x = some x') (he : OkEv P G w s.ev ρ) (hx : exec d (.minsert kd m' k' x') s = some (a, s')) : Does P ρ o G0 w0 w tv d a s' := by
  obtain ⟨desc, hd⟩ : ∃ desc, P.underlying kt = some desc := by
    unfold keyKind at hkd
    cases hu : P.underlying kt with
    | none => rw [hu] at hkd; simp at hkd
    | some d => exact ⟨d, rfl⟩
  have hrm := he _ _ hm
  have hrk := he _ _ hk
  have hrx := he _ _ hxx
  simp only [exec] at hx
  split at hx
  · rename_i i hv
    rw [hv] at hrm
    obtain ⟨b, hb, e1⟩ := hrm.mapr_inv
    split at hx
    · rename_i kvs hobj
      obtain ⟨b', hb', hlt, hat⟩ := hI.obj _ _ hobj
      have hbb : b = b' := by
        have : G.at (.mem i) = some b := hb
        rw [this] at hb'; exact Option.some.inj hb'
      subst hbb
      obtain ⟨hro, es, n, hh, hmp⟩ := objAt_mp.1 hat
      have hget : (getObj b).run P w = .ok (.map es n) w := by simp [getObj, Sem.run, hh]
      have hw : ∀ ob, Wrote b ob w { w with heap := w.heap.setIfInBounds b ob } := fun ob =>
        ⟨rfl, rfl, rfl, by simp, by simp [hlt], fun b' hb' => by simp [Array.getElem?_setIfInBounds_ne (Ne.symm hb')], fun t ht => by simp [World.shape?, hh] at ht⟩
      have hset : ∀ ob, (setObj b ob).run P w = .ok () { w with heap := w.heap.setIfInBounds b ob } := fun ob => by simp [setObj, Sem.run, hh]
      split at hx
      · rename_i hgood
        simp only [Bool.and_eq_true] at hgood
        have hkr : Rep G w (s.ev k') (ρ k) := hrk.nl hgood.1
        have hxr : Rep G w (s.ev x') (ρ x) := hrx.nl (by
          have := hgood.2
          generalize s.ev x' = v at this ⊢
          cases v <;> simp [AV.one, AV.nl] at this ⊢ <;> assumption)
        have hex : ∀ r w', (Instr.mapUpdate t (ρ m) (ρ k) (ρ x)).run P w = .ok r w' → (execOp ρ o).run P w = .ok .skip w' := by
          intro r w' h
          rcases ho with ho | ho <;> simp only [execOp, ho, Sem.run_bind, h, Result.andThen_ok, Sem.run_pure]
        split at hx
        · rename_i hf
          simp only [Option.some.injEq, Prod.mk.injEq] at hx
          obtain ⟨rfl, rfl⟩ := hx
          have hfn := (mfind_rep hd hkd hkr kvs es.toList 0 hmp none hf).1 rfl
          have hrun : (Instr.mapUpdate t (ρ m) (ρ k) (ρ x)).run P w = .ok () { w with heap := w.heap.setIfInBounds b (.map (es.push { key := ρ k, val := ρ x, born := n }) (n + 1)) } := by
            simp only [Instr.mapUpdate, e1, Sem.run_bind, run_underlying ht, hget, Result.andThen_ok, checkKey_ok hd hkd, findKey_ok hd hfn, hset]
          refine ⟨_, _, G, .inr ⟨hex _ _ hrun, rfl⟩, hI.wrote hobj hb hro (hw _) (fun l => objAt_mp.2 ⟨hro, _, _, (hw _).at_, ?_⟩), .of (.undef _), OwnAt.of_notOwn trivial⟩
          rw [Array.toList_push]
          exact mpAt_push (hmp.mono l) (hkr.mono l) (hxr.view.mono l)
        · rename_i j v hf
          simp only [Option.some.injEq, Prod.mk.injEq] at hx
          obtain ⟨rfl, rfl⟩ := hx
          obtain ⟨k0, e, hj, _, hek, hkey, _, _, hfn⟩ := (mfind_rep hd hkd hkr kvs es.toList 0 hmp _ hf).2 j v rfl
          have hj0 : j = k0 := by omega
          subst hj0
          have hek' : es[j]? = some e := by simpa using hek
          have hstay : ∀ o' : Value, o' = ρ k → (Instr.keyThatStays o' (ρ k)).run P w = .ok (ρ k) w := by
            rintro o' rfl
            simp only [Instr.keyThatStays, same_bits hkr (mfind_kind kvs 0 hf), if_true, Sem.run_pure]
          have hrun : (Instr.mapUpdate t (ρ m) (ρ k) (ρ x)).run P w = .ok () { w with heap := w.heap.setIfInBounds b (.map (es.modify j fun e => { e with key := ρ k, val := ρ x }) n) } := by
            simp only [Instr.mapUpdate, e1, Sem.run_bind, run_underlying ht, hget, Result.andThen_ok, checkKey_ok hd hkd, findKey_ok hd hfn, hset, hek', Option.map_some, Option.getD_some, hstay _ hkey]
          refine ⟨_, _, G, .inr ⟨hex _ _ hrun, rfl⟩, hI.wrote hobj hb hro (hw _) (fun l => objAt_mp.2 ⟨hro, _, _, (hw _).at_, ?_⟩), .of (.undef _), OwnAt.of_notOwn trivial⟩
          have e2 : (es.modify j fun e => { e with key := ρ k, val := ρ x }).toList = es.toList.set j { e with key := ρ k, val := ρ x } := by
            refine List.ext_getElem? fun i => ?_
            rw [Array.toList_modify, List.getElem?_modify, List.getElem?_set]
            by_cases hij : j = i
            · subst hij
              have hlt2 : j < es.toList.length := (List.getElem?_eq_some_iff.1 hek).1
              simp [hek']
              simpa using hlt2
            · simp [hij]
          rw [e2]
          exact mpAt_set (hmp.mono l) j (hkr.mono l) (hxr.view.mono l)
        · simp at hx
      · simp at hx
    · simp at hx
  · simp at hx
end
end Go.Vm
/- Blocks whose type is known: strings.Builder. -/
namespace Go.Vm

theorem bytesR_inv : ∀ (xs : List AV) (bs : List UInt8), bytesR xs = some bs → xs = bs.map fun b => AV.int .u8 b.toNat
  | [], bs, h => by simp only [bytesR, Option.some.injEq] at h; subst h; rfl
  | x :: rest, bs, h => by
    unfold bytesR at h
    split at h
    · simp_all
    · rename_i n rest' e
      split at h
      · rename_i hn
        split at h
        · rename_i bs' hr
          simp only [List.cons.injEq] at e
          obtain ⟨rfl, rfl⟩ := e
          simp only [Option.some.injEq] at h; subst h
          rw [bytesR_inv _ _ hr]
          have : ((UInt8.ofNat n.toNat).toNat : Int) = n := by
            have h1 : n.toNat < 256 := by omega
            rw [show (UInt8.ofNat n.toNat).toNat = n.toNat from by simp; omega]
            omega
          simp only [List.map_cons, this]
        · simp at h
      · simp at h
    · simp at h

theorem freeze_wrote (w : World) {b n : Nat} {arr : Array Value} {T : TypeId} {fr : Nat × Nat} (h : w.heap[b]? = some (.cells arr T fr)) (hn : n ≠ 0) :
    ∃ fr', Wrote b (.cells arr T fr') w (w.freeze ⟨b, 0, none⟩ n) := by
  obtain ⟨lo, hi⟩ := fr
  refine ⟨(if lo == hi then (0, 0 + n) else (min lo 0, max hi (0 + n))), ?_⟩
  have e : w.freeze ⟨b, 0, none⟩ n = { w with heap := w.heap.modify b fun
      | .cells c elem (lo, hi) => .cells c elem (if lo == hi then (0, 0 + n) else (min lo 0, max hi (0 + n)))
      | o => o } := by unfold World.freeze; rw [if_neg hn]; rfl
  rw [e]
  have hat : (w.heap.modify b fun
      | .cells c elem (lo, hi) => .cells c elem (if lo == hi then (0, 0 + n) else (min lo 0, max hi (0 + n)))
      | o => o)[b]? = some (.cells arr T (if lo == hi then (0, 0 + n) else (min lo 0, max hi (0 + n)))) := by
    rw [Array.getElem?_modify, if_pos rfl, h]
    rfl
  refine ⟨rfl, rfl, rfl, by simp, hat, fun b' hb' => ?_, fun t ht => ?_⟩
  · simp only [Array.getElem?_modify]
    rw [if_neg (Ne.symm hb')]
  · unfold World.shape? at ht ⊢
    simp only [h] at ht
    simp only [hat]
    exact ht

section
variable {P : Program} {ρ : Operand → Value} {G0 : Gh} {w0 : World} {G : Gh} {w : World} {s : St} {tv : Nat → Value} {d : Nat} {o : Oper}

/-- A new block of two cells. -/
theorem does_unsf0 {t : TypeId} {zv : Value} {x y : VO} {a : AV} {s' : St} (hI : Inv P G0 w0 G w s tv) (ho : o.op = .alloc t) (hz : zeroOf P t = some zv)
    (hcs : ofCells zv.cells.toList = some [.nilptr, .vec none false []]) (hx : exec d (.unsf 0 t 0 x y) s = some (a, s')) : Does P ρ o G0 w0 w tv d a s' := by
  have hrun : (execOp ρ o).run P w = .ok (.value (.pointer (some ⟨w.heap.size, 0, none⟩))) (w.alloc (.cells zv.cells t)) := by
    simp [execOp, ho, Instr.alloc, zeroValue_run hz, newVar, newRow]
  simp only [exec, unsfV, Option.some.injEq, Prod.mk.injEq] at hx
  obtain ⟨rfl, rfl⟩ := hx
  have hlen := ofCells_len hcs
  have hlen2 : zv.cells.size = 2 := by simpa using hlen.symm
  have hr := Rep.ofCells G w hcs
  have h0 : zv.cells[0]'(by omega) = .pointer none := by
    have := hr 0 (by simp) (by simp [hlen2])
    simp only [List.getElem_cons_zero, Array.getElem_toList] at this
    generalize zv.cells[0]'(by omega) = q at this
    cases this; rfl
  obtain ⟨G', h1, h2, _⟩ := (hI.newObj (Drawn.refl w) (.cells zv.cells t (0, 0)) true d (.cells false [.typed 0 t 2 s.mem.length 0, .vec none false []]) (fun G' x l hro hh hat => by
    refine ⟨hro, zv.cells, t, (0, 0), hh, .inl rfl, by simp [hlen2], fun j j1 j2 => ?_⟩
    match j, j1 with
    | 0, _ =>
      refine ⟨?_, OwnAt.of_notOwn trivial⟩
      simp only [List.getElem_cons_zero]
      rw [h0]
      refine .tnil t 2 s.mem.length 0 w.heap.size (hat rfl) ?_
      simp only [World.shape?, hh, hlen2]
    | 1, _ =>
      refine ⟨?_, OwnAt.of_notOwn trivial⟩
      have := hr 1 (by simp) (by simp [hlen2])
      simp only [List.getElem_cons_succ, List.getElem_cons_zero, Array.getElem_toList] at this ⊢
      exact this.mono l)).2 rfl
  exact ⟨_, _, G', .inl hrun, h1, RepT.ptr_mk h2, OwnAt.of_notOwn trivial⟩

/-- The address of such a block, turned to an address of no type and back. -/
theorem does_unsf1 {src dst t : TypeId} {x : Operand} {x' y : VO} {j : TypeInfo} {a : AV} {s' : St} (hI : Inv P G0 w0 G w s tv) (ho : o.op = .convert src dst x) (hj : P.info? t = some j)
    (hc : (P.underlying src = some (.pointer t) ∧ P.underlying dst = some .unsafePointer ∧ j.size ≠ 0) ∨
      (P.underlying src = some .unsafePointer ∧ P.underlying dst = some (.pointer t) ∧ liesAt P P.depth t (2 / P.cellsOf t) 0 t 1 = true))
    (hxx : trO P x = some x') (he : OkEv P G w s.ev ρ) (hx : exec d (.unsf 1 t 2 x' y) s = some (a, s')) : Does P ρ o G0 w0 w tv d a s' := by
  have hr := he _ _ hxx
  simp only [exec, unsfV] at hx
  split at hx
  · rename_i v m hv
    simp only [Option.some.injEq, Prod.mk.injEq] at hx
    obtain ⟨rfl, rfl⟩ := hx
    split at hv
    · rename_i i hev
      rw [hev] at hr
      obtain ⟨b, hb, e1⟩ := hr.ptr_inv
      split at hv
      · rename_i T' n' i' l' rest hobj
        split at hv
        · rename_i hcnd
          obtain ⟨rfl, rfl, rfl⟩ := hcnd
          simp only [Option.some.injEq, Prod.mk.injEq] at hv
          obtain ⟨rfl, rfl⟩ := hv
          have hobj' : s.obj (.mem i') = some (.cells false (.typed 0 T' 2 i' l' :: rest)) := by simp [St.obj, hobj]
          obtain ⟨b', hb', _, hat⟩ := hI.obj _ _ hobj'
          obtain ⟨_, arr, T, fr, hh, _, hl, hcell⟩ := objAt_inv hat
          have h0 : 0 < arr.size := by simp at hl; omega
          have hc0 := (hcell 0 (by simp) h0).1
          simp only [List.getElem_cons_zero] at hc0
          obtain ⟨_, b2, hb2, hs⟩ := (RepT.of hc0).tnil_inv
          have hbb : b = b2 := by
            have : G.mb i' = some b := hb
            rw [this] at hb2; simpa using hb2
          subst hbb
          refine ⟨.pointer (some ⟨b, 0, none⟩), w, G, .inl ?_, hI, RepT.ptr_mk hb, OwnAt.of_notOwn trivial⟩
          have hconv : (convert src dst (.pointer (some ⟨b, 0, none⟩))).run P w = .ok (.pointer (some ⟨b, 0, none⟩)) w := by
            rcases hc with ⟨h1, h2, h3⟩ | ⟨h1, h2, h3⟩
            · exact Lib.run_to_unsafe w ⟨b, 0, none⟩ h1 h2 hj h3 hs (by simp)
            · exact Lib.run_from_unsafe w ⟨b, 0, none⟩ h1 h2 hj hs h3
          simp only [execOp, ho, e1, Sem.run_bind, hconv, Result.andThen_ok, Sem.run_pure]
        · simp at hv
      · simp at hv
    · simp at hv
  · simp at hx

theorem does_newT (hI : Inv P G0 w0 G w s tv) {cs : List AV} {arr : Array Value} {T : TypeId} {w1 : World} {n cap : Nat} (hd : Drawn w w1) (hcap : n ≤ cap) (hl : cs.length ≤ arr.size) (hcz : cap ≤ arr.size)
    (hr : ∀ (j : Nat) (h1 : j < cs.length) (h2 : j < arr.size), Rep G w cs[j] arr[j]) (hn : ∀ a ∈ cs, notOwn a)
    (hrun : (execOp ρ o).run P w = .ok (.value (.slice (some ⟨w.heap.size, 0, none⟩) n cap)) (w1.alloc (.cells arr T (0, 0)))) :
    Does P ρ o G0 w0 w tv d (.typed 1 T 0 s.mem.length n) (addMem s (.cells false cs)) := by
  obtain ⟨G', h1, h2, _⟩ := (hI.newObj hd (.cells arr T (0, 0)) true d (.cells false cs) (fun G' x l hro hh _ =>
    ⟨hro, arr, T, _, hh, .inl rfl, hl, fun j h1 h2 => ⟨(hr j h1 h2).mono l, OwnAt.of_notOwn (hn _ (List.getElem_mem h1))⟩⟩)).2 rfl
  have hat : (w1.alloc (.cells arr T (0, 0))).heap[w.heap.size]? = some (.cells arr T (0, 0)) := heap_alloc_at _ _ (by rw [hd.heap])
  exact ⟨_, _, G', .inl hrun, h1, .of (.trow T 0 s.mem.length n w.heap.size cap arr.size h2 hcap (by simp only [World.shape?, hat]) hcz), OwnAt.of_notOwn trivial⟩

theorem does_appB {c : Call} {a x : Operand} {t u e : TypeId} {it : TypeInfo} {zv : Value} {av r : AV} {m : Mem} {ys : List AV} {news : List Value} (hI : Inv P G0 w0 G w s tv) (ho : o.op = .call c) (hc1 : c.callee = .builtin .append) (hc2 : c.args = #[a, x]) (hc3 : c.argTypes = #[t, u])
    (hzs : zv.cells.size = it.size) (hsz1 : it.size = 1) (hra : RepT G w av (ρ a)) (hnl : news.length = ys.length * it.size) (hnrep : RepL G w (flat ys) news)
    (Rnil : ys.length * it.bytes ≤ 140737488355328 → 0 < it.bytes → 0 < ys.length → ρ a = .slice none 0 0 → (Builtin.append_ #[t, u] o.type #[ρ a, ρ x]).run P w =
      .ok (.slice (some ⟨w.heap.size, 0, none⟩) ys.length (grownCap w ys.length 0 e)) (w.drew.alloc (.cells (news.toArray ++ Builtin.zeroCells zv.cells (grownCap w ys.length 0 e - ys.length)) e)))
    (Rfit : ∀ (b len cap : Nat) (arr : Array Value) (T : TypeId) (fr : Nat × Nat), ρ a = .slice (some ⟨b, 0, none⟩) len cap → FrOk fr arr.size → len + ys.length ≤ cap → w.heap[b]? = some (.cells arr T fr) → len * it.size + news.length ≤ arr.size →
      (Builtin.append_ #[t, u] o.type #[ρ a, ρ x]).run P w = .ok (.slice (some ⟨b, 0, none⟩) (len + ys.length) cap) (w.setRow b (arr.toList.take (len * it.size) ++ news ++ arr.toList.drop (len * it.size + news.length)).toArray))
    (Rgrow : ∀ (a0 : Addr) (len cap : Nat) (olds : List Value), ρ a = .slice (some a0) len cap → olds.length = len * it.size → (∀ j v, olds[j]? = some v → w.cell? (Addr.add a0 j) = some v) → cap < len + ys.length → (len + ys.length) * it.bytes ≤ 140737488355328 → 0 < it.bytes →
      (Builtin.append_ #[t, u] o.type #[ρ a, ρ x]).run P w = .ok (.slice (some ⟨w.heap.size, 0, none⟩) (len + ys.length) (grownCap w (len + ys.length) cap e))
        (w.drew.alloc (.cells (olds.toArray ++ news.toArray ++ Builtin.zeroCells zv.cells (grownCap w (len + ys.length) cap e - (len + ys.length))) e)))
    (hap : appB e it.bytes s.mem av ys = some (r, m)) : Does P ρ o G0 w0 w tv d r { s with mem := m } := by
  have hzz : ∀ k, (Builtin.zeroCells zv.cells k).size = k := by intro k; simp [Builtin.zeroCells, hzs, hsz1]
  rw [hsz1, Nat.mul_one] at hnl
  simp only [hsz1, Nat.mul_one] at Rfit Rgrow
  unfold appB at hap
  split at hap
  · rename_i ow
    split at hap
    · rename_i hcnd
      obtain ⟨hne, hb0, hbb⟩ := hcnd
      simp only [Option.some.injEq, Prod.mk.injEq] at hap
      obtain ⟨rfl, rfl⟩ := hap
      have hne' : ys ≠ [] := by simpa using hne
      have hn0 : 0 < ys.length := List.length_pos_iff.2 hne'
      have hv2 := hnrep.view
      rcases hra.vec_inv with ⟨_, _, e1⟩ | ⟨_, _, _, _, _, h0, _⟩ | ⟨_, h0, _⟩
      rotate_left 2
      · simp at h0
      · have hrun := Rnil hbb hb0 hn0 e1
        have hge := grownCap_ge w ys.length 0 e
        have hsz : (news.toArray ++ Builtin.zeroCells zv.cells (grownCap w ys.length 0 e - ys.length)).size = grownCap w ys.length 0 e := by
          simp only [Array.size_append, List.size_toArray, hzz, hnl]
          omega
        refine does_newT (P := P) (ρ := ρ) (o := o) (d := d) hI (cs := (flat ys).map AV.view) (T := e)
          (Drawn.drew w) hge (by rw [hv2.1]; simp) (by rw [hsz]; exact Nat.le_refl _) (fun j h1 h2 => ?_) (fun a ha => by simp only [List.mem_map] at ha; obtain ⟨b, _, rfl⟩ := ha; exact notOwn_view b) (builtin_append_run ho hc1 hc2 hc3 hrun)
        have j3 : j < news.length := by rw [← hv2.1]; exact h1
        refine hv2.2 j _ _ (List.getElem?_eq_getElem h1) ?_
        rw [Array.getElem_append_left (by simpa using j3)]
        simp
      · simp at h0
    · simp at hap
  · rename_i T' n' i len
    obtain ⟨b, cap, ms, hb, e1, hcap, hshape, hcm⟩ := hra.trow_inv
    split at hap
    · rename_i cs hobj
      split at hap
      · rename_i hcnd
        obtain ⟨rfl, hne, hcl, hb0, hbb⟩ := hcnd
        simp only [Option.some.injEq, Prod.mk.injEq] at hap
        obtain ⟨rfl, rfl⟩ := hap
        have hobj' : s.obj (.mem i) = some (.cells false cs) := by simp [St.obj, hobj]
        have hne' : ys ≠ [] := by simpa using hne
        have hn0 : 0 < ys.length := List.length_pos_iff.2 hne'
        obtain ⟨b', hb', hlt, hat⟩ := hI.obj _ _ hobj'
        have hbb' : b = b' := by
          have : G.mb i = some b' := hb'
          rw [hb] at this
          simpa using this
        subst hbb'
        obtain ⟨hrole, arr, T, fr, hh, hfr, hl, hcell⟩ := objAt_inv hat
        have hTm : T = T' ∧ arr.size = ms := by
          simp only [World.shape?, hh, Option.some.injEq, Prod.mk.injEq] at hshape
          exact hshape
        obtain ⟨rfl, rfl⟩ := hTm
        have holdR : ∀ (j : Nat) (h1 : j < cs.length) (h2 : j < arr.size), Rep G w cs[j] arr[j] := fun j h1 h2 => (hcell j h1 h2).1
        have hold : RepL G w (cs.take len) (arr.toList.take len) := by
          refine ⟨by simp; omega, fun j a v ha hv => ?_⟩
          rw [List.getElem?_take] at ha hv
          split at hv
          · rename_i hj
            rw [if_pos hj] at ha
            obtain ⟨h1, rfl⟩ := List.getElem?_eq_some_iff.1 ha
            have h2 : j < arr.size := by omega
            rw [List.getElem?_eq_getElem (by simpa using h2)] at hv
            simp only [Option.some.injEq, Array.getElem_toList] at hv
            subst hv
            exact holdR j h1 h2
          · simp at hv
        have hall := (hold.append hnrep).view
        have hno : ∀ a ∈ (cs.take len ++ flat ys).map AV.view, notOwn a := fun a ha => by simp only [List.mem_map] at ha; obtain ⟨b, _, rfl⟩ := ha; exact notOwn_view b
        have hfl : (flat ys).length = news.length := hnrep.1
        by_cases hroom : len + ys.length ≤ cap
        · have hfit : len + news.length ≤ arr.size := by omega
          have hrun := Rfit b len cap arr T fr e1 hfr hroom hh hfit
          have hsz2 : (arr.toList.take len ++ news ++ arr.toList.drop (len + news.length)).toArray.size = arr.size := by simp; omega
          have hw := setRow_wrote w (cs := (arr.toList.take len ++ news ++ arr.toList.drop (len + news.length)).toArray) hh hsz2.symm
          obtain ⟨G', i2, hm2, l2⟩ := hI.moveRow (o' := .cells false ((cs.take len ++ flat ys).map AV.view)) hobj' hb hrole hw (fun G' l hro => by
            refine ⟨hro, _, T, fr, hw.at_, by rw [hsz2]; exact hfr, by rw [hsz2]; simp; omega, fun j h1 h2 => ⟨?_, OwnAt.of_notOwn (hno _ (List.getElem_mem h1))⟩⟩
            refine (hall.2 j _ _ (List.getElem?_eq_getElem h1) ?_).mono l
            have h1' : j < (cs.take len ++ flat ys).length := by simpa using h1
            have h3 : j < (arr.toList.take len ++ news).length := by simp; simp at h1'; omega
            simp only [List.getElem_toArray]
            rw [List.getElem?_eq_getElem h3, List.getElem_append_left h3])
          exact ⟨_, _, G', .inl (builtin_append_run ho hc1 hc2 hc3 hrun), i2, .of (.trow _ _ _ _ b cap arr.size hm2 hroom (l2.shp b _ (by simp only [World.shape?, hh])) hcm), OwnAt.of_notOwn trivial⟩
        · have hrun := Rgrow ⟨b, 0, none⟩ len cap (arr.toList.take len) e1 (by simp; omega)
            (fun j v hj => by
              rw [List.getElem?_take] at hj
              split at hj
              · rw [add_off]
                simp only [World.cell?, hh, Nat.zero_add]
                simpa using hj
              · simp at hj)
            (by omega) hbb hb0
          have hge := grownCap_ge w (len + ys.length) cap T
          have hsz : ((arr.toList.take len).toArray ++ news.toArray ++ Builtin.zeroCells zv.cells (grownCap w (len + ys.length) cap T - (len + ys.length))).size = grownCap w (len + ys.length) cap T := by
            simp only [Array.size_append, List.size_toArray, hzz, hnl]
            have : (arr.toList.take len).length = len := by simp; omega
            rw [this]
            omega
          have key := does_newT (P := P) (ρ := ρ) (o := o) (d := d) (hI.kill i) (cs := (cs.take len ++ flat ys).map AV.view) (T := T)
            (Drawn.drew w) hge (by rw [hall.1]; simp) (by rw [hsz]; exact Nat.le_refl _) (fun j h1 h2 => by
              have j3 : j < (arr.toList.take len ++ news).length := by rw [← hall.1]; exact h1
              refine hall.2 j _ _ (List.getElem?_eq_getElem h1) ?_
              have e3 : (arr.toList.take len).toArray ++ news.toArray = (arr.toList.take len ++ news).toArray := by simp
              rw [List.getElem?_eq_getElem j3]
              simp only [e3]
              rw [Array.getElem_append_left (by simpa using j3)]
              simp) hno (builtin_append_run ho hc1 hc2 hc3 hrun)
          have hml : (killMem s i).mem.length = s.mem.length := by simp [killMem]
          rw [hml] at key
          exact key
      · simp at hap
    · simp at hap
  · simp at hap

theorem appB_nil {T bytes : Nat} {m : Mem} {a : AV} : appB T bytes m a [] = none := by
  unfold appB
  split
  · simp
  · split <;> simp
  · rfl

theorem does_unsf3 {c : Call} {a x : Operand} {a' x' : VO} {t e : TypeId} {it : TypeInfo} {zv : Value} {r : AV} {s' : St} (hI : Inv P G0 w0 G w s tv) (ho : o.op = .call c) (hc1 : c.callee = .builtin .append) (hc2 : c.args = #[a, x]) (hc3 : c.argTypes = #[t, t])
    (ht : P.underlying t = some (.slice e)) (hi : P.info? e = some it) (hz : it.zero = some zv) (hzs : zv.cells.size = it.size) (h1 : it.size = 1) (ha : trO P a = some a') (hx : trO P x = some x') (he : OkEv P G w s.ev ρ)
    (hex : exec d (.unsf 3 e it.bytes a' x') s = some (r, s')) : Does P ρ o G0 w0 w tv d r s' := by
  have hra := he _ _ ha
  have hrx := he _ _ hx
  simp only [exec, unsfV] at hex
  split at hex
  · rename_i v m hv
    simp only [Option.some.injEq, Prod.mk.injEq] at hex
    obtain ⟨rfl, rfl⟩ := hex
    split at hv
    · rename_i ys hys
      rw [← h1] at hys
      obtain ⟨hysz, hyv, hyf⟩ := elems_vals hrx hys
      rcases hyv with h0 | ⟨b2, off2, cap2, news, ey, hnl, hncell, hnrep, hnone⟩
      · subst h0; rw [appB_nil] at hv; simp at hv
      have small : ∀ n : Nat, n * it.bytes ≤ 140737488355328 → 0 < it.bytes → n ≤ 140737488355328 := fun n h1 h2 => by
        have : n * 1 ≤ n * it.bytes := Nat.mul_le_mul_left _ h2
        omega
      refine does_appB (e := e) hI ho hc1 hc2 hc3 hzs h1 hra hnl hnrep (fun hbb hb0 hn0 e1 => ?_) (fun b len cap arr T fr e1 hfr hroom hh hfit => ?_) (fun b len cap olds e1 h1 h2 h3 hbb hb0 => ?_) hv
      · have := small _ hbb hb0
        rw [e1, ey]
        exact run_append_nil (P := P) w t o.type e it zv ht hi hz ⟨b2, off2, none⟩ ys.length cap2 news hnl hncell hn0 (by omega) (by omega)
      · rw [e1, ey]
        exact append_fits_row (P := P) o.type ht hi b len cap ⟨b2, off2, none⟩ ys.length cap2 news arr T fr hnl hncell hroom hh hfr hfit hnone
      · have := small _ hbb hb0
        rw [e1, ey]
        exact run_append_grow (P := P) w t o.type e it zv ht hi hz b len cap olds h1 h2 ⟨b2, off2, none⟩ ys.length cap2 news hnl hncell h3 (by omega) (growslice_fits (by omega) hbb)
    · simp at hv
  · simp at hex

theorem does_unsf2 {c : Call} {a x : Operand} {a' x' : VO} {t u e : TypeId} {it : TypeInfo} {zv : Value} {r : AV} {s' : St} (hI : Inv P G0 w0 G w s tv) (ho : o.op = .call c) (hc1 : c.callee = .builtin .append) (hc2 : c.args = #[a, x]) (hc3 : c.argTypes = #[t, u])
    (ht : P.underlying t = some (.slice e)) (hu : P.underlying u = some .string) (hi : P.info? e = some it) (hz : it.zero = some zv) (hzs : zv.cells.size = it.size) (h1 : it.size = 1) (ha : trO P a = some a') (hx : trO P x = some x') (he : OkEv P G w s.ev ρ)
    (hex : exec d (.unsf 2 e it.bytes a' x') s = some (r, s')) : Does P ρ o G0 w0 w tv d r s' := by
  have hra := he _ _ ha
  have hrx := he _ _ hx
  simp only [exec, unsfV] at hex
  split at hex
  · rename_i v m hap
    simp only [Option.some.injEq, Prod.mk.injEq] at hex
    obtain ⟨rfl, rfl⟩ := hex
    split at hap
    · rename_i bs hv
      rw [hv] at hrx
      obtain ⟨y, ey, rfl⟩ := hrx.str_inv
      have hys : y.data.toList.length = y.size := Array.length_toList
      split at hap
      · rename_i hnil
        have h0 : y.size = 0 := by rw [← hys, hnil]; rfl
        split at hap
        · rename_i ow hav
          simp only [Option.some.injEq, Prod.mk.injEq] at hap
          obtain ⟨rfl, rfl⟩ := hap
          rw [hav] at hra
          rcases hra.vec_inv with ⟨_, _, e1⟩ | ⟨_, _, _, _, _, h0, _⟩ | ⟨_, h0, _⟩
          rotate_left 2
          · simp at h0
          · have hrun := append_none_str (P := P) (w := w) o.type ht hu hi none 0 0 (Nat.le_refl _) y h0
            rw [← e1, ← ey] at hrun
            exact ⟨_, w, G, .inl (builtin_append_run ho hc1 hc2 hc3 hrun), hI, by rw [e1]; exact .of (.nilvec _), OwnAt.of_notOwn trivial⟩
          · simp at h0
        · rename_i T n i len hav
          simp only [Option.some.injEq, Prod.mk.injEq] at hap
          obtain ⟨rfl, rfl⟩ := hap
          rw [hav] at hra
          obtain ⟨b, cap, ms, hb, e1, hcap, _⟩ := hra.trow_inv
          have hrun := append_none_str (P := P) (w := w) o.type ht hu hi (some ⟨b, 0, none⟩) len cap hcap y h0
          rw [← e1, ← ey] at hrun
          exact ⟨_, w, G, .inl (builtin_append_run ho hc1 hc2 hc3 hrun), hI, hra, OwnAt.of_notOwn trivial⟩
        · simp at hap
      · have hlen : (y.data.toList.map fun b => AV.int .u8 b.toNat).length = y.size := by rw [List.length_map]; exact hys
        have small : ∀ n : Nat, n * it.bytes ≤ 140737488355328 → 0 < it.bytes → n ≤ 140737488355328 := fun n h1 h2 => by
          have : n * 1 ≤ n * it.bytes := Nat.mul_le_mul_left _ h2
          omega
        refine does_appB (news := strNews y) (e := e) (zv := zv) hI ho hc1 hc2 hc3 hzs h1 hra (by rw [strNews_len, hlen, h1, Nat.mul_one]) ?_ (fun hbb hb0 hn0 e1 => ?_) (fun b len cap arr T fr e1 hfr hroom hh hfit => ?_) (fun b len cap olds e1 h2 h3 h4 hbb hb0 => ?_) hap
        · rw [flat_ints]
          refine ⟨by simp [strNews], fun j a v ha hv => ?_⟩
          simp only [strNews, List.getElem?_map] at ha hv
          cases hj : y.data.toList[j]? with
          | none => rw [hj] at ha; simp at ha
          | some q =>
            rw [hj] at ha hv
            simp only [Option.map_some, Option.some.injEq] at ha hv
            subst ha; subst hv
            exact .int _ _
        · rw [hlen] at hbb hn0 ⊢
          have := small _ hbb hb0
          rw [e1, ey]
          exact append_nil_str (P := P) (w := w) o.type ht hu hi hz y hn0 (by omega) (by omega)
        · rw [hlen] at hroom ⊢
          rw [e1, ey]
          exact append_fits_str (P := P) (w := w) o.type ht hu hi b len cap y arr T fr hroom hh hfr hfit
        · rw [hlen] at h4 hbb ⊢
          have := small _ hbb hb0
          rw [e1, ey]
          exact append_grow_str (P := P) (w := w) o.type ht hu hi hz b len cap olds h2 h3 y h4 (by omega) (growslice_fits (by omega) hbb)
    · simp at hap
  · simp at hex

theorem does_unsf4 {c : Call} {x n : Operand} {x' n' : VO} {pt nt e : TypeId} {r : AV} {s' : St} (hI : Inv P G0 w0 G w s tv) (ho : o.op = .call c) (hc1 : c.callee = .builtin .unsafeString) (hc2 : c.args = #[x, n]) (hc3 : c.argTypes = #[pt, nt])
    (hp : P.underlying pt = some (.pointer e)) (hcel : P.cellsOf e = 1) (hx : trO P x = some x') (hn : trO P n = some n') (he : OkEv P G w s.ev ρ)
    (hex : exec d (.unsf 4 e 0 x' n') s = some (r, s')) : Does P ρ o G0 w0 w tv d r s' := by
  have hrx := he _ _ hx
  have hrn := he _ _ hn
  have hrun : ∀ v w', (Builtin.unsafeString_ #[pt, nt] o.type #[ρ x, ρ n]).run P w = .ok v w' → (execOp ρ o).run P w = .ok (.value v) w' := by
    intro v w' h
    simp [execOp, ho, resolve, hc1, hc2, hc3, invoke, builtin, h]
  simp only [exec, unsfV] at hex
  split at hex
  · rename_i v m hv
    simp only [Option.some.injEq, Prod.mk.injEq] at hex
    obtain ⟨rfl, rfl⟩ := hex
    split at hv
    · rename_i ex en
      rw [ex] at hrx; rw [en] at hrn
      have e1 := hrx.nilptr_inv
      have e2 := hrn.int_inv
      simp only [Option.some.injEq, Prod.mk.injEq] at hv
      obtain ⟨rfl, rfl⟩ := hv
      refine ⟨.string .empty, w, G, .inl (hrun _ _ ?_), hI, .of (.str .empty), OwnAt.of_notOwn trivial⟩
      rw [e1, e2]
      exact Lib.run_unsafeString_none (P := P) w pt nt o.type none
    · rename_i T' nn i l k ex en
      rw [ex] at hrx; rw [en] at hrn
      obtain ⟨b, ms, hb, e1, hs⟩ := hrx.tptr_inv
      have e2 := hrn.int_inv
      split at hv
      · rename_i cs hobj
        split at hv
        · rename_i hcnd
          obtain ⟨rfl, hk0, hkl, hkb⟩ := hcnd
          split at hv
          · rename_i bs hbs
            simp only [Option.some.injEq, Prod.mk.injEq] at hv
            obtain ⟨rfl, rfl⟩ := hv
            have hinv := bytesR_inv _ _ hbs
            have hobj' : s.obj (.mem i) = some (.cells false cs) := by simp [St.obj, hobj]
            obtain ⟨b', hb', hlt, hat⟩ := hI.obj _ _ hobj'
            have hbb' : b = b' := by
              have : G.mb i = some b' := hb'
              rw [hb] at this
              simpa using this
            subst hbb'
            obtain ⟨hrole, arr, T, fr, hh, hfr, hl, hcell⟩ := objAt_inv hat
            have hTm : T = T' ∧ arr.size = ms := by
              simp only [World.shape?, hh, Option.some.injEq, Prod.mk.injEq] at hs
              exact hs
            obtain ⟨rfl, rfl⟩ := hTm
            have hbl : bs.length = k.toNat := by
              have := congrArg List.length hinv
              simp at this; omega
            have hkk : (bs.length : Int) = k := by omega
            have hrs := Lib.run_unsafeString_row (P := P) w pt nt o.type T hp hcel b arr.size hs bs (by intro h; rw [h] at hbl; simp at hbl; omega) (by omega) (by omega) (fun j x hj => by
              obtain ⟨hj1, rfl⟩ := List.getElem?_eq_some_iff.1 hj
              have hj2 : j < cs.length := by omega
              have hj3 : j < arr.size := by omega
              have hc := (hcell j hj2 hj3).1
              have hq : (cs.take k.toNat)[j]? = (bs.map fun b => AV.int .u8 b.toNat)[j]? := by rw [hinv]
              rw [List.getElem?_take, if_pos (by omega), List.getElem?_eq_getElem hj2, List.getElem?_map, List.getElem?_eq_getElem hj1] at hq
              simp only [Option.map_some, Option.some.injEq] at hq
              rw [hq] at hc
              rw [add_off]
              simp only [World.cell?, hh, Nat.zero_add]
              rw [Array.getElem?_eq_getElem hj3]
              generalize arr[j] = q at hc
              cases hc; rfl)
            obtain ⟨fr', hw⟩ := freeze_wrote w (n := bs.length) hh (by omega)
            refine ⟨.string ⟨bs.toArray⟩, _, G, .inl (hrun _ _ ?_), hI.wrote (o' := .cells true []) hobj' hb hrole hw (fun _ => ⟨fun _ => undef, fun j hj => by simp at hj⟩), .of ?_, OwnAt.of_notOwn trivial⟩
            · rw [e1, e2, ← hkk]
              exact hrs
            · have := Rep.str (G := G) (w := w.freeze ⟨b, 0, none⟩ bs.length) ⟨bs.toArray⟩
              simpa using this
          · simp at hv
        · simp at hv
      · simp at hv
    · simp at hv
  · simp at hex

theorem next_ne : Extern.allNextRows.lookup "internal/abi.NoEscape" = none := by kernel_rfl
theorem next_nil' : Extern.allNextRows.lookup "" = none := by kernel_rfl
theorem gen_ne : Extern.allGenericRows.lookup "internal/abi.NoEscape" = none := by kernel_rfl
theorem typ_ne : Extern.allTypedRows.lookup "internal/abi.NoEscape" = none := by kernel_rfl
theorem row_ne : Extern.allRows.lookup "internal/abi.NoEscape" = some Extern.AbiNoEscape.same := by kernel_rfl

def isNoEsc (P : Program) (f : FuncId) : Bool :=
  match P.funcs[f]? with
  | some fn => decide (fn.body.isNone = true ∧ fn.name = "internal/abi.NoEscape" ∧ (fn.origin = "" ∨ fn.origin = "internal/abi.NoEscape"))
  | none => false

theorem does_up {k n : Nat} {x' y' : VO} {a : AV} {s' : St} (_ : Inv P G0 w0 G w s tv) (hx : exec d (.upure k n x' y') s = some (a, s'))
    (h : ∀ a, upV k n (s.ev x') (s.ev y') = some a → Does P ρ o G0 w0 w tv d a s) : Does P ρ o G0 w0 w tv d a s' := by
  simp only [exec, pval] at hx
  split at hx
  · rename_i v hv
    simp only [Option.some.injEq, Prod.mk.injEq] at hx
    obtain ⟨rfl, rfl⟩ := hx
    exact h _ hv
  · simp at hx

theorem up_data {c : Call} {x : Operand} {x' y : VO} {st : TypeId} {a : AV} (hI : Inv P G0 w0 G w s tv) (ho : o.op = .call c) (hc1 : c.callee = .builtin .unsafeSliceData) (hc2 : c.args = #[x]) (hc3 : c.argTypes = #[st])
    (hx : trO P x = some x') (he : OkEv P G w s.ev ρ) (h : upV 0 0 (s.ev x') (s.ev y) = some a) : Does P ρ o G0 w0 w tv d a s := by
  have hr := he _ _ hx
  have hrun : ∀ v w', (Builtin.unsafeSliceData_ #[st] o.type #[ρ x]).run P w = .ok v w' → (execOp ρ o).run P w = .ok (.value v) w' := by
    intro v w' h
    simp [execOp, ho, resolve, hc1, hc2, hc3, invoke, builtin, h]
  simp only [upV] at h
  split at h
  · rename_i hv
    rw [hv] at hr
    simp only [Option.some.injEq] at h; subst h
    rcases hr.vec_inv with ⟨_, _, e1⟩ | ⟨_, _, _, _, _, h0, _⟩ | ⟨_, h0, _⟩
    rotate_left 2
    · simp at h0
    · exact ⟨_, w, G, .inl (hrun _ _ (by rw [e1]; exact Lib.run_unsafeSliceData_nil (P := P) w _ _ 0 0)), hI, .of .nilptr, OwnAt.of_notOwn trivial⟩
    · simp at h0
  · rename_i T n i len hv
    rw [hv] at hr
    split at h
    · rename_i hl
      simp only [Option.some.injEq] at h; subst h
      obtain ⟨b, cap, ms, hb, e1, hcap, hs, _⟩ := hr.trow_inv
      exact ⟨_, w, G, .inl (hrun _ _ (by rw [e1]; exact Lib.run_unsafeSliceData_row (P := P) w _ _ _ _ _ (by omega))), hI, .of (.tptr T n i 0 b ms hb hs), OwnAt.of_notOwn trivial⟩
    · simp at h
  · simp at h

theorem up_eq {op : BinOp} {t yt te : TypeId} {j : TypeInfo} {x y : Operand} {x' y' : VO} {k : Nat} {a : AV} (hI : Inv P G0 w0 G w s tv) (ho : o.op = .binOp op t x y yt) (ht : P.underlying t = some (.pointer te)) (hj : P.info? te = some j)
    (hk : (op = .eql ∧ k = 1) ∨ (op = .neq ∧ k = 2)) (hx : trO P x = some x') (hy : trO P y = some y') (he : OkEv P G w s.ev ρ) (h : upV k 0 (s.ev x') (s.ev y') = some a) : Does P ρ o G0 w0 w tv d a s := by
  have hrx := he _ _ hx
  have hry := he _ _ hy
  rcases hk with ⟨rfl, rfl⟩ | ⟨rfl, rfl⟩
  · simp only [upV] at h
    split at h
    rotate_left
    · simp at h
    · rename_i x1 o1 y1 o2 hx1 hy1
      split at h
      · rename_i hc
        obtain ⟨rfl, rfl⟩ := hc
        simp only [Option.some.injEq] at h; subst h
        rw [hx1] at hrx; rw [hy1] at hry
        obtain ⟨b, hb, e1⟩ := hrx.ptr_inv
        obtain ⟨b2, hb2, e2⟩ := hry.ptr_inv
        have : b2 = b := by rw [hb] at hb2; simpa using hb2.symm
        subst this
        refine ⟨.bool true, w, G, .inl ?_, hI, .of (.bool _), OwnAt.of_notOwn trivial⟩
        have hr := run_eql_ptr_same (P := P) (w := w) ⟨b2, o1, none⟩ ht hj
        have hg : eqGuard .eql t x y (.pointer (some ⟨b2, o1, none⟩)) (.pointer (some ⟨b2, o1, none⟩)) = pure () := rfl
        simp [execOp, ho, e1, e2, hr, eqGuard]
      · simp at h
  · simp only [upV] at h
    split at h
    rotate_left
    · simp at h
    · rename_i x1 o1 y1 o2 hx1 hy1
      split at h
      · rename_i hc
        obtain ⟨rfl, rfl⟩ := hc
        simp only [Option.some.injEq] at h; subst h
        rw [hx1] at hrx; rw [hy1] at hry
        obtain ⟨b, hb, e1⟩ := hrx.ptr_inv
        obtain ⟨b2, hb2, e2⟩ := hry.ptr_inv
        have : b2 = b := by rw [hb] at hb2; simpa using hb2.symm
        subst this
        refine ⟨.bool false, w, G, .inl ?_, hI, .of (.bool _), OwnAt.of_notOwn trivial⟩
        have hr := Lib.run_neq_ptr_same (P := P) w ⟨b2, o1, none⟩ ht hj
        simp [execOp, ho, e1, e2, hr, eqGuard]
      · simp at h

theorem up_noEsc {c : Call} {f : FuncId} {x : Operand} {x' y : VO} {a : AV} (hI : Inv P G0 w0 G w s tv) (ho : o.op = .call c) (hc1 : c.callee = .value (.func f)) (hc2 : c.args = #[x]) (hne : isNoEsc P f = true)
    (hx : trO P x = some x') (he : OkEv P G w s.ev ρ) (hf : ρ (.func f) = .func (.func f) #[] #[]) (h : upV 3 0 (s.ev x') (s.ev y) = some a) : Does P ρ o G0 w0 w tv d a s := by
  have hr := he _ _ hx
  unfold isNoEsc at hne
  split at hne
  · rename_i fn hfn
    simp only [decide_eq_true_eq] at hne
    obtain ⟨h1, h2, h3⟩ := hne
    have hname : (fn.name == "runtime.NumGoroutine") = false := by rw [h2]; decide
    have hnx : Extern.findNext fn = none := by
      unfold Extern.findNext
      simp only [h2]
      rcases h3 with h3 | h3 <;> simp only [h3, next_ne, next_nil'] <;> rfl
    have hfd : Extern.find fn = some Extern.AbiNoEscape.same := by
      unfold Extern.find
      simp only [h2, gen_ne, typ_ne, row_ne]
      rfl
    simp only [upV] at h
    split at h
    rotate_left
    · simp at h
    · rename_i i o1 hv
      rw [hv] at hr
      simp only [Option.some.injEq] at h; subst h
      obtain ⟨b, hb, e1⟩ := hr.ptr_inv
      have hargsv : c.args.map ρ = #[.pointer (some ⟨b, o1, none⟩)] := by
        rw [hc2]; simp [e1]
      have hrun := run_callFunc_extern (P := P) hfn hname h1 hnx hfd (c.args.map ρ) w
      rw [hargsv, Lib.run_noEscape] at hrun
      refine ⟨.pointer (some ⟨b, o1, none⟩), w, G, .inl ?_, hI, RepT.ptr_mk hb, OwnAt.of_notOwn trivial⟩
      simp [execOp, ho, resolve, hc1, hf, invoke, Deferred.ofValue, hargsv, hrun, Result.andThen]
  · simp at hne

theorem up_ext {x : Operand} {x' y : VO} {i : Nat} {a : AV} (hI : Inv P G0 w0 G w s tv) (ho : o.op = .extract x i) (hx : trO P x = some x') (he : OkEv P G w s.ev ρ) (h : upV 4 i (s.ev x') (s.ev y) = some a) : Does P ρ o G0 w0 w tv d a s := by
  have hr := he _ _ hx
  simp only [upV] at h
  split at h
  rotate_left
  · simp at h
  · rename_i vs hv
    rw [hv] at hr
    split at h
    · rename_i q hq
      simp only [Option.some.injEq] at h; subst h
      obtain ⟨us, e1, hl, hh⟩ := hr.tup_inv
      have hlt : i < vs.length := (List.getElem?_eq_some_iff.1 hq).1
      have hlt' : i < us.size := by omega
      have ea : vs[i] = q := (List.getElem?_eq_some_iff.1 hq).2
      refine ⟨us[i], w, G, .inl ?_, hI, .of (ea ▸ (hh i hlt hlt').pass), OwnAt.of_notOwn (notOwn_pass _)⟩
      simp [execOp, ho, e1, Instr.extract, hlt']
    · simp at h

/-- The flagged operations. -/
def trU (P : Program) (heap : Nat → Bool) (o : Oper) : Option VOp :=
  if heap (o.dst.getD 0 + 700000) then
    match o.op with
    | .alloc t => match zeroOf P t with
      | some zv => match ofCells zv.cells.toList with
        | some [.nilptr, .vec none false []] => some (.unsf 0 t 0 (.k .undef) (.k .undef))
        | _ => none
      | none => none
    | .convert src dst x => match P.underlying src, P.underlying dst, trO P x with
      | some (.pointer t), some .unsafePointer, some x => match P.info? t with
        | some j => if j.size ≠ 0 then some (.unsf 1 t 2 x (.k .undef)) else none
        | none => none
      | some .unsafePointer, some (.pointer t), some x => match P.info? t with
        | some _ => if liesAt P P.depth t (2 / P.cellsOf t) 0 t 1 = true then some (.unsf 1 t 2 x (.k .undef)) else none
        | none => none
      | _, _, _ => none
    | .call c => match c.callee, c.args.toList, c.argTypes.toList with
      | .builtin .append, [a, x], [t, t'] =>
        if t = t' then match P.underlying t, trO P a, trO P x with
          | some (.slice e), some a, some x => match P.info? e with
            | some it => match it.zero with
              | some zv => if zv.cells.size = it.size ∧ it.size = 1 then some (.unsf 3 e it.bytes a x) else none
              | none => none
            | none => none
          | _, _, _ => none
        else match P.underlying t, P.underlying t', trO P a, trO P x with
          | some (.slice e), some .string, some a, some x => match P.info? e with
            | some it => match it.zero with
              | some zv => if zv.cells.size = it.size ∧ it.size = 1 then some (.unsf 2 e it.bytes a x) else none
              | none => none
            | none => none
          | _, _, _, _ => none
      | .builtin .unsafeSliceData, [x], [_] => match trO P x with
        | some x => some (.upure 0 0 x (.k .undef))
        | none => none
      | .builtin .unsafeString, [x, n], [pt, _] => match P.underlying pt, trO P x, trO P n with
        | some (.pointer e), some x, some n => if P.cellsOf e = 1 then some (.unsf 4 e 0 x n) else none
        | _, _, _ => none
      | .value (.func f), [x], _ => if isNoEsc P f then match trO P x with
          | some x => some (.upure 3 0 x (.k .undef))
          | none => none
        else none
      | _, _, _ => none
    | .binOp op t x y _ => match P.underlying t, trO P x, trO P y with
      | some (.pointer te), some x, some y => match P.info? te with
        | some _ => match op with
          | .eql => some (.upure 1 0 x y)
          | .neq => some (.upure 2 0 x y)
          | _ => none
        | none => none
      | _, _, _ => none
    | .extract x i => match trO P x with
      | some x => some (.upure 4 i x (.k .undef))
      | none => none
    | _ => none
  else none

def unsfB : VOp → Bool
  | .unsf _ _ _ _ _ => true
  | .upure _ _ _ _ => true
  | _ => false

theorem trU_unsf {heap : Nat → Bool} {vop : VOp} (h : trU P heap o = some vop) : unsfB vop = true := by
  unfold trU at h
  repeat' (first | split at h)
  all_goals first
    | (simp at h; done)
    | (simp only [Option.some.injEq] at h; subst h; rfl)

theorem trU_sound {heap : Nat → Bool} {vop : VOp} {a : AV} {s' : St} (hI : Inv P G0 w0 G w s tv) (h : trU P heap o = some vop) (hx : exec d vop s = some (a, s'))
    (he : OkEv P G w s.ev ρ) (hf : ∀ f, ρ (.func f) = .func (.func f) #[] #[]) : Does P ρ o G0 w0 w tv d a s' := by
  unfold trU at h
  split at h
  · split at h
    · rename_i t ho
      split at h
      · rename_i zv hz
        split at h
        · rename_i hcs
          simp only [Option.some.injEq] at h; subst h
          exact does_unsf0 hI ho hz hcs hx
        · simp at h
      · simp at h
    · rename_i src dst x ho
      split at h
      · rename_i t x' h1 h2 hx'
        split at h
        · rename_i j hj
          split at h
          · rename_i hsz
            simp only [Option.some.injEq] at h; subst h
            exact does_unsf1 hI ho hj (.inl ⟨h1, h2, hsz⟩) hx' he hx
          · simp at h
        · simp at h
      · rename_i t x' h1 h2 hx'
        split at h
        · rename_i j hj
          split at h
          · rename_i hsz
            simp only [Option.some.injEq] at h; subst h
            exact does_unsf1 hI ho hj (.inr ⟨h1, h2, hsz⟩) hx' he hx
          · simp at h
        · simp at h
      · simp at h
    · rename_i c ho
      split at h
      · rename_i a0 x0 t t' hcal hargs hts
        have hargs' : c.args = #[a0, x0] := by rw [← Array.toList_inj]; exact hargs
        have hts' : c.argTypes = #[t, t'] := by rw [← Array.toList_inj]; exact hts
        split at h
        · rename_i htt
          subst htt
          split at h
          · rename_i e a' x' ht ha hx'
            split at h
            · rename_i it hi
              split at h
              · rename_i zv hz
                split at h
                · rename_i hzs
                  simp only [Option.some.injEq] at h; subst h
                  exact does_unsf3 hI ho hcal hargs' hts' ht hi hz hzs.1 hzs.2 ha hx' he hx
                · simp at h
              · simp at h
            · simp at h
          · simp at h
        · split at h
          · rename_i e a' x' ht hu ha hx'
            split at h
            · rename_i it hi
              split at h
              · rename_i zv hz
                split at h
                · rename_i hzs
                  simp only [Option.some.injEq] at h; subst h
                  exact does_unsf2 hI ho hcal hargs' hts' ht hu hi hz hzs.1 hzs.2 ha hx' he hx
                · simp at h
              · simp at h
            · simp at h
          · simp at h
      · rename_i x0 st hcal hargs hts
        split at h
        · rename_i x' hx'
          simp only [Option.some.injEq] at h; subst h
          exact does_up hI hx fun a h => up_data hI ho hcal (by rw [← Array.toList_inj]; exact hargs) (by rw [← Array.toList_inj]; exact hts) hx' he h
        · simp at h
      · rename_i x0 n0 pt nt hcal hargs hts
        split at h
        · rename_i e x' n' hp hx' hn'
          split at h
          · rename_i hcel
            simp only [Option.some.injEq] at h; subst h
            exact does_unsf4 hI ho hcal (by rw [← Array.toList_inj]; exact hargs) (by rw [← Array.toList_inj]; exact hts) hp hcel hx' hn' he hx
          · simp at h
        · simp at h
      · rename_i ts f x0 hcal hargs
        split at h
        · rename_i hne
          split at h
          · rename_i x' hx'
            simp only [Option.some.injEq] at h; subst h
            exact does_up hI hx fun a h => up_noEsc hI ho hcal (by rw [← Array.toList_inj]; exact hargs) hne hx' he (hf f) h
          · simp at h
        · simp at h
      · simp at h
    · rename_i op t x y yt ho
      split at h
      · rename_i te x' y' ht hx' hy'
        split at h
        · rename_i j hj
          split at h
          · simp only [Option.some.injEq] at h; subst h
            exact does_up hI hx fun a h => up_eq hI ho ht hj (.inl ⟨rfl, rfl⟩) hx' hy' he h
          · simp only [Option.some.injEq] at h; subst h
            exact does_up hI hx fun a h => up_eq hI ho ht hj (.inr ⟨rfl, rfl⟩) hx' hy' he h
          · simp at h
        · simp at h
      · simp at h
    · rename_i x i ho
      split at h
      · rename_i x' hx'
        simp only [Option.some.injEq] at h; subst h
        exact does_up hI hx fun a h => up_ext hI ho hx' he h
      · simp at h
    · simp at h
  · simp at h

end
end Go.Vm
