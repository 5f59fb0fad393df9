/- Objects: made, read, written. -/
import Derived.Test.YtdodnhbegabbpaaV10
namespace Go.Vm

section
variable {G0 : Gh} {w0 : World} {G : Gh} {w : World} {s : St} {tv : Nat → Value}

def addLoc (s : St) (d : Nat) (o : LObj) : St := { s with loc := fun j => if j = d then s.loc d ++ [o] else s.loc j }
def addMem (s : St) (o : LObj) : St := { s with mem := s.mem ++ [some o] }
def Gh.addLoc (G : Gh) (d k n : Nat) : Gh := { G with lb := fun t k' => if t = d ∧ k' = k then some n else G.lb t k' }
def Gh.addMem (G : Gh) (i n : Nat) : Gh := { G with mb := fun i' => if i' = i then some n else G.mb i' }

/-- A new object, whatever it is: the ghost knows its block. -/
theorem Inv.newObj (h : Inv G0 w0 G w s tv) {w1 : World} (hd : Drawn w w1) (o : Obj) (heap : Bool) (d : Nat) (lo : LObj)
    (hlo : ∀ (G' : Gh) (x : Ix), Le G w G' (w1.alloc o) → G'.role w.heap.size = (.obj x, some 0) → (w1.alloc o).heap[w.heap.size]? = some o → ObjAt G' (w1.alloc o) x w.heap.size lo) :
    (heap = false → ∃ G', Inv G0 w0 G' (w1.alloc o) (addLoc s d lo) tv ∧ G'.at (.loc d (s.loc d).length) = some w.heap.size ∧ Le G w G' (w1.alloc o)) ∧
    (heap = true → ∃ G', Inv G0 w0 G' (w1.alloc o) (addMem s lo) tv ∧ G'.at (.mem s.mem.length) = some w.heap.size ∧ Le G w G' (w1.alloc o)) := by
  have hat : (w1.alloc o).heap[w.heap.size]? = some o := heap_alloc_at _ _ (by rw [hd.heap])
  constructor
  · intro _
    have g := alloc_grow G hd o (.obj (.loc d (s.loc d).length), some 0)
    have hi := h.grow g
    have hlb : ∀ t k b, G.lb t k = some b → ((G.newRole w.heap.size (.obj (.loc d (s.loc d).length), some 0)).addLoc d (s.loc d).length w.heap.size).lb t k = some b := by
      intro t k b e
      simp only [Gh.addLoc]
      split
      · rename_i hh
        obtain ⟨rfl, rfl⟩ := hh
        rw [h.llen t _ (Nat.le_refl _)] at e
        simp at e
      · exact e
    have hle : Le (G.newRole w.heap.size (.obj (.loc d (s.loc d).length), some 0)) (w1.alloc o) ((G.newRole w.heap.size (.obj (.loc d (s.loc d).length), some 0)).addLoc d (s.loc d).length w.heap.size) (w1.alloc o) :=
      ⟨fun _ _ _ a b => ⟨a, b⟩, fun _ _ e => e⟩
    have hkeep : ∀ {x b lo'}, ObjAt (G.newRole w.heap.size (.obj (.loc d (s.loc d).length), some 0)) (w1.alloc o) x b lo' → ObjAt ((G.newRole w.heap.size (.obj (.loc d (s.loc d).length), some 0)).addLoc d (s.loc d).length w.heap.size) (w1.alloc o) x b lo' :=
      fun hh => hh.keep hle (Nat.le_refl _) (fun _ => ⟨rfl, rfl⟩) fun _ _ _ _ _ _ => ⟨rfl, fun k a b => ⟨a, b⟩⟩
    refine ⟨_, { hi with tmp := fun t => (hi.tmp t).mono hle hlb, own := fun t => hi.own t, obj := fun x lo' e => ?_, ext := hi.ext, le := hi.le.trans hle, mlen := hi.mlen, llen := fun t k hk => ?_ }, ?_, g.le.trans hle⟩
    · have old : ∀ x, s.obj x = some lo' → G.at x ≠ none → ((G.newRole w.heap.size (.obj (.loc d (s.loc d).length), some 0)).addLoc d (s.loc d).length w.heap.size).at x = G.at x := by
        intro x _ hx
        cases x with
        | mem i => rfl
        | loc t k =>
          cases hg : G.lb t k with
          | none => exact absurd hg hx
          | some b => exact (hlb t k b hg).trans hg.symm
      by_cases hx : x = .loc d (s.loc d).length
      · subst hx
        have : lo' = lo := by
          simp only [St.obj, addLoc, if_true] at e
          simpa using e.symm
        subst this
        exact ⟨w.heap.size, by simp [Gh.at, Gh.addLoc], by simp [hd.heap], hlo _ _ (g.le.trans hle) (newRole_at _ _ _) hat⟩
      · have e' : s.obj x = some lo' := by
          cases x with
          | mem i => exact e
          | loc t k =>
            simp only [St.obj, addLoc] at e ⊢
            by_cases ht : t = d
            · subst ht
              simp only [if_true] at e
              have hk : k ≠ (s.loc t).length := fun hk => hx (by rw [hk])
              rcases Nat.lt_or_ge k (s.loc t).length with h' | h'
              · rwa [List.getElem?_append_left h'] at e
              · rw [List.getElem?_append_right h'] at e
                have : k - (s.loc t).length ≠ 0 := by omega
                cases hq : k - (s.loc t).length with
                | zero => exact absurd hq this
                | succ q => rw [hq] at e; simp at e
            · simpa [ht] using e
        obtain ⟨b, h1, h2, h3⟩ := hi.obj x lo' e'
        obtain ⟨b', h1', _, _⟩ := h.obj x lo' e'
        refine ⟨b, ?_, h2, hkeep h3⟩
        rw [old x e' (by rw [h1']; simp), ← h1]
        cases x <;> rfl
    · simp only [addLoc] at hk
      simp only [Gh.addLoc]
      by_cases ht : t = d
      · subst ht
        simp at hk
        rw [if_neg (by omega)]
        exact h.llen t k (by omega)
      · rw [if_neg (by simp [ht])]
        exact h.llen t k (by simpa [ht] using hk)
    · simp [Gh.at, Gh.addLoc]
  · intro _
    have g := alloc_grow G hd o (.obj (.mem s.mem.length), some 0)
    have hi := h.grow g
    have hmb : ∀ i b, G.mb i = some b → ((G.newRole w.heap.size (.obj (.mem s.mem.length), some 0)).addMem s.mem.length w.heap.size).mb i = some b := by
      intro i b e
      simp only [Gh.addMem]
      split
      · rename_i hh
        subst hh
        rw [h.mlen _ (Nat.le_refl _)] at e
        simp at e
      · exact e
    have hle : Le (G.newRole w.heap.size (.obj (.mem s.mem.length), some 0)) (w1.alloc o) ((G.newRole w.heap.size (.obj (.mem s.mem.length), some 0)).addMem s.mem.length w.heap.size) (w1.alloc o) :=
      ⟨fun _ _ _ a b => ⟨a, b⟩, hmb⟩
    have hkeep : ∀ {x b lo'}, ObjAt (G.newRole w.heap.size (.obj (.mem s.mem.length), some 0)) (w1.alloc o) x b lo' → ObjAt ((G.newRole w.heap.size (.obj (.mem s.mem.length), some 0)).addMem s.mem.length w.heap.size) (w1.alloc o) x b lo' :=
      fun hh => hh.keep hle (Nat.le_refl _) (fun _ => ⟨rfl, rfl⟩) fun _ _ _ _ _ _ => ⟨rfl, fun k a b => ⟨a, b⟩⟩
    refine ⟨_, { hi with tmp := fun t => (hi.tmp t).mono hle (fun _ _ _ e => e), own := fun t => hi.own t, obj := fun x lo' e => ?_, ext := hi.ext, le := hi.le.trans hle, mlen := fun i hi' => ?_, llen := hi.llen }, ?_, g.le.trans hle⟩
    · by_cases hx : x = .mem s.mem.length
      · subst hx
        have : lo' = lo := by
          simp only [St.obj, addMem] at e
          simpa using e.symm
        subst this
        exact ⟨w.heap.size, by simp [Gh.at, Gh.addMem], by simp [hd.heap], hlo _ _ (g.le.trans hle) (newRole_at _ _ _) hat⟩
      · have e' : s.obj x = some lo' := by
          cases x with
          | loc t k => exact e
          | mem i =>
            simp only [St.obj, addMem] at e ⊢
            have hk : i ≠ s.mem.length := fun hk => hx (by rw [hk])
            rcases Nat.lt_or_ge i s.mem.length with h' | h'
            · rwa [List.getElem?_append_left h'] at e
            · rw [List.getElem?_append_right h'] at e
              cases hq : i - s.mem.length with
              | zero => omega
              | succ q => rw [hq] at e; simp at e
        obtain ⟨b, h1, h2, h3⟩ := hi.obj x lo' e'
        obtain ⟨b', h1', _, _⟩ := h.obj x lo' e'
        refine ⟨b, ?_, h2, hkeep h3⟩
        have h1'' : G.at x = some b := by rw [← h1]; cases x <;> rfl
        cases x with
        | loc t k => exact h1''
        | mem i => exact hmb i b h1''
    · simp only [addMem, List.length_append, List.length_cons, List.length_nil] at hi'
      simp only [Gh.addMem]
      rw [if_neg (by omega)]
      exact h.mlen i (by omega)
    · simp [Gh.at, Gh.addMem]

/-- One block is written. -/
structure Wrote (b : Nat) (o : Obj) (w w' : World) : Prop where
  os : w'.os = w.os
  tape : w'.tape = w.tape
  output : w'.output = w.output
  size : w'.heap.size = w.heap.size
  at_ : w'.heap[b]? = some o
  ne : ∀ b', b' ≠ b → w'.heap[b']? = w.heap[b']?

theorem Wrote.le {b : Nat} {o : Obj} {w' : World} (h : Wrote b o w w') (hb : ∀ k, ¬ stable G.role b k) : Le G w G w' :=
  ⟨fun b' k u hs hc => ⟨hs, by
    have : b' ≠ b := by rintro rfl; exact hb k hs
    rw [cell?_of_heap (h.ne b' this)]; exact hc⟩, fun _ _ e => e⟩

theorem not_stable_obj {x : Ix} {b : Nat} (h : G.role b = (.obj x, some 0)) (k : Nat) : ¬ stable G.role b k := by
  unfold stable; rw [h]; simp

theorem obj_setObj {s : St} {x : Ix} {o o' : LObj} (h : s.obj x = some o) : (s.setObj x o').obj x = some o' := by
  cases x with
  | loc t k =>
    simp only [St.obj, St.setObj, if_true] at h ⊢
    obtain ⟨hk, _⟩ := List.getElem?_eq_some_iff.1 h
    simp [hk]
  | mem i =>
    simp only [St.obj, St.setObj] at h ⊢
    cases hm : s.mem[i]? with
    | none => simp [hm] at h
    | some z =>
      obtain ⟨hk, _⟩ := List.getElem?_eq_some_iff.1 hm
      simp [hk]

theorem obj_setObj_ne {s : St} {x y : Ix} {o' : LObj} (h : y ≠ x) : (s.setObj x o').obj y = s.obj y := by
  cases x with
  | loc t k =>
    cases y with
    | mem i => rfl
    | loc t' k' =>
      simp only [St.obj, St.setObj]
      by_cases ht : t' = t
      · subst ht
        have : k ≠ k' := fun e => h (by rw [e])
        simp [this]
      · simp [ht]
  | mem i =>
    cases y with
    | loc t k => rfl
    | mem i' =>
      simp only [St.obj, St.setObj]
      have : i ≠ i' := fun e => h (by rw [e])
      simp [this]

theorem setObj_lens (s : St) (x : Ix) (o : LObj) : (∀ t, ((s.setObj x o).loc t).length = (s.loc t).length) ∧ (s.setObj x o).mem.length = s.mem.length ∧ (s.setObj x o).tmp = s.tmp := by
  cases x with
  | loc t k =>
    refine ⟨fun t' => ?_, rfl, rfl⟩
    simp only [St.setObj]
    split
    · rename_i e; subst e; simp
    · rfl
  | mem i => exact ⟨fun _ => rfl, by simp [St.setObj], rfl⟩

/-- An object is written. -/
theorem Inv.wrote (h : Inv G0 w0 G w s tv) {x : Ix} {o o' : LObj} {b : Nat} {ob : Obj} {w' : World} (hx : s.obj x = some o) (hb : G.at x = some b) (hr : G.role b = (.obj x, some 0))
    (hw : Wrote b ob w w') (hnew : Le G w G w' → ObjAt G w' x b o') : Inv G0 w0 G w' (s.setObj x o') tv := by
  have hle : Le G w G w' := hw.le (not_stable_obj hr)
  have hk : ∀ (b' : Nat), (G.role b').1 ≠ .obj x → b' ≠ b := fun b' e eb => by subst eb; exact e (by rw [hr])
  have hcf : ∀ b', b' ≠ b → ∀ k, (∃ u, w.cell? ⟨b', k, none⟩ = some u) → w.frozen? ⟨b', k, none⟩ = false → (∃ u, w'.cell? ⟨b', k, none⟩ = some u) ∧ w'.frozen? ⟨b', k, none⟩ = false := by
    intro b' hne k h1 h2
    exact ⟨by rw [cell?_of_heap (hw.ne b' hne)]; exact h1, by rw [frozen?_of_heap (hw.ne b' hne)]; exact h2⟩
  refine { os := hw.os.trans h.os, tape := hw.tape.trans h.tape, output := hw.output.trans h.output, size := by rw [hw.size]; exact h.size, tmp := fun t => ?_, own := fun t => ?_, obj := fun y lo e => ?_, ext := fun b' hb' e => ?_, le := h.le.trans hle, mlen := ?_, llen := ?_ }
  · rw [(setObj_lens s x o').2.2]; exact (h.tmp t).mono hle (fun _ _ _ e => e)
  · rw [(setObj_lens s x o').2.2]
    refine (h.own t).keep (by rw [hw.size]; exact Nat.le_refl _) fun b' c => ⟨rfl, hcf b' (hk b' ?_)⟩
    rw [(h.own t).role c]; simp
  · by_cases hy : y = x
    · subst hy
      rw [obj_setObj hx] at e
      simp only [Option.some.injEq] at e
      subst e
      obtain ⟨b', h1, h2, _⟩ := h.obj y o hx
      rw [hb] at h1
      simp only [Option.some.injEq] at h1
      subst h1
      exact ⟨b, hb, by rw [hw.size]; exact h2, hnew hle⟩
    · rw [obj_setObj_ne hy] at e
      obtain ⟨by_, h1, h2, h3⟩ := h.obj y lo e
      refine ⟨by_, h1, by rw [hw.size]; exact h2, h3.keep hle (by rw [hw.size]; exact Nat.le_refl _) (fun e => ⟨rfl, hw.ne _ (hk by_ (by rw [e]; simpa using hy))⟩) fun j a v b' ho c => ⟨rfl, hcf b' (hk b' ?_)⟩⟩
      rw [ho.role c]; simp
  · obtain ⟨k1, k2⟩ := h.ext b' hb' e
    refine ⟨(hw.ne b' (hk b' ?_)).trans k1, k2⟩
    rw [k2, e]; simp
  · intro i hi; exact h.mlen i (by rw [← (setObj_lens s x o').2.1]; exact hi)
  · intro t k hk'; exact h.llen t k (by rw [← (setObj_lens s x o').1 t]; exact hk')

end
end Go.Vm
