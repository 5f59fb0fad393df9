/- How what is kept of memory goes on, step by step. -/
import Derived.Test.YtdodnhbegabbpaaV9
namespace Go.Vm

def upd (tv : Nat → Value) (d : Nat) (v : Value) : Nat → Value := fun j => if j = d then v else tv j

section
variable {G0 : Gh} {w0 : World} {G : Gh} {w : World} {s : St} {tv : Nat → Value}

theorem obj_set (s : St) (d : Nat) (a : AV) (x : Ix) : (s.set d a).obj x = s.obj x := by
  cases x <;> rfl

theorem Inv.put (h : Inv G0 w0 G w s tv) {d : Nat} {a : AV} {v : Value} (ha : RepT G w a v) (ho : OwnAt G w (.slot d) a v) : Inv G0 w0 G w (s.set d a) (upd tv d v) :=
  { h with
    tmp := fun t => by
      by_cases e : t = d
      · subst e; simpa [St.set, upd] using ha
      · simpa [St.set, upd, e] using h.tmp t
    own := fun t => by
      by_cases e : t = d
      · subst e; simpa [St.set, upd] using ho
      · simpa [St.set, upd, e] using h.own t
    obj := fun x o e => h.obj x o (by rw [← obj_set s d a]; exact e) }

theorem Inv.dropT (h : Inv G0 w0 G w s tv) (t : Nat) : Inv G0 w0 G w (s.set t (s.get t).view) tv :=
  { h with
    tmp := fun j => by
      by_cases e : j = t
      · subst e; simpa [St.set, St.get] using (h.tmp j).view
      · simpa [St.set, e] using h.tmp j
    own := fun j => by
      by_cases e : j = t
      · subst e; simpa [St.set, St.get] using OwnAt.view
      · simpa [St.set, e] using h.own j
    obj := fun x o e => h.obj x o (by rw [← obj_set s t]; exact e) }

/-- A holder's real claim on a block. -/
def Claims (a : AV) (v : Value) (b : Nat) : Prop := ∃ z nn xs off len cap, a = .vec (some z) nn xs ∧ v = .slice (some ⟨b, off, none⟩) len cap ∧ len ≠ cap

theorem OwnAt.role {o : Owner} {a : AV} {v : Value} {b : Nat} (h : OwnAt G w o a v) (c : Claims a v b) : (G.role b).1 = o := by
  obtain ⟨z, nn, xs, off, len, cap, rfl, rfl, hne⟩ := c
  rcases (h z nn xs rfl).2 b off len cap rfl with e | ⟨_, e, _⟩
  · exact absurd e hne
  · rw [e]

/-- What is known of a claim goes on where its block stays. -/
theorem OwnAt.keep {G' : Gh} {w' : World} {o : Owner} {a : AV} {v : Value} (h : OwnAt G w o a v) (hs : w.heap.size ≤ w'.heap.size)
    (hb : ∀ b, Claims a v b → G'.role b = G.role b ∧ ∀ k, (∃ u, w.cell? ⟨b, k, none⟩ = some u) → w.frozen? ⟨b, k, none⟩ = false → (∃ u, w'.cell? ⟨b, k, none⟩ = some u) ∧ w'.frozen? ⟨b, k, none⟩ = false) :
    OwnAt G' w' o a v := by
  intro z nn xs e
  refine ⟨(h z nn xs e).1, fun b off len cap ev => ?_⟩
  by_cases hne : len = cap
  · exact .inl hne
  · rcases (h z nn xs e).2 b off len cap ev with e' | ⟨h1, h2, h3⟩
    · exact absurd e' hne
    · obtain ⟨k1, k2⟩ := hb b ⟨z, nn, xs, off, len, cap, e, ev, hne⟩
      exact .inr ⟨Nat.lt_of_lt_of_le h1 hs, k1.trans h2, fun k hk hk' => k2 k (h3 k hk hk').1 (h3 k hk hk').2⟩

theorem Le.newRole {b : Nat} {r : Owner × Option Nat} (hst : ∀ o, stable G.role b o → stable (G.newRole b r).role b o) : Le G w (G.newRole b r) w :=
  ⟨fun b' o u hs hc => ⟨by
      by_cases e : b' = b
      · subst e; exact hst o hs
      · exact stable_of_role (newRole_ne _ _ e) hs, hc⟩, fun i b' e => e⟩

/-- An object's facts go on. -/
theorem ObjAt.keep {G' : Gh} {w' : World} {x : Ix} {b : Nat} {o : LObj} (h : ObjAt G w x b o) (l : Le G w G' w') (hs : w.heap.size ≤ w'.heap.size)
    (hr : (G.role b).1 = .obj x → G'.role b = G.role b ∧ w'.heap[b]? = w.heap[b]?)
    (hb : ∀ j a v b', OwnAt G w (.cell x j) a v → Claims a v b' → G'.role b' = G.role b' ∧ ∀ k, (∃ u, w.cell? ⟨b', k, none⟩ = some u) → w.frozen? ⟨b', k, none⟩ = false → (∃ u, w'.cell? ⟨b', k, none⟩ = some u) ∧ w'.frozen? ⟨b', k, none⟩ = false) :
    ObjAt G' w' x b o := by
  cases o with
  | cells fz cs =>
    cases fz
    · obtain ⟨h1, arr, T, h2, h3, h4⟩ := h
      obtain ⟨k1, k2⟩ := hr (by rw [h1])
      exact ⟨k1.trans h1, arr, T, k2.trans h2, h3, fun j j1 j2 => ⟨(h4 j j1 j2).1.mono l, (h4 j j1 j2).2.keep hs fun b' c => hb j _ _ b' (h4 j j1 j2).2 c⟩⟩
    · exact ObjAt.frozen l h
  | iter s pos =>
    obtain ⟨k1, k2⟩ := hr (by rw [h.1])
    exact ⟨k1.trans h.1, k2.trans h.2⟩

/-- A block that a slot or a cell held, and holds no more, gets another role. -/
theorem Inv.recl (h : Inv G0 w0 G w s tv) {b : Nat} {o0 : Owner} (hb : (G.role b).1 = o0) (ho : o0 ≠ .ext ∧ ∀ x, o0 ≠ .obj x) {r : Owner × Option Nat}
    (hst : ∀ o, stable G.role b o → stable (G.newRole b r).role b o) (ht : ∀ t, o0 = .slot t → ¬ Claims (s.tmp t) (tv t) b)
    (hc : ∀ x j bx cs arr T, o0 = .cell x j → s.obj x = some (.cells false cs) → G.at x = some bx → w.heap[bx]? = some (.cells arr T (0, 0)) → ∀ (h1 : j < cs.length) (h2 : j < arr.size), ¬ Claims cs[j] arr[j] b) :
    Inv G0 w0 (G.newRole b r) w s tv where
  os := h.os
  tape := h.tape
  output := h.output
  size := h.size
  tmp t := (h.tmp t).mono (.newRole hst) (fun _ _ _ e => e)
  own t := by
    refine (h.own t).keep (Nat.le_refl _) fun b' c => ⟨?_, fun k h1 h2 => ⟨h1, h2⟩⟩
    by_cases e : b' = b
    · subst e
      have := (h.own t).role c
      exact absurd c (ht t (hb.symm.trans this))
    · exact newRole_ne _ _ e
  obj x o e := by
    obtain ⟨bx, h1, h2, h3⟩ := h.obj x o e
    have hne : (G.role bx).1 = .obj x → bx ≠ b := by
      rintro e rfl
      exact ho.2 x (hb.symm.trans e)
    refine ⟨bx, h1, h2, ?_⟩
    cases o with
    | cells fz cs =>
      cases fz
      · obtain ⟨k1, arr, T, k2, k3, k4⟩ := h3
        refine ⟨(newRole_ne _ _ (hne (by rw [k1]))).trans k1, arr, T, k2, k3, fun j j1 j2 => ⟨(k4 j j1 j2).1.mono (.newRole hst), (k4 j j1 j2).2.keep (Nat.le_refl _) fun b' c => ⟨?_, fun k h1 h2 => ⟨h1, h2⟩⟩⟩⟩
        by_cases eb : b' = b
        · subst eb
          have := (k4 j j1 j2).2.role c
          exact absurd c (hc x j bx cs arr T (hb.symm.trans this) e h1 k2 j1 j2)
        · exact newRole_ne _ _ eb
      · exact ObjAt.frozen (.newRole hst) h3
    | iter ss pos => exact ⟨(newRole_ne _ _ (hne (by rw [h3.1]))).trans h3.1, h3.2⟩
  ext b' hb' e := by
    obtain ⟨k1, k2⟩ := h.ext b' hb' e
    refine ⟨k1, (newRole_ne _ _ ?_).trans k2⟩
    rintro rfl
    exact ho.1 (by rw [← hb, k2, e])
  le := h.le.trans (.newRole hst)
  mlen := h.mlen
  llen := h.llen

/-- A slot's value moves on, with the right to append if it had it. -/
theorem Inv.takeT (h : Inv G0 w0 G w s tv) (t : Nat) : ∃ G', Inv G0 w0 G' w (s.takeT t).2 tv ∧ RepT G' w (s.takeT t).1 (tv t) ∧ OwnAt G' w .air (s.takeT t).1 (tv t) ∧ G'.mb = G.mb ∧ G'.lb = G.lb ∧ Le G w G' w := by
  unfold St.takeT
  split
  · rename_i z nn xs e
    have hrep : RepT G w (.vec (some z) nn xs) (tv t) := by have := h.tmp t; rw [show s.tmp t = _ from e] at this; exact this
    have hown : OwnAt G w (.slot t) (.vec (some z) nn xs) (tv t) := by have := h.own t; rw [show s.tmp t = _ from e] at this; exact this
    have hdrop : Inv G0 w0 G w (s.set t (.vec none nn xs)) tv := by have := h.dropT t; rw [e] at this; exact this
    by_cases hc : ∃ b, Claims (.vec (some z) nn xs) (tv t) b
    · obtain ⟨b, hc⟩ := hc
      have hr := hown.role hc
      obtain ⟨z', nn', xs', off, len, cap, e1, e2, hne⟩ := hc
      simp only [AV.vec.injEq, Option.some.injEq] at e1
      obtain ⟨rfl, rfl, rfl⟩ := e1
      rcases (hown z nn xs rfl).2 b off len cap e2 with h1 | ⟨h1, h2, h3⟩
      · exact absurd h1 hne
      · have hst : ∀ o, stable G.role b o → stable (G.newRole b (.air, some (off + (flat xs).length))).role b o := by
          intro o ho
          unfold stable at ho ⊢
          rw [h2] at ho
          rw [newRole_at]
          exact ho
        refine ⟨G.newRole b (.air, some (off + (flat xs).length)), hdrop.recl hr ⟨by simp, by simp⟩ hst (fun t' et c => ?_) (fun x j bx cs arr T ex => by simp at ex), hrep.mono (.newRole hst) (fun _ _ _ e => e), ?_, rfl, rfl, .newRole hst⟩
        · simp only [Owner.slot.injEq] at et
          subst et
          obtain ⟨z'', nn'', xs'', _, _, _, e3, _⟩ := c
          simp [St.set] at e3
        · intro z'' nn'' xs'' e3
          simp only [AV.vec.injEq, Option.some.injEq] at e3
          obtain ⟨rfl, rfl, rfl⟩ := e3
          refine ⟨(hown z nn xs rfl).1, fun b' off' len' cap' e4 => ?_⟩
          rw [e2] at e4
          simp only [Value.slice.injEq, Option.some.injEq, Addr.mk.injEq, and_true] at e4
          obtain ⟨⟨rfl, rfl⟩, rfl, rfl⟩ := e4
          exact .inr ⟨h1, newRole_at _ _ _, h3⟩
    · refine ⟨G, hdrop, hrep, ?_, rfl, rfl, .refl G w⟩
      intro z' nn' xs' e3
      refine ⟨(hown z' nn' xs' e3).1, fun b off len cap e4 => .inl ?_⟩
      refine Classical.byContradiction fun hne => hc ⟨b, z', nn', xs', off, len, cap, e3, e4, hne⟩
  · rename_i a hna
    refine ⟨G, h, h.tmp t, OwnAt.of_not fun z nn xs e => ?_, rfl, rfl, .refl G w⟩
    exact hna z nn xs e

/-- What is in flight comes to rest. -/
theorem Inv.land (h : Inv G0 w0 G w s tv) {a : AV} {v : Value} (hr : RepT G w a v) (ho : OwnAt G w .air a v) (ow : Owner) :
    ∃ G', Inv G0 w0 G' w s tv ∧ RepT G' w a v ∧ OwnAt G' w ow a v ∧ G'.mb = G.mb ∧ G'.lb = G.lb ∧ Le G w G' w ∧ (∀ b, (G.role b).1 ≠ .air → G'.role b = G.role b) := by
  by_cases hc : ∃ b, Claims a v b
  · obtain ⟨b, hc⟩ := hc
    have hro := ho.role hc
    obtain ⟨z, nn, xs, off, len, cap, e1, e2, hne⟩ := hc
    subst e1
    rcases (ho z nn xs rfl).2 b off len cap e2 with h1 | ⟨h1, h2, h3⟩
    · exact absurd h1 hne
    · have hst : ∀ o, stable G.role b o → stable (G.newRole b (ow, some (off + (flat xs).length))).role b o := by
        intro o ho
        unfold stable at ho ⊢
        rw [h2] at ho
        rw [newRole_at]
        exact ho
      refine ⟨G.newRole b (ow, some (off + (flat xs).length)), h.recl hro ⟨by simp, by simp⟩ hst (fun t' et => by simp at et) (fun x j bx cs arr T ex => by simp at ex), hr.mono (.newRole hst) (fun _ _ _ e => e), ?_, rfl, rfl, .newRole hst, ?_⟩
      · intro z'' nn'' xs'' e3
        simp only [AV.vec.injEq, Option.some.injEq] at e3
        obtain ⟨rfl, rfl, rfl⟩ := e3
        refine ⟨(ho z nn xs rfl).1, fun b' off' len' cap' e4 => ?_⟩
        rw [e2] at e4
        simp only [Value.slice.injEq, Option.some.injEq, Addr.mk.injEq, and_true] at e4
        obtain ⟨⟨rfl, rfl⟩, rfl, rfl⟩ := e4
        exact .inr ⟨h1, newRole_at _ _ _, h3⟩
      · intro b' hb'
        refine newRole_ne _ _ ?_
        rintro rfl
        exact hb' hro
  · refine ⟨G, h, hr, ?_, rfl, rfl, .refl G w, fun _ _ => rfl⟩
    intro z' nn' xs' e3
    refine ⟨(ho z' nn' xs' e3).1, fun b off len cap e4 => .inl ?_⟩
    refine Classical.byContradiction fun hne => hc ⟨b, z', nn', xs', off, len, cap, e3, e4, hne⟩

end
end Go.Vm
