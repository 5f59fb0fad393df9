/- Calls, and operations one behind the other. -/
import Derived.Test.YtdodnhbegabbpaaV18
namespace Go.Vm

/-- What a callee may see of the ghost. -/
def calleeRole (r : Owner × Option Nat) : Owner × Option Nat :=
  match r.1 with
  | .obj (.mem _) => r
  | .cell (.mem _) _ => r
  | _ => (.ext, r.2)

theorem calleeRole_tip (r : Owner × Option Nat) : (calleeRole r).2 = r.2 := by
  unfold calleeRole; split <;> rfl
theorem calleeRole_same (r : Owner × Option Nat) (h : (calleeRole r).1 ≠ .ext) : calleeRole r = r := by
  unfold calleeRole at h ⊢; split <;> simp_all

def Gh.callee (G : Gh) : Gh := { role := fun b => calleeRole (G.role b), mb := G.mb, lb := fun _ _ => none }

def resSt (v : AV) (m : Mem) : St := { tmp := fun t => if t = 0 then v else .undef, loc := fun _ => [], mem := m }

def Post (G : Gh) (w : World) (v : AV) (m : Mem) (e : Ending) (w' : World) : Prop :=
  ∃ u G', e = .returned u ∧ Inv G w G' w' (resSt v m) (fun _ => u)

/-- A function of the program with a body. -/
def HasBody (P : Program) (f : FuncId) : Prop := ∃ fn c, P.funcs[f]? = some fn ∧ fn.body = some c ∧ (fn.name == "runtime.NumGoroutine") = false

def CallOK (P : Program) (C : CallF) : Prop := ∀ f args m v m', C f args m = some (v, m') → notOwn v ∧ HasBody P f ∧
  ∀ (G : Gh) (w : World) (vs : Array Value), args.length = vs.size → Inv G w G w (St.init args m) (fun t => vs.getD t undef) → G.lb = (fun _ _ => none) → Calls P f vs w (Post G w v m')

/-- A call that needs no shared memory goes the same beside one. -/
def FrameOK (C : CallF) : Prop := ∀ f args v m, C f args [] = some (v, []) → C f args m = some (v, m)

section
variable {P : Program} {G0 : Gh} {w0 : World} {G : Gh} {w : World} {s : St} {tv : Nat → Value}

theorem stable_tip {r r' : Roles} {b o : Nat} (h : (r' b).2 = (r b).2) (hs : stable r b o) : stable r' b o := by
  unfold stable at *; rw [h]; exact hs

theorem le_callee : Le G w G.callee w := ⟨fun _ _ _ hs hc => ⟨stable_tip (calleeRole_tip _) hs, hc⟩, fun _ _ e => e⟩

/-- What the callee starts from. -/
theorem Inv.toCallee (h : Inv G0 w0 G w s tv) (args : List AV) (vs : Array Value) (hl : args.length = vs.size) (hr : ∀ (i : Nat) (h1 : i < args.length) (h2 : i < vs.size), Rep G w args[i] vs[i]) (hn : ∀ a ∈ args, notOwn a) :
    Inv G.callee w G.callee w (St.init args s.mem) (fun t => vs.getD t undef) where
  os := rfl
  tape := rfl
  output := rfl
  size := Nat.le_refl _
  tmp t := by
    show RepT _ _ (args.getD t .undef) _
    by_cases ht : t < args.length
    · have h2 : t < vs.size := by omega
      have := (hr t ht h2).mono (le_callee (G := G) (w := w))
      simp only [List.getD, List.getElem?_eq_getElem ht, Option.getD_some]
      simp [h2]
      exact .of this
    · simp only [List.getD, List.getElem?_eq_none (Nat.le_of_not_lt ht), Option.getD_none]
      exact .of (.undef _)
  own t := by
    show OwnAt _ _ _ (args.getD t .undef) _
    by_cases ht : t < args.length
    · simp only [List.getD, List.getElem?_eq_getElem ht, Option.getD_some]
      exact OwnAt.of_notOwn (hn _ (List.getElem_mem ht))
    · simp only [List.getD, List.getElem?_eq_none (Nat.le_of_not_lt ht), Option.getD_none]
      exact OwnAt.of_notOwn trivial
  obj x o e := by
    cases x with
    | loc t k => simp [St.obj, St.init] at e
    | mem i =>
      obtain ⟨b, h1, h2, h3⟩ := h.obj (.mem i) o e
      refine ⟨b, h1, h2, ?_⟩
      cases o with
      | cells fz cs =>
        cases fz
        · obtain ⟨k1, arr, T, k2, k3, k4⟩ := objAt_inv h3
          have hrole : G.callee.role b = (.obj (.mem i), some 0) := by show calleeRole (G.role b) = _; rw [k1]; rfl
          refine ⟨hrole, arr, T, k2, k3, fun j j1 j2 => ⟨(k4 j j1 j2).1.mono le_callee, (k4 j j1 j2).2.keep (Nat.le_refl _) fun b' c => ⟨?_, fun k a b => ⟨a, b⟩⟩⟩⟩
          have := (k4 j j1 j2).2.role c
          show calleeRole (G.role b') = _
          unfold calleeRole
          rw [this]
        · exact ObjAt.frozen le_callee h3
      | iter ss pos =>
        obtain ⟨k1, k2⟩ := h3
        exact ⟨by show calleeRole (G.role b) = _; rw [k1]; rfl, k2⟩
  ext b hb e := ⟨rfl, rfl⟩
  le := .refl _ _
  mlen := h.mlen
  llen t k e := rfl

/-- Back from the callee. -/
theorem Inv.fromCallee (h : Inv G0 w0 G w s tv) {G' : Gh} {w' : World} {v : AV} {m : Mem} {u : Value} (hp : Inv G.callee w G' w' (resSt v m) (fun _ => u)) :
    ∃ G'', Inv G0 w0 G'' w' { s with mem := m } tv ∧ RepT G'' w' v u := by
  let Gn : Gh := { role := fun b => if b < w.heap.size ∧ (G.callee.role b).1 = .ext then G.role b else G'.role b, mb := G'.mb, lb := G.lb }
  have rin : ∀ b, b < w.heap.size → (G.callee.role b).1 = .ext → Gn.role b = G.role b := fun b h1 h2 => if_pos ⟨h1, h2⟩
  have rout : ∀ b, ¬ (b < w.heap.size ∧ (G.callee.role b).1 = .ext) → Gn.role b = G'.role b := fun b h1 => if_neg h1
  have l1 : Le G w Gn w' := by
    refine ⟨fun b o x hs hc => ?_, fun i b e => hp.le.mb i b e⟩
    have hb := lt_of_cell hc
    by_cases e : (G.callee.role b).1 = .ext
    · obtain ⟨k1, k2⟩ := hp.ext b hb e
      exact ⟨stable_of_role (rin b hb e) hs, by rw [cell?_of_heap k1]; exact hc⟩
    · obtain ⟨k1, k2⟩ := hp.le.cell b o x (stable_tip (r := G.role) (r' := G.callee.role) (calleeRole_tip _) hs) hc
      exact ⟨stable_of_role (rout b (fun hh => e hh.2)) k1, k2⟩
  have l2 : Le G' w' Gn w' := by
    refine ⟨fun b o x hs hc => ⟨?_, hc⟩, fun i b e => e⟩
    by_cases e : b < w.heap.size ∧ (G.callee.role b).1 = .ext
    · obtain ⟨k1, k2⟩ := hp.ext b e.1 e.2
      refine stable_tip ?_ hs
      rw [rin b e.1 e.2, k2]
      exact (calleeRole_tip _).symm
    · exact stable_of_role (rout b e) hs
  have extOf : ∀ b, (∀ i, (G.role b).1 ≠ .obj (.mem i)) → (∀ i j, (G.role b).1 ≠ .cell (.mem i) j) → (G.callee.role b).1 = .ext := by
    intro b h1 h2
    show (calleeRole (G.role b)).1 = .ext
    unfold calleeRole
    split
    · rename_i i e; exact absurd e (h1 i)
    · rename_i i j e; exact absurd e (h2 i j)
    · rfl
  have keepIn : ∀ b', b' < w.heap.size → (G.callee.role b').1 = .ext → ∀ k, (∃ u, w.cell? ⟨b', k, none⟩ = some u) → w.frozen? ⟨b', k, none⟩ = false → (∃ u, w'.cell? ⟨b', k, none⟩ = some u) ∧ w'.frozen? ⟨b', k, none⟩ = false := by
    intro b' h1 h2 k k1 k2
    have := (hp.ext b' h1 h2).1
    exact ⟨by rw [cell?_of_heap this]; exact k1, by rw [frozen?_of_heap this]; exact k2⟩
  have claimLt : ∀ {o a v b}, OwnAt G w o a v → Claims a v b → b < w.heap.size := by
    intro o a v b ho c
    obtain ⟨z, nn, xs, off, len, cap, e1, e2, hne⟩ := c
    rcases (ho z nn xs e1).2 b off len cap e2 with h0 | ⟨h0, _⟩
    · exact absurd h0 hne
    · exact h0
  refine ⟨Gn, ?_, ?_⟩
  · refine { os := hp.os.trans h.os, tape := hp.tape.trans h.tape, output := hp.output.trans h.output, size := Nat.le_trans h.size hp.size, tmp := fun t => (h.tmp t).mono l1 (fun _ _ _ e => e), own := fun t => ?_, obj := fun x o e => ?_, ext := fun b hb e => ?_, le := h.le.trans l1, mlen := hp.mlen, llen := h.llen }
    · refine (h.own t).keep hp.size fun b' c => ?_
      have hlt := claimLt (h.own t) c
      have he : (G.callee.role b').1 = .ext := extOf b' (fun i e => by rw [(h.own t).role c] at e; simp at e) (fun i j e => by rw [(h.own t).role c] at e; simp at e)
      exact ⟨rin b' hlt he, keepIn b' hlt he⟩
    · cases x with
      | loc t k =>
        obtain ⟨b, h1, h2, h3⟩ := h.obj (.loc t k) o e
        refine ⟨b, h1, Nat.lt_of_lt_of_le h2 hp.size, h3.keep l1 hp.size (fun e => ?_) fun j a v' b' ho c => ?_⟩
        · have he : (G.callee.role b).1 = .ext := extOf b (fun i e' => by rw [e] at e'; simp at e') (fun i j e' => by rw [e] at e'; simp at e')
          exact ⟨rin b h2 he, (hp.ext b h2 he).1⟩
        · have hlt := claimLt ho c
          have he : (G.callee.role b').1 = .ext := extOf b' (fun i e' => by rw [ho.role c] at e'; simp at e') (fun i j e' => by rw [ho.role c] at e'; simp at e')
          exact ⟨rin b' hlt he, keepIn b' hlt he⟩
      | mem i =>
        obtain ⟨b, h1, h2, h3⟩ := hp.obj (.mem i) o e
        have notExt : ∀ b', (G'.role b').1 ≠ .ext → ¬ (b' < w.heap.size ∧ (G.callee.role b').1 = .ext) := by
          rintro b' hx ⟨k1, k2⟩
          exact hx (by rw [(hp.ext b' k1 k2).2, k2])
        refine ⟨b, h1, h2, h3.keep l2 (Nat.le_refl _) (fun e => ⟨rout b (notExt b (by rw [e]; simp)), rfl⟩) fun j a v' b' ho c => ⟨rout b' (notExt b' (by rw [ho.role c]; simp)), fun k a b => ⟨a, b⟩⟩⟩
    · obtain ⟨k1, k2⟩ := h.ext b hb e
      have hlt := Nat.lt_of_lt_of_le hb h.size
      have he : (G.callee.role b).1 = .ext := extOf b (fun i e' => by rw [k2, e] at e'; simp at e') (fun i j e' => by rw [k2, e] at e'; simp at e')
      exact ⟨(hp.ext b hlt he).1.trans k1, (rin b hlt he).trans k2⟩
  · have := hp.tmp 0
    exact this.mono l2 (fun t k b e => by rw [hp.llen t k (Nat.zero_le _)] at e; simp at e)

end
end Go.Vm
