/- What an operation depends on, and what it leaves alone. -/
import Derived.Test.YtdodnhbegabbpaaV1
namespace Go.Vm

def tmpsO : VO → List Nat
  | .t n => [n]
  | .k _ => []
def tmpsOpt : Option VO → List Nat
  | some x => tmpsO x
  | none => []
def tmpsL (l : List VO) : List Nat := l.flatMap tmpsO

def opTmps : VOp → List Nat
  | .move x => tmpsO x
  | .take t => [t]
  | .assign x => tmpsO x
  | .pick c a b => tmpsO c ++ tmpsO a ++ tmpsO b
  | .alloc _ _ => []
  | .box _ x => tmpsO x
  | .build _ ps => tmpsL (ps.map fun p => p.2.2)
  | .buildSl _ _ _ ps => tmpsL (ps.map fun p => p.2)
  | .load _ a => tmpsO a
  | .loadTake a => tmpsO a
  | .store _ a x => tmpsO a ++ tmpsO x
  | .nilck x => tmpsO x
  | .bin _ x y => tmpsO x ++ tmpsO y
  | .eqBool _ x y => tmpsO x ++ tmpsO y
  | .eqNil _ _ x => tmpsO x
  | .eqAgg _ _ x y => tmpsO x ++ tmpsO y
  | .un _ x => tmpsO x
  | .cint _ x => tmpsO x
  | .cstr x => tmpsO x
  | .bytesOf x => tmpsO x
  | .strOf x => tmpsO x
  | .mkfn _ cs => tmpsL cs
  | .mksl _ _ _ _ l c => tmpsO l ++ tmpsO c
  | .slStr x lo hi => tmpsO x ++ tmpsOpt lo ++ tmpsOpt hi
  | .slSl _ x lo hi mx => tmpsO x ++ tmpsOpt lo ++ tmpsOpt hi ++ tmpsOpt mx
  | .faddr _ x => tmpsO x
  | .field _ _ x => tmpsO x
  | .iaddrSl _ x i => tmpsO x ++ tmpsO i
  | .iaddrArr _ _ x i => tmpsO x ++ tmpsO i
  | .idxArr _ _ _ x i => tmpsO x ++ tmpsO i
  | .idxStr x i => tmpsO x ++ tmpsO i
  | .ext x _ => tmpsO x
  | .lenSl x => tmpsO x
  | .lenStr x => tmpsO x
  | .append _ _ s x => tmpsO s ++ tmpsO x
  | .appStr s x => tmpsO s ++ tmpsO x
  | .mkslObj _ _ _ _ l c => tmpsO l ++ tmpsO c
  | .slZ x => tmpsO x
  | .buildZ => []
  | .appendRow _ _ s x => tmpsO s ++ tmpsO x
  | .minmax _ xs => tmpsL xs
  | .mkIface _ x => tmpsO x
  | .range x => tmpsO x
  | .next x => tmpsO x
  | .call f args => tmpsO f ++ tmpsL args
  | .callP f args => tmpsO f ++ tmpsL args

section
variable {s s1 s2 : St} {t : Nat} {u : AV}

theorem set_comm (s : St) {a b : Nat} (x y : AV) (h : a ≠ b) : (s.set a x).set b y = (s.set b y).set a x := by
  simp only [St.set, St.mk.injEq, and_true]
  funext j
  by_cases h1 : j = b
  · subst h1; simp [Ne.symm h]
  · simp [h1]

theorem get_set_ne (s : St) {a b : Nat} (x : AV) (h : b ≠ a) : (s.set a x).get b = s.get b := by
  simp [St.get, St.set, h]
theorem get_set_same (s : St) (a : Nat) (x : AV) : (s.set a x).get a = x := by
  simp [St.get, St.set]
theorem set_get (s : St) (t : Nat) : s.set t (s.tmp t) = s := by
  cases s
  simp only [St.set, St.mk.injEq, and_true]
  funext j
  split
  · rename_i h; subst h; rfl
  · rfl

theorem ev_set {x : VO} (h : t ∉ tmpsO x) : (s.set t u).ev x = s.ev x := by
  cases x with
  | t n => simp [tmpsO] at h; exact get_set_ne s u (Ne.symm h)
  | k v => rfl
theorem optV_set {x : Option VO} {d : AV} (h : t ∉ tmpsOpt x) : optV (s.set t u).ev x d = optV s.ev x d := by
  cases x with
  | none => rfl
  | some x => exact ev_set h
theorem mapOpt_set {x : Option VO} (h : t ∉ tmpsOpt x) : x.map (s.set t u).ev = x.map s.ev := by
  cases x with
  | none => rfl
  | some x => exact congrArg some (ev_set h)
theorem mapL_set {l : List VO} (h : t ∉ tmpsL l) : l.map (s.set t u).ev = l.map s.ev := by
  apply List.map_congr_left
  intro x hx
  exact ev_set fun hh => h (List.mem_flatMap.2 ⟨x, hx, hh⟩)

/-- A pure operation asks its operands alone. -/
theorem pval_congr {ev ev' : VO → AV} {op : VOp} (h : ∀ x : VO, (∀ n ∈ tmpsO x, n ∈ opTmps op) → ev x = ev' x) : pval ev op = pval ev' op := by
  have hL : ∀ l : List VO, (∀ x ∈ l, ∀ n ∈ tmpsO x, n ∈ opTmps op) → l.map ev = l.map ev' := fun l hl => List.map_congr_left fun x hx => h x (hl x hx)
  have hO : ∀ (x : Option VO) (d : AV), (∀ n ∈ tmpsOpt x, n ∈ opTmps op) → optV ev x d = optV ev' x d := by
    intro x d hx
    cases x with
    | none => rfl
    | some x => exact h x hx
  cases op with
  | build z ps =>
    have e : (ps.map fun p => (p.1, p.2.1, ev p.2.2)) = (ps.map fun p => (p.1, p.2.1, ev' p.2.2)) := List.map_congr_left fun p hp => by
      rw [h p.2.2 fun n hn => List.mem_flatMap.2 ⟨p.2.2, List.mem_map.2 ⟨p, hp, rfl⟩, hn⟩]
    have e2 : (ps.all fun p => (ev p.2.2).good) = (ps.all fun p => (ev' p.2.2).good) := by
      rw [Bool.eq_iff_iff]
      simp only [List.all_eq_true]
      constructor <;> intro hh p hp
      · rw [← h p.2.2 fun n hn => List.mem_flatMap.2 ⟨p.2.2, List.mem_map.2 ⟨p, hp, rfl⟩, hn⟩]; exact hh p hp
      · rw [h p.2.2 fun n hn => List.mem_flatMap.2 ⟨p.2.2, List.mem_map.2 ⟨p, hp, rfl⟩, hn⟩]; exact hh p hp
    simp only [pval, e, e2]
  | buildSl ez z n ps =>
    have e : (ps.map fun p => (p.1, ev p.2)) = (ps.map fun p => (p.1, ev' p.2)) := List.map_congr_left fun p hp => by
      rw [h p.2 fun n hn => List.mem_flatMap.2 ⟨p.2, List.mem_map.2 ⟨p, hp, rfl⟩, hn⟩]
    have e2 : (ps.all fun p => (ev p.2).good) = (ps.all fun p => (ev' p.2).good) := by
      rw [Bool.eq_iff_iff]
      simp only [List.all_eq_true]
      constructor <;> intro hh p hp
      · rw [← h p.2 fun n hn => List.mem_flatMap.2 ⟨p.2, List.mem_map.2 ⟨p, hp, rfl⟩, hn⟩]; exact hh p hp
      · rw [h p.2 fun n hn => List.mem_flatMap.2 ⟨p.2, List.mem_map.2 ⟨p, hp, rfl⟩, hn⟩]; exact hh p hp
    simp only [pval, e, e2]
  | minmax m xs =>
    simp only [pval, hL xs fun x hx n hn => List.mem_flatMap.2 ⟨x, hx, hn⟩]
  | slStr x lo hi =>
    simp only [pval]
    rw [h x (fun n hn => by simp [opTmps, hn]), hO lo _ (fun n hn => by simp [opTmps, hn])]
    split
    · rw [hO hi _ (fun n hn => by simp [opTmps, hn])]
    · rfl
  | mksl hp a b z l c =>
    cases hp
    · simp only [pval]
      rw [h l (fun n hn => by simp [opTmps, hn]), h c (fun n hn => by simp [opTmps, hn])]
    · rfl
  | move x => simp only [pval, h x (fun n hn => by simp [opTmps, hn])]
  | nilck x => simp only [pval, h x (fun n hn => by simp [opTmps, hn])]
  | eqNil k b x => simp only [pval, h x (fun n hn => by simp [opTmps, hn])]
  | un o x => simp only [pval, h x (fun n hn => by simp [opTmps, hn])]
  | cint k x => simp only [pval, h x (fun n hn => by simp [opTmps, hn])]
  | cstr x => simp only [pval, h x (fun n hn => by simp [opTmps, hn])]
  | bytesOf x => simp only [pval, h x (fun n hn => by simp [opTmps, hn])]
  | faddr n x => simp only [pval, h x (fun n hn => by simp [opTmps, hn])]
  | field a b x => simp only [pval, h x (fun n hn => by simp [opTmps, hn])]
  | ext x i => simp only [pval, h x (fun n hn => by simp [opTmps, hn])]
  | lenSl x => simp only [pval, h x (fun n hn => by simp [opTmps, hn])]
  | lenStr x => simp only [pval, h x (fun n hn => by simp [opTmps, hn])]
  | mkIface a x => simp only [pval, h x (fun n hn => by simp [opTmps, hn])]
  | bin o x y => simp only [pval, h x (fun n hn => by simp [opTmps, hn]), h y (fun n hn => by simp [opTmps, hn])]
  | eqBool b x y => simp only [pval, h x (fun n hn => by simp [opTmps, hn]), h y (fun n hn => by simp [opTmps, hn])]
  | eqAgg b l x y => simp only [pval, h x (fun n hn => by simp [opTmps, hn]), h y (fun n hn => by simp [opTmps, hn])]
  | iaddrSl a x y => simp only [pval, h x (fun n hn => by simp [opTmps, hn]), h y (fun n hn => by simp [opTmps, hn])]
  | iaddrArr a b x y => simp only [pval, h x (fun n hn => by simp [opTmps, hn]), h y (fun n hn => by simp [opTmps, hn])]
  | idxArr a b c x y => simp only [pval, h x (fun n hn => by simp [opTmps, hn]), h y (fun n hn => by simp [opTmps, hn])]
  | idxStr x y => simp only [pval, h x (fun n hn => by simp [opTmps, hn]), h y (fun n hn => by simp [opTmps, hn])]
  | pick x y z => simp only [pval, h x (fun n hn => by simp [opTmps, hn]), h y (fun n hn => by simp [opTmps, hn]), h z (fun n hn => by simp [opTmps, hn])]
  | _ => rfl

end
end Go.Vm
