/- A slot that an operation does not name may be written before or behind it. -/
import Derived.Test.YtdodnhbegabbpaaV18
import Derived.Test.YtdodnhbegabbpaaV23
namespace Go.Vm

section
variable {s s1 s2 : St} {t : Nat} {u : AV}

theorem setObj_set (s : St) (x : Ix) (o : LObj) : (s.set t u).setObj x o = (s.setObj x o).set t u := by
  cases x <;> rfl
theorem setO_obj (s : St) (x : Ix) : (s.set t u).obj x = s.obj x := by
  cases x <;> rfl

theorem takeT_set {n : Nat} (h : t ≠ n) : (s.set t u).takeT n = ((s.takeT n).1, (s.takeT n).2.set t u) := by
  unfold St.takeT
  rw [get_set_ne s u (Ne.symm h)]
  split
  · simp only [Prod.mk.injEq, true_and]
    exact set_comm s _ _ h
  · rfl

theorem takeO_set {x : VO} (h : t ∉ tmpsO x) : (s.set t u).takeO x = ((s.takeO x).1, (s.takeO x).2.set t u) := by
  cases x with
  | t n => simp [tmpsO] at h; exact takeT_set h
  | k v => rfl

theorem capture_set : ∀ (as : List AV) (s : St), capture as (s.set t u) = (capture as s).map fun r => (r.1, r.2.set t u)
  | [], s => rfl
  | v :: rest, s => by
    simp only [capture]
    split
    · rw [setO_obj]
      split
      · rw [setObj_set, capture_set rest]
        cases capture rest _ with
        | none => rfl
        | some r => rfl
      · rfl
    · split
      · rw [capture_set rest]
        cases capture rest s with
        | none => rfl
        | some r => rfl
      · rfl

theorem exec_set {d : Nat} {op : VOp} (h : t ∉ opTmps op) : exec d op (s.set t u) = (exec d op s).map fun r => (r.1, r.2.set t u) := by
  by_cases hp : isPure op = true
  · rw [exec_pure hp, exec_pure hp, pval_congr (ev := (s.set t u).ev) (ev' := s.ev) fun x hx => ev_set fun hh => h (hx _ hh)]
    cases pval s.ev op <;> rfl
  · cases op with
    | take n =>
      simp [opTmps] at h
      simp only [exec, takeT_set h]
      rfl
    | assign x =>
      simp only [exec, takeO_set (x := x) h]
      rfl
    | alloc hp cs => simp only [exec]; split <;> rfl
    | box hp x =>
      simp only [exec, ev_set (x := x) h]
      split
      · split <;> rfl
      · rfl
    | load agg a =>
      simp only [exec, ev_set (x := a) h]
      split
      · split <;> rfl
      · rw [setO_obj]
        split
        · split <;> rfl
        · rfl
      · rfl
    | loadTake a =>
      simp only [exec, ev_set (x := a) h]
      split
      · rw [setO_obj]
        split
        · split
          · rw [setObj_set]; rfl
          · rfl
          · rfl
        · rfl
      · rfl
    | store sz a x =>
      simp [opTmps] at h
      simp only [exec, ev_set (x := a) h.1, takeO_set (x := x) h.2]
      split
      · rw [setO_obj]
        split
        · split
          · split <;> (rw [setObj_set]; rfl)
          · rfl
        · rfl
      · rfl
    | mkfn f cs =>
      simp only [exec, mapL_set (l := cs) h, capture_set]
      cases capture (cs.map s.ev) s <;> rfl
    | slSl z x lo hi mx =>
      simp [opTmps] at h
      obtain ⟨h1, h2, h3, h4⟩ := h
      simp only [exec, ev_set (x := x) h1]
      split
      · rw [optV_set h2, optV_set h3, mapOpt_set h4]
        split <;> rfl
      · rw [optV_set h2, optV_set h3]
        split
        · split <;> rfl
        · rfl
      · rfl
    | append z b a x =>
      simp [opTmps] at h
      simp only [exec, ev_set (x := x) h.2, takeO_set (x := a) h.1]
      split
      · split
        · split <;> rfl
        · split <;> rfl
        · rfl
      · rfl
    | appStr a x => rfl
    | range x =>
      simp only [exec, ev_set (x := x) h]
      split <;> rfl
    | next x =>
      simp only [exec, ev_set (x := x) h]
      split
      · rw [setO_obj]
        split
        · split
          · split
            · rw [setObj_set]; rfl
            · rfl
          · rfl
        · rfl
      · rfl
    | mkslObj hq z b za l c =>
      simp [opTmps] at h
      simp only [exec, ev_set (x := l) h.1, ev_set (x := c) h.2]
      split
      · split
        · cases hq <;> rfl
        · rfl
      · rfl
    | slZ x =>
      simp only [exec, ev_set (x := x) h]
      split <;> rfl
    | appendRow z b a x =>
      simp [opTmps] at h
      simp only [exec, ev_set (x := a) h.1, ev_set (x := x) h.2]
      split
      · split
        · rfl
        · split <;> rfl
      · rfl
    | call f args => rfl
    | callP f args => simp [isPure] at hp
    | _ => simp [isPure] at hp

/-- All slots that an operation names. -/
def slots (i : VI) : List Nat := (match i.guard with | some (j, _) => [j] | none => []) ++ i.dst.toList ++ opTmps i.op

theorem put_set {d : Option Nat} {v : AV} (h : t ∉ d.toList) : (s.set t u).put d v = (s.put d v).set t u := by
  cases d with
  | none => rfl
  | some d => simp at h; exact set_comm s _ _ h

theorem step_exec {C : CallF} {i : VI} (h : ∀ f args, i.op ≠ .call f args ∧ i.op ≠ .callP f args) (s : St) : step C i s = match exec (i.dst.getD 0) i.op s with
    | some (v, s') => some (s'.put i.dst v)
    | none => none := by
  unfold step
  split
  · rename_i f args e; exact absurd e (h f args).1
  · rename_i f args e; exact absurd e (h f args).2
  · rfl

theorem step_set {C : CallF} {i : VI} (h : t ∉ slots i) : step C i (s.set t u) = (step C i s).map fun r => r.set t u := by
  have h2 : t ∉ i.dst.toList := fun hh => h (by simp only [slots, List.mem_append]; exact .inl (.inr hh))
  have h3 : t ∉ opTmps i.op := fun hh => h (by simp only [slots, List.mem_append]; exact .inr hh)
  by_cases hc : ∀ f args, i.op ≠ .call f args ∧ i.op ≠ .callP f args
  · rw [step_exec hc, step_exec hc, exec_set h3]
    cases exec (i.dst.getD 0) i.op s with
    | none => rfl
    | some r => exact congrArg some (put_set h2)
  · have hargs : ∀ (f : VO) (args : List VO), t ∉ tmpsO f ++ tmpsL args → (s.set t u).ev f = s.ev f ∧ (args.all fun x => ((s.set t u).ev x).nl) = (args.all fun x => (s.ev x).nl) ∧
        (args.map fun x => ((s.set t u).ev x).view) = (args.map fun x => (s.ev x).view) := by
      intro f args hh
      simp only [List.mem_append, not_or] at hh
      have hx : ∀ x ∈ args, (s.set t u).ev x = s.ev x := fun x hx => ev_set fun h' => hh.2 (List.mem_flatMap.2 ⟨x, hx, h'⟩)
      refine ⟨ev_set hh.1, ?_, List.map_congr_left fun x hx' => by rw [hx x hx']⟩
      rw [Bool.eq_iff_iff]
      simp only [List.all_eq_true]
      constructor <;> intro k x hx'
      · rw [← hx x hx']; exact k x hx'
      · rw [hx x hx']; exact k x hx'
    unfold step
    cases hop : i.op with
    | call f args =>
      rw [hop] at h3
      obtain ⟨e1, e2, e3⟩ := hargs f args h3
      simp only [e1, e2, e3]
      split
      · split
        · show (match C _ _ s.mem with | some (v, m) => _ | none => none) = _
          cases hC : C _ _ s.mem with
          | none => rfl
          | some r => exact congrArg some (put_set (s := { s with mem := r.2 }) h2)
        · rfl
      · rfl
    | callP f args =>
      rw [hop] at h3
      obtain ⟨e1, e2, e3⟩ := hargs f args h3
      simp only [e1, e2, e3]
      split
      · split
        · split
          · exact congrArg some (put_set h2)
          · rfl
        · rfl
      · rfl
    | _ => exact absurd (fun f args => ⟨by rw [hop]; simp, by rw [hop]; simp⟩) hc

theorem one_set {C : CallF} {i : VI} (h : t ∉ slots i) : one C i (s.set t u) = (one C i s).map fun r => r.set t u := by
  have h2 : t ∉ i.dst.toList := fun hh => h (by simp only [slots, List.mem_append]; exact .inl (.inr hh))
  unfold one
  cases hg : i.guard with
  | none => exact step_set h
  | some g =>
    obtain ⟨j, want⟩ := g
    have h1 : j ≠ t := by
      rintro rfl
      exact h (by simp [slots, hg])
    simp only [get_set_ne s u h1]
    split
    · split
      · exact step_set h
      · exact congrArg some (put_set h2)
    · rfl

/-- What an operation does not name stays. -/
theorem one_touch {C : CallF} {i : VI} {s s' : St} (h : one C i s = some s') {t : Nat} (ht : t ∉ slots i) : s'.tmp t = s.tmp t := by
  have := one_set (C := C) (i := i) (s := s) (u := s.tmp t) ht
  rw [set_get, h] at this
  simp only [Option.map_some, Option.some.injEq] at this
  rw [this]
  simp [St.set]

end
end Go.Vm
