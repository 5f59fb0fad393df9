/- Operations that may change places. -/
import Derived.Test.YtdodnhbegabbpaaV24
namespace Go.Vm

/-- The slots that an operation may write, its own aside. -/
def opMods : VOp → List Nat
  | .take t => [t]
  | .assign x => tmpsO x
  | .append _ _ a _ => tmpsO a
  | .store _ _ x => tmpsO x
  | _ => []

def mods (i : VI) : List Nat := i.dst.toList ++ opMods i.op

def quiet : VOp → Bool
  | .take _ => true
  | .assign _ => true
  | .append _ _ _ _ => true
  | .slSl _ _ _ _ _ => true
  | .callP _ _ => true
  | op => isPure op

def isLoad : VOp → Bool
  | .load _ _ => true
  | _ => false

def keepsObj : VOp → Bool
  | .load _ _ => true
  | .alloc false _ => true
  | .box false _ => true
  | _ => false

def St.sets (s : St) (ds : List (Nat × AV)) : St := ds.foldl (fun s p => s.set p.1 p.2) s

section
variable {s s1 s2 : St} {t : Nat} {u : AV} {C : CallF}

theorem sets_obj : ∀ (ds : List (Nat × AV)) (s : St) (x : Ix), (s.sets ds).obj x = s.obj x
  | [], s, x => rfl
  | p :: ds, s, x => by
    show ((s.set p.1 p.2).sets ds).obj x = _
    rw [sets_obj ds, setO_obj]

theorem takeT_tmp {n : Nat} (h : t ≠ n) : (s.takeT n).2.tmp t = s.tmp t := by
  unfold St.takeT
  split
  · simp [St.set, h]
  · rfl
theorem takeO_tmp {x : VO} (h : t ∉ tmpsO x) : (s.takeO x).2.tmp t = s.tmp t := by
  cases x with
  | t n => simp [tmpsO] at h; exact takeT_tmp h
  | k v => rfl

theorem capture_tmp : ∀ (as : List AV) (s s' : St) (vs : List AV), capture as s = some (vs, s') → s'.tmp = s.tmp
  | [], s, s', vs, h => by simp [capture] at h; rw [← h.2]
  | v :: rest, s, s', vs, h => by
    simp only [capture] at h
    split at h
    · split at h
      · split at h
        · rename_i hr
          simp only [Option.some.injEq, Prod.mk.injEq] at h
          rw [← h.2, capture_tmp rest _ _ _ hr, (setObj_lens s _ _).2.2]
        · simp at h
      · simp at h
    · split at h
      · split at h
        · rename_i hr
          simp only [Option.some.injEq, Prod.mk.injEq] at h
          rw [← h.2, capture_tmp rest _ _ _ hr]
        · simp at h
      · simp at h

theorem exec_touch {d : Nat} {op : VOp} {v : AV} {s' : St} (h : exec d op s = some (v, s')) (ht : t ∉ opMods op) : s'.tmp t = s.tmp t := by
  by_cases hp : isPure op = true
  · rw [exec_pure hp] at h
    split at h <;> simp at h
    rw [← h.2]
  · cases op with
    | take n =>
      simp [opMods] at ht
      simp only [exec, Option.some.injEq] at h
      have := takeT_tmp (s := s) ht
      rw [h] at this; exact this
    | assign x =>
      simp only [exec, Option.some.injEq] at h
      have := takeO_tmp (s := s) (x := x) ht
      rw [h] at this; exact this
    | alloc hp cs => simp only [exec] at h; split at h <;> (simp at h; rw [← h.2])
    | box hp x =>
      simp only [exec] at h
      split at h
      · split at h <;> (simp at h; rw [← h.2])
      · simp at h
    | load agg a =>
      simp only [exec] at h
      split at h
      · split at h <;> simp at h
        rw [← h.2]
      · split at h
        · split at h <;> simp at h
          rw [← h.2]
        · simp at h
      · simp at h
    | loadTake a =>
      simp only [exec] at h
      split at h
      · split at h
        · split at h
          · simp only [Option.some.injEq, Prod.mk.injEq] at h
            rw [← h.2, (setObj_lens s _ _).2.2]
          · simp only [Option.some.injEq, Prod.mk.injEq] at h
            rw [← h.2]
          · simp at h
        · simp at h
      · simp at h
    | store sz a x =>
      simp only [exec] at h
      split at h
      · split at h
        · split at h
          · split at h
            · simp only [Option.some.injEq, Prod.mk.injEq] at h
              rw [← h.2, (setObj_lens _ _ _).2.2]
              exact takeO_tmp (x := x) ht
            · simp only [Option.some.injEq, Prod.mk.injEq] at h
              rw [← h.2, (setObj_lens _ _ _).2.2]
              exact takeO_tmp (x := x) ht
          · simp at h
        · simp at h
      · simp at h
    | mkfn f cs =>
      simp only [exec] at h
      split at h
      · rename_i hc
        simp only [Option.some.injEq, Prod.mk.injEq] at h
        rw [← h.2, capture_tmp _ _ _ _ hc]
      · simp at h
    | slSl z x lo hi mx =>
      simp only [exec] at h
      split at h
      · split at h <;> simp at h
        rw [← h.2]
      · split at h
        · split at h <;> simp at h
          rw [← h.2]
        · simp at h
      · simp at h
    | append z b a x =>
      simp only [exec] at h
      split at h
      · split at h
        · split at h <;> simp at h
          rw [← h.2]
          exact takeO_tmp (x := a) ht
        · split at h <;> simp at h
          rw [← h.2]
          exact takeO_tmp (x := a) ht
        · simp at h
      · simp at h
    | appStr a x => simp [exec, pval] at h
    | range x =>
      simp only [exec] at h
      split at h <;> simp at h
      rw [← h.2]
    | next x =>
      simp only [exec] at h
      split at h
      · split at h
        · split at h
          · split at h
            · simp only [Option.some.injEq, Prod.mk.injEq] at h
              rw [← h.2, (setObj_lens _ _ _).2.2]
            · simp at h
          · simp only [Option.some.injEq, Prod.mk.injEq] at h
            rw [← h.2]
        · simp at h
      · simp at h
    | mkslObj hq z b za l c =>
      simp only [exec] at h
      split at h
      · split at h
        · split at h <;> (simp only [Option.some.injEq, Prod.mk.injEq] at h; rw [← h.2])
        · simp at h
      · simp at h
    | slZ x =>
      simp only [exec] at h
      split at h <;> simp at h
      rw [← h.2]
    | appendRow z b a x =>
      simp only [exec] at h
      split at h
      · split at h
        · simp only [Option.some.injEq, Prod.mk.injEq] at h
          rw [← h.2]
        · split at h
          · simp only [Option.some.injEq, Prod.mk.injEq] at h
            rw [← h.2]
          · simp at h
      · simp at h
    | call f args => simp [exec, pval] at h
    | callP f args => simp [isPure] at hp
    | _ => simp [isPure] at hp

theorem put_tmp {d : Option Nat} {v : AV} (h : t ∉ d.toList) : (s.put d v).tmp t = s.tmp t := by
  cases d with
  | none => rfl
  | some d => simp at h; simp [St.put, St.set, h]

theorem step_touch {i : VI} {s' : St} (h : step C i s = some s') (ht : t ∉ mods i) : s'.tmp t = s.tmp t := by
  have h2 : t ∉ i.dst.toList := fun hh => ht (List.mem_append.2 (.inl hh))
  have h3 : t ∉ opMods i.op := fun hh => ht (List.mem_append.2 (.inr hh))
  by_cases hc : ∀ f args, i.op ≠ .call f args ∧ i.op ≠ .callP f args
  · rw [step_exec hc] at h
    split at h
    · rename_i v s1 he
      simp only [Option.some.injEq] at h
      rw [← h, put_tmp h2]
      exact exec_touch he h3
    · simp at h
  · unfold step at h
    split at h
    · split at h
      · split at h
        · split at h
          · simp only [Option.some.injEq] at h
            rw [← h, put_tmp h2]
          · simp at h
        · simp at h
      · simp at h
    · split at h
      · split at h
        · split at h
          · simp only [Option.some.injEq] at h
            rw [← h, put_tmp h2]
          · simp at h
        · simp at h
      · simp at h
    · rename_i h4 h5
      exact absurd (fun f args => ⟨h4 f args, h5 f args⟩) hc

theorem one_mods {i : VI} {s' : St} (h : one C i s = some s') (ht : t ∉ mods i) : s'.tmp t = s.tmp t := by
  have h2 : t ∉ i.dst.toList := fun hh => ht (List.mem_append.2 (.inl hh))
  unfold one at h
  split at h
  · exact step_touch h ht
  · split at h
    · split at h
      · exact step_touch h ht
      · simp only [Option.some.injEq] at h
        rw [← h, put_tmp h2]
    · simp at h

theorem one_sets {i : VI} : ∀ (ds : List (Nat × AV)) (s : St), (∀ p ∈ ds, p.1 ∉ slots i) → one C i (s.sets ds) = (one C i s).map fun r => r.sets ds
  | [], s, _ => by
    show one C i s = _
    cases one C i s <;> rfl
  | p :: ds, s, h => by
    show one C i ((s.set p.1 p.2).sets ds) = _
    rw [one_sets ds _ fun q hq => h q (by simp [hq]), one_set (h p (by simp))]
    cases one C i s <;> rfl

/-- What an operation finds in the slots is the same. -/
def Agree (l : List Nat) (s s2 : St) : Prop := ∀ t ∈ l, s2.tmp t = s.tmp t

theorem Agree.get {l : List Nat} (h : Agree l s s2) {n : Nat} (hn : n ∈ l) : s2.get n = s.get n := h n hn
theorem Agree.ev {l : List Nat} (h : Agree l s s2) {x : VO} (hx : ∀ n ∈ tmpsO x, n ∈ l) : s2.ev x = s.ev x := by
  cases x with
  | t n => exact h n (hx n (by simp [tmpsO]))
  | k v => rfl
theorem Agree.optV {l : List Nat} (h : Agree l s s2) {x : Option VO} {d : AV} (hx : ∀ n ∈ tmpsOpt x, n ∈ l) : optV s2.ev x d = optV s.ev x d := by
  cases x with
  | none => rfl
  | some x => exact h.ev hx
theorem Agree.mapOpt {l : List Nat} (h : Agree l s s2) {x : Option VO} (hx : ∀ n ∈ tmpsOpt x, n ∈ l) : x.map s2.ev = x.map s.ev := by
  cases x with
  | none => rfl
  | some x => exact congrArg some (h.ev hx)

/-- What an operation writes into slots. -/
theorem takeT_sets (n : Nat) (s : St) : ∃ es : List (Nat × AV), (∀ p ∈ es, p.1 = n) ∧ (s.takeT n).2 = s.sets es ∧ ∀ s2 : St, s2.get n = s.get n → s2.takeT n = ((s.takeT n).1, s2.sets es) := by
  unfold St.takeT
  split
  · rename_i z nn xs e
    refine ⟨[(n, .vec none nn xs)], by simp, rfl, fun s2 h => ?_⟩
    rw [h, e]
    rfl
  · rename_i v hn
    refine ⟨[], by simp, rfl, fun s2 h => ?_⟩
    rw [h]
    split
    · rename_i z nn xs e
      exact absurd e (hn z nn xs)
    · rfl

theorem takeO_sets (x : VO) (s : St) : ∃ es : List (Nat × AV), (∀ p ∈ es, p.1 ∈ tmpsO x) ∧ (s.takeO x).2 = s.sets es ∧ ∀ s2 : St, s2.ev x = s.ev x → s2.takeO x = ((s.takeO x).1, s2.sets es) := by
  cases x with
  | t n =>
    obtain ⟨es, h1, h2, h3⟩ := takeT_sets n s
    exact ⟨es, fun p hp => by simp [tmpsO, h1 p hp], h2, h3⟩
  | k v => exact ⟨[], by simp, rfl, fun s2 _ => rfl⟩

theorem quiet_exec {d : Nat} {op : VOp} {v : AV} {s' : St} (hq : quiet op = true) (hnc : ∀ f args, op ≠ .callP f args) (h : exec d op s = some (v, s')) :
    ∃ es : List (Nat × AV), (∀ p ∈ es, p.1 ∈ opMods op) ∧ s' = s.sets es ∧ ∀ s2, Agree (opTmps op) s s2 → exec d op s2 = some (v, s2.sets es) := by
  by_cases hp : isPure op = true
  · rw [exec_pure hp] at h
    split at h
    · rename_i v' hv
      simp only [Option.some.injEq, Prod.mk.injEq] at h
      obtain ⟨rfl, rfl⟩ := h
      refine ⟨[], by simp, rfl, fun s2 ha => ?_⟩
      rw [exec_pure hp, pval_congr (ev := s2.ev) (ev' := s.ev) fun x hx => ha.ev hx, hv]
      rfl
    · simp at h
  · cases op with
    | take n =>
      simp only [exec, Option.some.injEq] at h
      obtain ⟨es, h1, h2, h3⟩ := takeT_sets n s
      refine ⟨es, fun p hp => by simp [opMods, h1 p hp], by rw [← h2, h], fun s2 ha => ?_⟩
      simp only [exec]
      rw [h3 s2 (ha.get (by simp [opTmps])), h]
    | assign x =>
      simp only [exec, Option.some.injEq] at h
      obtain ⟨es, h1, h2, h3⟩ := takeO_sets x s
      refine ⟨es, h1, by rw [← h2, h], fun s2 ha => ?_⟩
      simp only [exec]
      rw [h3 s2 (ha.ev (fun n hn => hn)), h]
    | slSl z x lo hi mx =>
      have key : ∀ s2, Agree (opTmps (.slSl z x lo hi mx)) s s2 → exec d (.slSl z x lo hi mx) s2 = (exec d (.slSl z x lo hi mx) s).map fun r => (r.1, s2) := by
        intro s2 ha
        simp only [exec]
        rw [ha.ev (x := x) (fun n hn => by simp [opTmps, hn])]
        split
        · rw [ha.optV (x := lo) (fun n hn => by simp [opTmps, hn]), ha.optV (x := hi) (fun n hn => by simp [opTmps, hn]), ha.mapOpt (x := mx) (fun n hn => by simp [opTmps, hn])]
          split <;> rfl
        · rw [ha.optV (x := lo) (fun n hn => by simp [opTmps, hn]), ha.optV (x := hi) (fun n hn => by simp [opTmps, hn])]
          split
          · split <;> rfl
          · rfl
        · rfl
      have hs : s' = s := by
        have := key s (fun t _ => rfl)
        rw [h] at this
        simp only [Option.map_some, Option.some.injEq, Prod.mk.injEq, true_and] at this
        exact this
      subst hs
      refine ⟨[], by simp, rfl, fun s2 ha => ?_⟩
      rw [key s2 ha, h]
      rfl
    | append z b a x =>
      obtain ⟨es, h1, h2, h3⟩ := takeO_sets a s
      have key : ∀ s2, Agree (opTmps (.append z b a x)) s s2 → exec d (.append z b a x) s2 = (exec d (.append z b a x) s).map fun r => (r.1, s2.sets es) := by
        intro s2 ha
        simp only [exec]
        rw [ha.ev (x := x) (fun n hn => by simp [opTmps, hn]), h3 s2 (ha.ev (x := a) (fun n hn => by simp [opTmps, hn]))]
        generalize s.takeO a = q
        obtain ⟨v0, s0⟩ := q
        simp only
        cases elems? z (s.ev x) with
        | none => rfl
        | some ys =>
          simp only
          split
          · split <;> rfl
          · split <;> rfl
          · rfl
      have hs : s' = s.sets es := by
        have := key s (fun t _ => rfl)
        rw [h] at this
        simp only [Option.map_some, Option.some.injEq, Prod.mk.injEq, true_and] at this
        exact this
      refine ⟨es, h1, hs, fun s2 ha => ?_⟩
      rw [key s2 ha, h]
      rfl
    | callP f args => exact absurd rfl (hnc f args)
    | _ => simp [quiet, isPure] at hq hp

end
end Go.Vm
