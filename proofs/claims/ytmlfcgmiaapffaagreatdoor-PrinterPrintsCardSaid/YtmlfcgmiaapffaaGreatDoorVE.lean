/- A small machine and its soundness, part VE. -/
import Derived.Test.YtmlfcgmiaapffaaGreatDoorVD
import Derived.ProofKit
import Derived.ChangeCalls
/- Operations that may change places. -/
namespace Go.Vm

/-- The slots that an operation may write, its own aside. -/
def opMods : VOp → List Nat
  | .take t => [t]
  | .assign x => tmpsO x
  | .append _ _ a _ => tmpsO a
  | .store _ _ x => tmpsO x
  | _ => []

def mods (i : VI) : List Nat := i.dst.toList ++ opMods i.op

def quiet : VOp → Bool
  | .take _ => true
  | .assign _ => true
  | .append _ _ _ _ => true
  | .slSl _ _ _ _ _ => true
  | .callP _ _ => true
  | op => isPure op

def isLoad : VOp → Bool
  | .load _ _ => true
  | .loadO _ => true
  | _ => false

def keepsObj : VOp → Bool
  | .load _ _ => true
  | .loadO _ => true
  | .alloc _ _ => true
  | .box _ _ => true
  | _ => false

def St.sets (s : St) (ds : List (Nat × AV)) : St := ds.foldl (fun s p => s.set p.1 p.2) s

section
variable {s s1 s2 : St} {t : Nat} {u : AV} {C : CallF}

theorem sets_obj : ∀ (ds : List (Nat × AV)) (s : St) (x : Ix), (s.sets ds).obj x = s.obj x
  | [], s, x => rfl
  | p :: ds, s, x => by
    show ((s.set p.1 p.2).sets ds).obj x = _
    rw [sets_obj ds, setO_obj]

theorem takeT_tmp {n : Nat} (h : t ≠ n) : (s.takeT n).2.tmp t = s.tmp t := by
  unfold St.takeT
  split
  · simp [St.set, h]
  · rfl
theorem takeO_tmp {x : VO} (h : t ∉ tmpsO x) : (s.takeO x).2.tmp t = s.tmp t := by
  cases x with
  | t n => simp [tmpsO] at h; exact takeT_tmp h
  | k v => rfl

theorem capture_tmp : ∀ (as : List AV) (s s' : St) (vs : List AV), capture as s = some (vs, s') → s'.tmp = s.tmp
  | [], s, s', vs, h => by simp [capture] at h; rw [← h.2]
  | v :: rest, s, s', vs, h => by
    simp only [capture] at h
    split at h
    · split at h
      · split at h
        · rename_i hr
          simp only [Option.some.injEq, Prod.mk.injEq] at h
          rw [← h.2, capture_tmp rest _ _ _ hr, (setObj_lens s _ _).2.2]
        · simp at h
      · simp at h
    · split at h
      · split at h
        · rename_i hr
          simp only [Option.some.injEq, Prod.mk.injEq] at h
          rw [← h.2, capture_tmp rest _ _ _ hr]
        · simp at h
      · simp at h

theorem exec_touch {d : Nat} {op : VOp} {v : AV} {s' : St} (h : exec d op s = some (v, s')) (ht : t ∉ opMods op) : s'.tmp t = s.tmp t := by
  by_cases hp : isPure op = true
  · rw [exec_pure hp] at h
    split at h <;> simp at h
    rw [← h.2]
  · cases op with
    | take n =>
      simp [opMods] at ht
      simp only [exec, Option.some.injEq] at h
      have := takeT_tmp (s := s) ht
      rw [h] at this; exact this
    | assign x =>
      simp only [exec, Option.some.injEq] at h
      have := takeO_tmp (s := s) (x := x) ht
      rw [h] at this; exact this
    | alloc hp cs => simp only [exec] at h; split at h <;> (simp at h; rw [← h.2])
    | box hp x =>
      simp only [exec] at h
      split at h
      · split at h <;> (simp at h; rw [← h.2])
      · simp at h
    | load agg a =>
      simp only [exec] at h
      split at h
      · split at h <;> simp at h
        rw [← h.2]
      · split at h
        · split at h <;> simp at h
          rw [← h.2]
        · simp at h
      · simp at h
    | loadO a =>
      simp only [exec] at h
      split at h
      · split at h
        · split at h <;> simp at h
          rw [← h.2]
        · simp at h
      · simp at h
    | loadTake a =>
      simp only [exec] at h
      split at h
      · split at h
        · split at h
          · simp only [Option.some.injEq, Prod.mk.injEq] at h
            rw [← h.2, (setObj_lens s _ _).2.2]
          · simp only [Option.some.injEq, Prod.mk.injEq] at h
            rw [← h.2]
          · simp at h
        · simp at h
      · simp at h
    | store sz a x =>
      simp only [exec] at h
      split at h
      · split at h
        · split at h
          · split at h
            · simp only [Option.some.injEq, Prod.mk.injEq] at h
              rw [← h.2, (setObj_lens _ _ _).2.2]
              exact takeO_tmp (x := x) ht
            · simp only [Option.some.injEq, Prod.mk.injEq] at h
              rw [← h.2, (setObj_lens _ _ _).2.2]
              exact takeO_tmp (x := x) ht
          · simp at h
        · simp at h
      · simp at h
    | mkfn f cs =>
      simp only [exec] at h
      split at h
      · rename_i hc
        simp only [Option.some.injEq, Prod.mk.injEq] at h
        rw [← h.2, capture_tmp _ _ _ _ hc]
      · simp at h
    | slSl z x lo hi mx =>
      simp only [exec] at h
      split at h
      · split at h <;> simp at h
        rw [← h.2]
      · split at h
        · split at h <;> simp at h
          rw [← h.2]
        · simp at h
      · split at h
        · split at h <;> simp at h
          rw [← h.2]
        · simp at h
      · split at h
        · split at h <;> simp at h
          rw [← h.2]
        · simp at h
      · simp at h
    | append z b a x =>
      simp only [exec] at h
      split at h
      · split at h
        · split at h <;> simp at h
          rw [← h.2]
          exact takeO_tmp (x := a) ht
        · split at h <;> simp at h
          rw [← h.2]
          exact takeO_tmp (x := a) ht
        · simp at h
      · simp at h
    | appStr b a x =>
      simp only [exec] at h
      split at h
      · split at h
        · simp only [Option.some.injEq, Prod.mk.injEq] at h
          rw [← h.2]
        · simp at h
      · simp at h
    | unsf k T n x y =>
      simp only [exec] at h
      split at h
      · simp only [Option.some.injEq, Prod.mk.injEq] at h
        rw [← h.2]
      · simp at h
    | strOfM x =>
      simp only [exec] at h
      split at h
      · split at h
        · split at h
          · split at h <;> simp at h
            rw [← h.2]
          · simp at h
        · simp at h
      · split at h <;> simp at h
        rw [← h.2]
      · simp at h
    | bytesObj hq x =>
      simp only [exec] at h
      split at h
      · split at h <;> (simp only [Option.some.injEq, Prod.mk.injEq] at h; rw [← h.2])
      · simp at h
    | range x =>
      simp only [exec] at h
      split at h <;> simp at h
      rw [← h.2]
    | next x =>
      simp only [exec] at h
      split at h
      · split at h
        · split at h
          · split at h
            · simp only [Option.some.injEq, Prod.mk.injEq] at h
              rw [← h.2, (setObj_lens _ _ _).2.2]
            · simp at h
          · simp only [Option.some.injEq, Prod.mk.injEq] at h
            rw [← h.2]
        · simp at h
      · simp at h
    | mkslObj hq z b za l c =>
      simp only [exec] at h
      split at h
      · split at h
        · split at h <;> (simp only [Option.some.injEq, Prod.mk.injEq] at h; rw [← h.2])
        · simp at h
      · simp at h
    | slZ x =>
      simp only [exec] at h
      split at h <;> simp at h
      rw [← h.2]
    | appendRow z b a x =>
      simp only [exec] at h
      split at h
      · split at h
        · simp only [Option.some.injEq, Prod.mk.injEq] at h
          rw [← h.2]
        · split at h
          · simp only [Option.some.injEq, Prod.mk.injEq] at h
            rw [← h.2]
          · simp at h
      · simp at h
    | appendO z b a x =>
      simp only [exec] at h
      split at h
      · split at h
        · simp only [Option.some.injEq, Prod.mk.injEq] at h
          rw [← h.2]
        · simp at h
      · simp at h
    | mkmap =>
      simp only [exec, Option.some.injEq, Prod.mk.injEq] at h
      rw [← h.2]
    | minsert kd m k x =>
      simp only [exec] at h
      split at h
      · split at h
        · split at h
          · split at h
            · simp only [Option.some.injEq, Prod.mk.injEq] at h
              rw [← h.2, (setObj_lens _ _ _).2.2]
            · simp only [Option.some.injEq, Prod.mk.injEq] at h
              rw [← h.2, (setObj_lens _ _ _).2.2]
            · simp at h
          · simp at h
        · simp at h
      · simp at h
    | mlook kd z both m k =>
      simp only [exec] at h
      split at h
      · simp only [Option.some.injEq, Prod.mk.injEq] at h
        rw [← h.2]
      · split at h
        · split at h
          · simp only [Option.some.injEq, Prod.mk.injEq] at h
            rw [← h.2]
          · simp only [Option.some.injEq, Prod.mk.injEq] at h
            rw [← h.2]
          · simp at h
        · simp at h
      · simp at h
    | call f args => simp [exec, pval] at h
    | callR f args => simp [exec, pval] at h
    | callO f args => simp [exec, pval] at h
    | callP f args => simp [isPure] at hp
    | _ => simp [isPure] at hp

theorem put_tmp {d : Option Nat} {v : AV} (h : t ∉ d.toList) : (s.put d v).tmp t = s.tmp t := by
  cases d with
  | none => rfl
  | some d => simp at h; simp [St.put, St.set, h]

theorem step_touch {i : VI} {s' : St} (h : step C i s = some s') (ht : t ∉ mods i) : s'.tmp t = s.tmp t := by
  have h2 : t ∉ i.dst.toList := fun hh => ht (List.mem_append.2 (.inl hh))
  have h3 : t ∉ opMods i.op := fun hh => ht (List.mem_append.2 (.inr hh))
  by_cases hc : NoCall i.op
  · rw [step_exec hc] at h
    split at h
    · rename_i v s1 he
      simp only [Option.some.injEq] at h
      rw [← h, put_tmp h2]
      exact exec_touch he h3
    · simp at h
  · unfold step at h
    split at h
    · split at h
      · split at h
        · split at h
          · simp only [Option.some.injEq] at h
            rw [← h, put_tmp h2]
          · simp at h
        · simp at h
      · simp at h
    · split at h
      · split at h
        · split at h
          · simp only [Option.some.injEq] at h
            rw [← h, put_tmp h2]
          · simp at h
        · simp at h
      · simp at h
    · split at h
      · split at h
        · split at h
          · split at h
            · simp only [Option.some.injEq] at h
              rw [← h, put_tmp h2]
            · simp at h
          · simp at h
        · simp at h
      · simp at h
    · split at h
      · split at h
        · split at h
          · simp only [Option.some.injEq] at h
            rw [← h, put_tmp h2]
          · simp at h
        · simp at h
      · simp at h
    · rename_i h4 h5 h6 h7
      exact absurd ⟨h4, h5, h6, h7⟩ hc

theorem one_mods {i : VI} {s' : St} (h : one C i s = some s') (ht : t ∉ mods i) : s'.tmp t = s.tmp t := by
  have h2 : t ∉ i.dst.toList := fun hh => ht (List.mem_append.2 (.inl hh))
  unfold one at h
  split at h
  · exact step_touch h ht
  · split at h
    · split at h
      · exact step_touch h ht
      · simp only [Option.some.injEq] at h
        rw [← h, put_tmp h2]
    · simp at h

theorem one_sets {i : VI} : ∀ (ds : List (Nat × AV)) (s : St), (∀ p ∈ ds, p.1 ∉ slots i) → one C i (s.sets ds) = (one C i s).map fun r => r.sets ds
  | [], s, _ => by
    show one C i s = _
    cases one C i s <;> rfl
  | p :: ds, s, h => by
    show one C i ((s.set p.1 p.2).sets ds) = _
    rw [one_sets ds _ fun q hq => h q (by simp [hq]), one_set (h p (by simp))]
    cases one C i s <;> rfl

/-- What an operation finds in the slots is the same. -/
def Agree (l : List Nat) (s s2 : St) : Prop := ∀ t ∈ l, s2.tmp t = s.tmp t

theorem Agree.get {l : List Nat} (h : Agree l s s2) {n : Nat} (hn : n ∈ l) : s2.get n = s.get n := h n hn
theorem Agree.ev {l : List Nat} (h : Agree l s s2) {x : VO} (hx : ∀ n ∈ tmpsO x, n ∈ l) : s2.ev x = s.ev x := by
  cases x with
  | t n => exact h n (hx n (by simp [tmpsO]))
  | k v => rfl
theorem Agree.optV {l : List Nat} (h : Agree l s s2) {x : Option VO} {d : AV} (hx : ∀ n ∈ tmpsOpt x, n ∈ l) : optV s2.ev x d = optV s.ev x d := by
  cases x with
  | none => rfl
  | some x => exact h.ev hx
theorem Agree.mapOpt {l : List Nat} (h : Agree l s s2) {x : Option VO} (hx : ∀ n ∈ tmpsOpt x, n ∈ l) : x.map s2.ev = x.map s.ev := by
  cases x with
  | none => rfl
  | some x => exact congrArg some (h.ev hx)

/-- What an operation writes into slots. -/
theorem takeT_sets (n : Nat) (s : St) : ∃ es : List (Nat × AV), (∀ p ∈ es, p.1 = n) ∧ (s.takeT n).2 = s.sets es ∧ ∀ s2 : St, s2.get n = s.get n → s2.takeT n = ((s.takeT n).1, s2.sets es) := by
  unfold St.takeT
  split
  · rename_i z nn xs e
    refine ⟨[(n, .vec none nn xs)], by simp, rfl, fun s2 h => ?_⟩
    rw [h, e]
    rfl
  · rename_i v hn
    refine ⟨[], by simp, rfl, fun s2 h => ?_⟩
    rw [h]
    split
    · rename_i z nn xs e
      exact absurd e (hn z nn xs)
    · rfl

theorem takeO_sets (x : VO) (s : St) : ∃ es : List (Nat × AV), (∀ p ∈ es, p.1 ∈ tmpsO x) ∧ (s.takeO x).2 = s.sets es ∧ ∀ s2 : St, s2.ev x = s.ev x → s2.takeO x = ((s.takeO x).1, s2.sets es) := by
  cases x with
  | t n =>
    obtain ⟨es, h1, h2, h3⟩ := takeT_sets n s
    exact ⟨es, fun p hp => by simp [tmpsO, h1 p hp], h2, h3⟩
  | k v => exact ⟨[], by simp, rfl, fun s2 _ => rfl⟩

theorem quiet_exec {d : Nat} {op : VOp} {v : AV} {s' : St} (hq : quiet op = true) (hnc : ∀ f args, op ≠ .callP f args) (h : exec d op s = some (v, s')) :
    ∃ es : List (Nat × AV), (∀ p ∈ es, p.1 ∈ opMods op) ∧ s' = s.sets es ∧ ∀ s2, Agree (opTmps op) s s2 → exec d op s2 = some (v, s2.sets es) := by
  by_cases hp : isPure op = true
  · rw [exec_pure hp] at h
    split at h
    · rename_i v' hv
      simp only [Option.some.injEq, Prod.mk.injEq] at h
      obtain ⟨rfl, rfl⟩ := h
      refine ⟨[], by simp, rfl, fun s2 ha => ?_⟩
      rw [exec_pure hp, pval_congr (ev := s2.ev) (ev' := s.ev) fun x hx => ha.ev hx, hv]
      rfl
    · simp at h
  · cases op with
    | take n =>
      simp only [exec, Option.some.injEq] at h
      obtain ⟨es, h1, h2, h3⟩ := takeT_sets n s
      refine ⟨es, fun p hp => by simp [opMods, h1 p hp], by rw [← h2, h], fun s2 ha => ?_⟩
      simp only [exec]
      rw [h3 s2 (ha.get (by simp [opTmps])), h]
    | assign x =>
      simp only [exec, Option.some.injEq] at h
      obtain ⟨es, h1, h2, h3⟩ := takeO_sets x s
      refine ⟨es, h1, by rw [← h2, h], fun s2 ha => ?_⟩
      simp only [exec]
      rw [h3 s2 (ha.ev (fun n hn => hn)), h]
    | slSl z x lo hi mx =>
      have key : ∀ s2, Agree (opTmps (.slSl z x lo hi mx)) s s2 → exec d (.slSl z x lo hi mx) s2 = (exec d (.slSl z x lo hi mx) s).map fun r => (r.1, s2) := by
        intro s2 ha
        simp only [exec]
        rw [ha.ev (x := x) (fun n hn => by simp [opTmps, hn])]
        split
        · rw [ha.optV (x := lo) (fun n hn => by simp [opTmps, hn]), ha.optV (x := hi) (fun n hn => by simp [opTmps, hn]), ha.mapOpt (x := mx) (fun n hn => by simp [opTmps, hn])]
          split <;> rfl
        · rw [ha.optV (x := lo) (fun n hn => by simp [opTmps, hn]), ha.optV (x := hi) (fun n hn => by simp [opTmps, hn])]
          split
          · split <;> rfl
          · rfl
        · rw [ha.optV (x := lo) (fun n hn => by simp [opTmps, hn]), ha.optV (x := hi) (fun n hn => by simp [opTmps, hn])]
          split
          · split <;> rfl
          · rfl
        · rw [ha.optV (x := lo) (fun n hn => by simp [opTmps, hn]), ha.optV (x := hi) (fun n hn => by simp [opTmps, hn])]
          split
          · split <;> rfl
          · rfl
        · rfl
      have hs : s' = s := by
        have := key s (fun t _ => rfl)
        rw [h] at this
        simp only [Option.map_some, Option.some.injEq, Prod.mk.injEq, true_and] at this
        exact this
      subst hs
      refine ⟨[], by simp, rfl, fun s2 ha => ?_⟩
      rw [key s2 ha, h]
      rfl
    | append z b a x =>
      obtain ⟨es, h1, h2, h3⟩ := takeO_sets a s
      have key : ∀ s2, Agree (opTmps (.append z b a x)) s s2 → exec d (.append z b a x) s2 = (exec d (.append z b a x) s).map fun r => (r.1, s2.sets es) := by
        intro s2 ha
        simp only [exec]
        rw [ha.ev (x := x) (fun n hn => by simp [opTmps, hn]), h3 s2 (ha.ev (x := a) (fun n hn => by simp [opTmps, hn]))]
        generalize s.takeO a = q
        obtain ⟨v0, s0⟩ := q
        simp only
        cases elems? z (s.ev x) with
        | none => rfl
        | some ys =>
          simp only
          split
          · split <;> rfl
          · split <;> rfl
          · rfl
      have hs : s' = s.sets es := by
        have := key s (fun t _ => rfl)
        rw [h] at this
        simp only [Option.map_some, Option.some.injEq, Prod.mk.injEq, true_and] at this
        exact this
      refine ⟨es, h1, hs, fun s2 ha => ?_⟩
      rw [key s2 ha, h]
      rfl
    | callP f args => exact absurd rfl (hnc f args)
    | _ => simp [quiet, isPure] at hq hp

end
end Go.Vm
/- A region that draws its order comes to what the text's order comes to. -/
namespace Go.Vm

section
variable {s s1 s2 : St} {t : Nat} {u : AV} {C : CallF}

theorem sets_put (es : List (Nat × AV)) (d : Option Nat) (v : AV) (s : St) : (s.sets es).put d v = s.sets (es ++ d.toList.map fun d => (d, v)) := by
  cases d with
  | none => simp [St.put]
  | some d => simp [St.put, St.sets]

/-- A quiet operation asks the slots that it names, and writes slots alone. -/
theorem quiet_one {i : VI} (hq : quiet i.op = true) {s s' : St} (h : one C i s = some s') :
    ∃ ds : List (Nat × AV), (∀ p ∈ ds, p.1 ∈ mods i) ∧ s' = s.sets ds ∧ ∀ s2, Agree (slots i) s s2 → one C i s2 = some (s2.sets ds) := by
  have hstep : ∀ {s s' : St}, step C i s = some s' → ∃ ds : List (Nat × AV), (∀ p ∈ ds, p.1 ∈ mods i) ∧ s' = s.sets ds ∧ ∀ s2, Agree (slots i) s s2 → step C i s2 = some (s2.sets ds) := by
    intro s s' h
    by_cases hc : NoCall i.op
    · rw [step_exec hc] at h
      split at h
      · rename_i v s1 he
        simp only [Option.some.injEq] at h
        obtain ⟨es, h1, h2, h3⟩ := quiet_exec hq hc.p he
        refine ⟨es ++ i.dst.toList.map fun d => (d, v), ?_, by rw [← h, h2, sets_put], fun s2 ha => ?_⟩
        · intro p hp
          rcases List.mem_append.1 hp with hp | hp
          · exact List.mem_append.2 (.inr (h1 p hp))
          · obtain ⟨d, hd, rfl⟩ := List.mem_map.1 hp
            exact List.mem_append.2 (.inl hd)
        · rw [step_exec hc, h3 s2 (fun t ht => ha t (by simp only [slots, List.mem_append]; exact .inr ht))]
          exact congrArg some (sets_put es i.dst v s2)
      · simp at h
    · have hop : ∃ f args, i.op = .callP f args := by
        exact Classical.byContradiction fun hn => hc ⟨fun f args e => by rw [e] at hq; simp [quiet, isPure] at hq, fun f args e => hn ⟨f, args, e⟩, fun f args e => by rw [e] at hq; simp [quiet, isPure] at hq, fun f args e => by rw [e] at hq; simp [quiet, isPure] at hq⟩
      obtain ⟨f, args, hop⟩ := hop
      unfold step at h
      rw [hop] at h
      simp only at h
      split at h
      · rename_i g caps hf
        split at h
        · rename_i hn
          split at h
          · rename_i v hCv
            simp only [Option.some.injEq] at h
            refine ⟨i.dst.toList.map fun d => (d, v), ?_, ?_, fun s2 ha => ?_⟩
            · intro p hp
              obtain ⟨d, hd, rfl⟩ := List.mem_map.1 hp
              exact List.mem_append.2 (.inl hd)
            · rw [← h]; exact sets_put [] i.dst v s
            · have hsub : ∀ n ∈ tmpsO f ++ tmpsL args, n ∈ slots i := fun n hn => by
                simp only [slots, List.mem_append]
                right
                rw [hop]
                exact hn
              have ef : s2.ev f = s.ev f := ha.ev fun n hn => hsub n (List.mem_append.2 (.inl hn))
              have ex : ∀ x ∈ args, s2.ev x = s.ev x := fun x hx => ha.ev fun n hn => hsub n (List.mem_append.2 (.inr (List.mem_flatMap.2 ⟨x, hx, hn⟩)))
              have e2 : (args.all fun x => (s2.ev x).nl) = (args.all fun x => (s.ev x).nl) := by
                rw [Bool.eq_iff_iff]
                simp only [List.all_eq_true]
                constructor <;> intro k x hx'
                · rw [← ex x hx']; exact k x hx'
                · rw [ex x hx']; exact k x hx'
              have e3 : (args.map fun x => (s2.ev x).view) = (args.map fun x => (s.ev x).view) := List.map_congr_left fun x hx' => by rw [ex x hx']
              unfold step
              rw [hop]
              simp only [ef, hf, e2, hn, if_true, e3, hCv]
              exact congrArg some (sets_put [] i.dst v s2)
          · simp at h
        · simp at h
      · simp at h
  unfold one at h
  cases hg : i.guard with
  | none =>
    rw [hg] at h
    obtain ⟨ds, h1, h2, h3⟩ := hstep h
    exact ⟨ds, h1, h2, fun s2 ha => by unfold one; rw [hg]; exact h3 s2 ha⟩
  | some g =>
    obtain ⟨j, want⟩ := g
    rw [hg] at h
    simp only at h
    have hj : j ∈ slots i := by simp [slots, hg]
    split at h
    · rename_i b hb
      split at h
      · rename_i hbw
        obtain ⟨ds, h1, h2, h3⟩ := hstep h
        refine ⟨ds, h1, h2, fun s2 ha => ?_⟩
        unfold one
        rw [hg]
        simp only [show s2.get j = s.get j from ha j hj, hb, hbw, if_true]
        exact h3 s2 ha
      · rename_i hbw
        simp only [Option.some.injEq] at h
        refine ⟨i.dst.toList.map fun d => (d, .tup []), ?_, by rw [← h]; exact sets_put [] i.dst _ s, fun s2 ha => ?_⟩
        · intro p hp
          obtain ⟨d, hd, rfl⟩ := List.mem_map.1 hp
          exact List.mem_append.2 (.inl hd)
        · unfold one
          rw [hg]
          simp only [show s2.get j = s.get j from ha j hj, hb, hbw, if_false]
          exact congrArg some (sets_put [] i.dst _ s2)
    · simp at h

/-- A load: it asks the objects, too. -/
theorem load_one {i : VI} (hq : isLoad i.op = true) {s s' : St} (h : one C i s = some s') :
    ∃ ds : List (Nat × AV), (∀ p ∈ ds, p.1 ∈ mods i) ∧ s' = s.sets ds ∧ ∀ s2, Agree (slots i) s s2 → (∀ x o, s.obj x = some o → s2.obj x = some o) → one C i s2 = some (s2.sets ds) := by
  cases hop : i.op with
  | load agg a =>
    have hc : NoCall i.op := noCall_of (by rw [hop]; rfl)
    have hsub : ∀ n ∈ tmpsO a, n ∈ slots i := fun n hn => by simp only [slots, List.mem_append]; right; rw [hop]; exact hn
    have hstep : ∀ {s s' : St}, step C i s = some s' → ∃ ds : List (Nat × AV), (∀ p ∈ ds, p.1 ∈ mods i) ∧ s' = s.sets ds ∧ ∀ s2, Agree (slots i) s s2 → (∀ x o, s.obj x = some o → s2.obj x = some o) → step C i s2 = some (s2.sets ds) := by
      intro s s' h
      rw [step_exec hc, hop] at h
      split at h
      · rename_i v s1 he
        simp only [Option.some.injEq] at h
        have key : s1 = s ∧ ∀ s2, Agree (slots i) s s2 → (∀ x o, s.obj x = some o → s2.obj x = some o) → exec (i.dst.getD 0) (.load agg a) s2 = some (v, s2) := by
          simp only [exec] at he ⊢
          split at he
          · rename_i cs o hv
            split at he
            · rename_i r hp
              simp only [Option.some.injEq, Prod.mk.injEq] at he
              obtain ⟨rfl, rfl⟩ := he
              refine ⟨rfl, fun s2 ha ho => ?_⟩
              rw [ha.ev hsub, hv]
              simp only [hp]
            · simp at he
          · rename_i ix o hv
            split at he
            · rename_i cs hcs
              split at he
              · rename_i r hp
                simp only [Option.some.injEq, Prod.mk.injEq] at he
                obtain ⟨rfl, rfl⟩ := he
                refine ⟨rfl, fun s2 ha ho => ?_⟩
                rw [ha.ev hsub, hv]
                have : s2.obj ix = s.obj ix := by
                  cases hobj : s.obj ix with
                  | none => rw [hobj] at hcs; simp [objCells] at hcs
                  | some ob => exact ho ix ob hobj
                simp only [this, hcs, hp]
              · simp at he
            · simp at he
          · simp at he
        obtain ⟨rfl, k2⟩ := key
        refine ⟨i.dst.toList.map fun d => (d, v), ?_, by rw [← h]; exact sets_put [] i.dst v s1, fun s2 ha ho => ?_⟩
        · intro p hp
          obtain ⟨d, hd, rfl⟩ := List.mem_map.1 hp
          exact List.mem_append.2 (.inl hd)
        · rw [step_exec hc, hop, k2 s2 ha ho]
          exact congrArg some (sets_put [] i.dst v s2)
      · simp at h
    unfold one at h
    cases hg : i.guard with
    | none =>
      rw [hg] at h
      obtain ⟨ds, h1, h2, h3⟩ := hstep h
      exact ⟨ds, h1, h2, fun s2 ha ho => by unfold one; rw [hg]; exact h3 s2 ha ho⟩
    | some g =>
      obtain ⟨j, want⟩ := g
      rw [hg] at h
      simp only at h
      have hj : j ∈ slots i := by simp [slots, hg]
      split at h
      · rename_i b hb
        split at h
        · rename_i hbw
          obtain ⟨ds, h1, h2, h3⟩ := hstep h
          refine ⟨ds, h1, h2, fun s2 ha ho => ?_⟩
          unfold one
          rw [hg]
          simp only [show s2.get j = s.get j from ha j hj, hb, hbw, if_true]
          exact h3 s2 ha ho
        · rename_i hbw
          simp only [Option.some.injEq] at h
          refine ⟨i.dst.toList.map fun d => (d, .tup []), ?_, by rw [← h]; exact sets_put [] i.dst _ s, fun s2 ha ho => ?_⟩
          · intro p hp
            obtain ⟨d, hd, rfl⟩ := List.mem_map.1 hp
            exact List.mem_append.2 (.inl hd)
          · unfold one
            rw [hg]
            simp only [show s2.get j = s.get j from ha j hj, hb, hbw, if_false]
            exact congrArg some (sets_put [] i.dst _ s2)
      · simp at h
  | loadO a =>
    have hc : NoCall i.op := noCall_of (by rw [hop]; rfl)
    have hsub : ∀ n ∈ tmpsO a, n ∈ slots i := fun n hn => by simp only [slots, List.mem_append]; right; rw [hop]; exact hn
    have hstep : ∀ {s s' : St}, step C i s = some s' → ∃ ds : List (Nat × AV), (∀ p ∈ ds, p.1 ∈ mods i) ∧ s' = s.sets ds ∧ ∀ s2, Agree (slots i) s s2 → (∀ x o, s.obj x = some o → s2.obj x = some o) → step C i s2 = some (s2.sets ds) := by
      intro s s' h
      rw [step_exec hc, hop] at h
      split at h
      · rename_i v s1 he
        simp only [Option.some.injEq] at h
        have key : s1 = s ∧ ∀ s2, Agree (slots i) s s2 → (∀ x o, s.obj x = some o → s2.obj x = some o) → exec (i.dst.getD 0) (.loadO a) s2 = some (v, s2) := by
          simp only [exec] at he ⊢
          split at he
          · rename_i ix o hv
            split at he
            · rename_i cs hcs
              split at he
              · rename_i r hp
                simp only [Option.some.injEq, Prod.mk.injEq] at he
                obtain ⟨rfl, rfl⟩ := he
                refine ⟨rfl, fun s2 ha ho => ?_⟩
                rw [ha.ev hsub, hv]
                have : s2.obj ix = s.obj ix := by
                  cases hobj : s.obj ix with
                  | none => rw [hobj] at hcs; simp [objCells] at hcs
                  | some ob => exact ho ix ob hobj
                simp only [this, hcs, hp]
              · simp at he
            · simp at he
          · simp at he
        obtain ⟨rfl, k2⟩ := key
        refine ⟨i.dst.toList.map fun d => (d, v), ?_, by rw [← h]; exact sets_put [] i.dst v s1, fun s2 ha ho => ?_⟩
        · intro p hp
          obtain ⟨d, hd, rfl⟩ := List.mem_map.1 hp
          exact List.mem_append.2 (.inl hd)
        · rw [step_exec hc, hop, k2 s2 ha ho]
          exact congrArg some (sets_put [] i.dst v s2)
      · simp at h
    unfold one at h
    cases hg : i.guard with
    | none =>
      rw [hg] at h
      obtain ⟨ds, h1, h2, h3⟩ := hstep h
      exact ⟨ds, h1, h2, fun s2 ha ho => by unfold one; rw [hg]; exact h3 s2 ha ho⟩
    | some g =>
      obtain ⟨j, want⟩ := g
      rw [hg] at h
      simp only at h
      have hj : j ∈ slots i := by simp [slots, hg]
      split at h
      · rename_i b hb
        split at h
        · rename_i hbw
          obtain ⟨ds, h1, h2, h3⟩ := hstep h
          refine ⟨ds, h1, h2, fun s2 ha ho => ?_⟩
          unfold one
          rw [hg]
          simp only [show s2.get j = s.get j from ha j hj, hb, hbw, if_true]
          exact h3 s2 ha ho
        · rename_i hbw
          simp only [Option.some.injEq] at h
          refine ⟨i.dst.toList.map fun d => (d, .tup []), ?_, by rw [← h]; exact sets_put [] i.dst _ s, fun s2 ha ho => ?_⟩
          · intro p hp
            obtain ⟨d, hd, rfl⟩ := List.mem_map.1 hp
            exact List.mem_append.2 (.inl hd)
          · unfold one
            rw [hg]
            simp only [show s2.get j = s.get j from ha j hj, hb, hbw, if_false]
            exact congrArg some (sets_put [] i.dst _ s2)
      · simp at h
  | _ => rw [hop] at hq; simp [isLoad] at hq

theorem put_obj (s : St) (d : Option Nat) (v : AV) (x : Ix) : (s.put d v).obj x = s.obj x := by
  cases d with
  | none => rfl
  | some d => exact setO_obj s x

theorem addLoc_obj (s : St) (d : Nat) (lo : LObj) (x : Ix) (o : LObj) (h : s.obj x = some o) : ({ s with loc := fun j => if j = d then s.loc d ++ [lo] else s.loc j } : St).obj x = some o := by
  cases x with
  | mem i => exact h
  | loc t k =>
    simp only [St.obj] at h ⊢
    split
    · rename_i e; subst e
      obtain ⟨hk, _⟩ := List.getElem?_eq_some_iff.1 h
      rw [List.getElem?_append_left hk]; exact h
    · exact h

theorem addMem_objK (s : St) (lo : LObj) (x : Ix) (o : LObj) (h : s.obj x = some o) : ({ s with mem := s.mem ++ [some lo] } : St).obj x = some o := by
  cases x with
  | loc t k => exact h
  | mem i =>
    simp only [St.obj] at h ⊢
    by_cases hi : i < s.mem.length
    · rw [List.getElem?_append_left hi]; exact h
    · rw [List.getElem?_eq_none (by omega)] at h; simp at h

/-- A load asks one object alone. -/
theorem load_oneA {i : VI} {a : VO} (hq : (∃ agg, i.op = .load agg a) ∨ i.op = .loadO a) {s s' : St} (h : one C i s = some s') :
    ∃ ds : List (Nat × AV), (∀ p ∈ ds, p.1 ∈ mods i) ∧ s' = s.sets ds ∧ ∀ s2, Agree (slots i) s s2 → (∀ x off o, s.ev a = .ptr x off → s.obj x = some o → s2.obj x = some o) → one C i s2 = some (s2.sets ds) := by
  have hc : NoCall i.op := noCall_of (by rcases hq with ⟨agg, e⟩ | e <;> rw [e] <;> rfl)
  have hsub : ∀ n ∈ tmpsO a, n ∈ slots i := fun n hn => by
    simp only [slots, List.mem_append]; right; rcases hq with ⟨agg, e⟩ | e <;> rw [e] <;> exact hn
  have key : ∀ {s s1 : St} {v : AV}, exec (i.dst.getD 0) i.op s = some (v, s1) → s1 = s ∧ ∀ s2, Agree (slots i) s s2 → (∀ x off o, s.ev a = .ptr x off → s.obj x = some o → s2.obj x = some o) → exec (i.dst.getD 0) i.op s2 = some (v, s2) := by
    intro s s1 v he
    have hob : ∀ {ix : Ix} {fz : Bool} {cs : List AV}, objCells fz (s.obj ix) = some cs → ∃ o, s.obj ix = some o := by
      intro ix fz cs h
      cases ho : s.obj ix with
      | none => rw [ho] at h; simp [objCells] at h
      | some o => exact ⟨o, rfl⟩
    rcases hq with ⟨agg, e⟩ | e
    · rw [e] at he ⊢
      simp only [exec] at he ⊢
      split at he
      · rename_i cs o hv
        split at he
        · rename_i r hp
          simp only [Option.some.injEq, Prod.mk.injEq] at he
          obtain ⟨rfl, rfl⟩ := he
          refine ⟨rfl, fun s2 ha ho => ?_⟩
          rw [ha.ev hsub, hv]
          simp only [hp]
        · simp at he
      · rename_i ix o hv
        split at he
        · rename_i cs hcs
          split at he
          · rename_i r hp
            simp only [Option.some.injEq, Prod.mk.injEq] at he
            obtain ⟨rfl, rfl⟩ := he
            refine ⟨rfl, fun s2 ha ho => ?_⟩
            obtain ⟨ob, hob⟩ := hob hcs
            rw [ha.ev hsub, hv]
            simp only [ho ix o ob hv hob]
            rw [hob] at hcs
            simp only [hcs, hp]
          · simp at he
        · simp at he
      · simp at he
    · rw [e] at he ⊢
      simp only [exec] at he ⊢
      split at he
      · rename_i ix o hv
        split at he
        · rename_i cs hcs
          split at he
          · rename_i r hp
            simp only [Option.some.injEq, Prod.mk.injEq] at he
            obtain ⟨rfl, rfl⟩ := he
            refine ⟨rfl, fun s2 ha ho => ?_⟩
            obtain ⟨ob, hob⟩ := hob hcs
            rw [ha.ev hsub, hv]
            simp only [ho ix o ob hv hob]
            rw [hob] at hcs
            simp only [hcs, hp]
          · simp at he
        · simp at he
      · simp at he
  have hstep : ∀ {s s' : St}, step C i s = some s' → ∃ ds : List (Nat × AV), (∀ p ∈ ds, p.1 ∈ mods i) ∧ s' = s.sets ds ∧ ∀ s2, Agree (slots i) s s2 → (∀ x off o, s.ev a = .ptr x off → s.obj x = some o → s2.obj x = some o) → step C i s2 = some (s2.sets ds) := by
    intro s s' h
    rw [step_exec hc] at h
    split at h
    · rename_i v s1 he
      simp only [Option.some.injEq] at h
      obtain ⟨rfl, k2⟩ := key he
      refine ⟨i.dst.toList.map fun d => (d, v), ?_, by rw [← h]; exact sets_put [] i.dst v s1, fun s2 ha ho => ?_⟩
      · intro p hp
        obtain ⟨d, hd, rfl⟩ := List.mem_map.1 hp
        exact List.mem_append.2 (.inl hd)
      · rw [step_exec hc, k2 s2 ha ho]
        exact congrArg some (sets_put [] i.dst v s2)
    · simp at h
  unfold one at h
  cases hg : i.guard with
  | none =>
    rw [hg] at h
    obtain ⟨ds, h1, h2, h3⟩ := hstep h
    exact ⟨ds, h1, h2, fun s2 ha ho => by unfold one; rw [hg]; exact h3 s2 ha ho⟩
  | some g =>
    obtain ⟨j, want⟩ := g
    rw [hg] at h
    simp only at h
    have hj : j ∈ slots i := by simp [slots, hg]
    split at h
    · rename_i b hb
      split at h
      · rename_i hbw
        obtain ⟨ds, h1, h2, h3⟩ := hstep h
        refine ⟨ds, h1, h2, fun s2 ha ho => ?_⟩
        unfold one
        rw [hg]
        simp only [show s2.get j = s.get j from ha j hj, hb, hbw, if_true]
        exact h3 s2 ha ho
      · rename_i hbw
        simp only [Option.some.injEq] at h
        refine ⟨i.dst.toList.map fun d => (d, .tup []), ?_, by rw [← h]; exact sets_put [] i.dst _ s, fun s2 ha ho => ?_⟩
        · intro p hp
          obtain ⟨d, hd, rfl⟩ := List.mem_map.1 hp
          exact List.mem_append.2 (.inl hd)
        · unfold one
          rw [hg]
          simp only [show s2.get j = s.get j from ha j hj, hb, hbw, if_false]
          exact congrArg some (sets_put [] i.dst _ s2)
    · simp at h

/-- Appending to a row of its own leaves all objects but the row's old one. -/
theorem app_obj {i : VI} {z y : Nat} {b x : VO} (hi : i.op = .appendO z y b x) {s t : St} (h : one C i s = some t) {ix : Ix} {o : LObj} (ho : s.obj ix = some o) (hne : ∀ z' k n, s.ev b = .orow z' k n → ix ≠ .mem k) : t.obj ix = some o := by
  have hc : NoCall i.op := noCall_of (by rw [hi]; rfl)
  have hstep : ∀ {t : St}, step C i s = some t → t.obj ix = some o := by
    intro t h
    rw [step_exec hc, hi] at h
    split at h
    · rename_i v s1 he
      simp only [Option.some.injEq] at h
      rw [← h, put_obj]
      simp only [exec] at he
      split at he
      · rename_i ys hys
        split at he
        · rename_i v' m hm
          simp only [Option.some.injEq, Prod.mk.injEq] at he
          obtain ⟨rfl, rfl⟩ := he
          cases ix with
          | loc t k => exact ho
          | mem q =>
            have hq : q < s.mem.length := by
              simp only [St.obj] at ho
              split at ho
              · rename_i o' hq; exact (List.getElem?_eq_some_iff.1 hq).1
              · simp at ho
            show (match m[q]? with | some o => o | none => none) = some o
            have fin : m[q]? = s.mem[q]? → (match m[q]? with | some o => o | none => none) = some o := fun e => by rw [e]; exact ho
            apply fin
            unfold appO at hm
            split at hm
            · split at hm
              · simp only [Option.some.injEq, Prod.mk.injEq] at hm
                rw [← hm.2, List.getElem?_append_left hq]
              · simp at hm
            · split at hm
              · simp only [Option.some.injEq, Prod.mk.injEq] at hm
                rw [← hm.2, List.getElem?_append_left hq]
              · simp at hm
            · rename_i z' k n hv
              split at hm
              · split at hm
                · simp only [Option.some.injEq, Prod.mk.injEq] at hm
                  have hk : q ≠ k := fun e => hne _ _ _ hv (by rw [e])
                  rw [← hm.2, List.getElem?_append_left (by simpa using hq), List.getElem?_set_ne (Ne.symm hk)]
                · simp at hm
              · simp at hm
            · simp at hm
        · simp at he
      · simp at he
    · simp at h
  unfold one at h
  split at h
  · exact hstep h
  · split at h
    · split at h
      · exact hstep h
      · simp only [Option.some.injEq] at h
        rw [← h, put_obj]; exact ho
    · simp at h

/-- Objects that are there stay. -/
theorem keeps_one {i : VI} (hk : keepsObj i.op = true) {s s' : St} (h : one C i s = some s') : ∀ x o, s.obj x = some o → s'.obj x = some o := by
  have hc : NoCall i.op := noCall_of (by cases hop : i.op <;> first | rfl | (rw [hop] at hk; simp [keepsObj] at hk))
  have hstep : ∀ {s s' : St}, step C i s = some s' → ∀ x o, s.obj x = some o → s'.obj x = some o := by
    intro s s' h x o ho
    rw [step_exec hc] at h
    split at h
    · rename_i v s1 he
      simp only [Option.some.injEq] at h
      rw [← h, put_obj]
      cases hop : i.op with
      | load agg a =>
        rw [hop] at he
        simp only [exec] at he
        split at he
        · split at he <;> simp at he
          rw [← he.2]; exact ho
        · split at he
          · split at he <;> simp at he
            rw [← he.2]; exact ho
          · simp at he
        · simp at he
      | loadO a =>
        rw [hop] at he
        simp only [exec] at he
        split at he
        · split at he
          · split at he <;> simp at he
            rw [← he.2]; exact ho
          · simp at he
        · simp at he
      | alloc hp cs =>
        rw [hop] at he hk
        cases hp with
        | true =>
          simp only [exec, if_true, Option.some.injEq, Prod.mk.injEq] at he
          rw [← he.2]; exact addMem_objK s _ x o ho
        | false =>
          simp only [exec, Bool.false_eq_true, if_false, Option.some.injEq, Prod.mk.injEq] at he
          rw [← he.2]; exact addLoc_obj s _ _ x o ho
      | box hp y =>
        rw [hop] at he hk
        cases hp with
        | true =>
          simp only [exec, if_true] at he
          split at he
          · simp only [Option.some.injEq, Prod.mk.injEq] at he
            rw [← he.2]; exact addMem_objK s _ x o ho
          · simp at he
        | false =>
          simp only [exec, Bool.false_eq_true, if_false] at he
          split at he
          · simp only [Option.some.injEq, Prod.mk.injEq] at he
            rw [← he.2]; exact addLoc_obj s _ _ x o ho
          · simp at he
      | _ => rw [hop] at hk; simp [keepsObj] at hk
    · simp at h
  unfold one at h
  split at h
  · exact hstep h
  · split at h
    · split at h
      · exact hstep h
      · simp only [Option.some.injEq] at h
        intro x o ho
        rw [← h, put_obj]; exact ho
    · simp at h

/-- What looks at memory and writes its slot alone. -/
def isRdr : VOp → Bool
  | .load _ _ => true
  | .loadO _ => true
  | .callR _ _ => true
  | .strOfM _ => true
  | _ => false
theorem obj_same {s s2 : St} (hm : s2.mem = s.mem) (hl : s2.loc = s.loc) (x : Ix) : s2.obj x = s.obj x := by
  cases x <;> simp [St.obj, hm, hl]
theorem rdr_step {i : VI} (hq : isRdr i.op = true) {s s' : St} (h : step C i s = some s') :
    ∃ v, s' = s.put i.dst v ∧ ∀ s2, Agree (slots i) s s2 → s2.mem = s.mem → s2.loc = s.loc → step C i s2 = some (s2.put i.dst v) := by
  have hsub : ∀ n ∈ opTmps i.op, n ∈ slots i := fun n hn => by simp only [slots, List.mem_append]; right; exact hn
  have plain : NoCall i.op → (∀ s2 : St, Agree (slots i) s s2 → s2.mem = s.mem → s2.loc = s.loc → exec (i.dst.getD 0) i.op s2 = (exec (i.dst.getD 0) i.op s).map fun r => (r.1, s2)) →
      ∃ v, s' = s.put i.dst v ∧ ∀ s2, Agree (slots i) s s2 → s2.mem = s.mem → s2.loc = s.loc → step C i s2 = some (s2.put i.dst v) := by
    intro hc key
    rw [step_exec hc] at h
    have k0 := key s (fun t _ => rfl) rfl rfl
    split at h
    · rename_i v s1 he
      rw [he] at k0
      simp only [Option.map_some, Option.some.injEq, Prod.mk.injEq, true_and] at k0
      subst k0
      simp only [Option.some.injEq] at h
      exact ⟨v, h.symm, fun s2 ha hm hl => by rw [step_exec hc, key s2 ha hm hl, he]; rfl⟩
    · simp at h
  cases hop : i.op with
  | load agg a =>
    refine plain (noCall_of (by rw [hop]; rfl)) fun s2 ha hm hl => ?_
    rw [hop]
    simp only [exec]
    rw [ha.ev (x := a) (fun n hn => hsub n (by rw [hop]; exact hn))]
    split
    · split <;> rfl
    · rw [obj_same hm hl]
      split
      · split <;> rfl
      · rfl
    · rfl
  | loadO a =>
    refine plain (noCall_of (by rw [hop]; rfl)) fun s2 ha hm hl => ?_
    rw [hop]
    simp only [exec]
    rw [ha.ev (x := a) (fun n hn => hsub n (by rw [hop]; exact hn))]
    split
    · rw [obj_same hm hl]
      split
      · split <;> rfl
      · rfl
    · rfl
  | strOfM x =>
    refine plain (noCall_of (by rw [hop]; rfl)) fun s2 ha hm hl => ?_
    rw [hop]
    simp only [exec]
    rw [ha.ev (x := x) (fun n hn => hsub n (by rw [hop]; exact hn))]
    split
    · rw [obj_same hm hl]
      split
      · split
        · split <;> rfl
        · rfl
      · rfl
    · split <;> rfl
    · rfl
  | callR f args =>
    have hs : ∀ n ∈ tmpsO f ++ tmpsL args, n ∈ slots i := fun n hn => hsub n (by rw [hop]; exact hn)
    unfold step at h
    rw [hop] at h
    simp only at h
    split at h
    · rename_i g caps hf
      split at h
      · rename_i hn
        split at h
        · rename_i v m hCv
          split at h
          · rename_i he
            simp only [Option.some.injEq] at h
            refine ⟨v, h.symm, fun s2 ha hm hl => ?_⟩
            have ef : s2.ev f = s.ev f := ha.ev fun n hn => hs n (List.mem_append.2 (.inl hn))
            have ex : ∀ x ∈ args, s2.ev x = s.ev x := fun x hx => ha.ev fun n hn => hs n (List.mem_append.2 (.inr (List.mem_flatMap.2 ⟨x, hx, hn⟩)))
            have e2 : (args.all fun x => (s2.ev x).nl) = (args.all fun x => (s.ev x).nl) := by
              rw [Bool.eq_iff_iff]
              simp only [List.all_eq_true]
              constructor <;> intro k x hx'
              · rw [← ex x hx']; exact k x hx'
              · rw [ex x hx']; exact k x hx'
            have e3 : (args.map fun x => (s2.ev x).view) = (args.map fun x => (s.ev x).view) := List.map_congr_left fun x hx' => by rw [ex x hx']
            unfold step
            rw [hop]
            simp only [ef, hf, e2, hn, if_true, e3, hm, hCv, he]
          · simp at h
        · simp at h
      · simp at h
    · simp at h
  | _ => rw [hop] at hq; simp [isRdr] at hq
theorem sets_mem : ∀ (ds : List (Nat × AV)) (s : St), (s.sets ds).mem = s.mem ∧ (s.sets ds).loc = s.loc
  | [], _ => ⟨rfl, rfl⟩
  | p :: ds, s => sets_mem ds (s.set p.1 p.2)
theorem rdr_one {i : VI} (hq : isRdr i.op = true) {s s' : St} (h : one C i s = some s') :
    ∃ ds : List (Nat × AV), (∀ p ∈ ds, p.1 ∈ mods i) ∧ s' = s.sets ds ∧ ∀ s2, Agree (slots i) s s2 → s2.mem = s.mem → s2.loc = s.loc → one C i s2 = some (s2.sets ds) := by
  have hstep : ∀ {s s' : St}, step C i s = some s' → ∃ ds : List (Nat × AV), (∀ p ∈ ds, p.1 ∈ mods i) ∧ s' = s.sets ds ∧ ∀ s2, Agree (slots i) s s2 → s2.mem = s.mem → s2.loc = s.loc → step C i s2 = some (s2.sets ds) := by
    intro s s' h
    obtain ⟨v, h1, h2⟩ := rdr_step hq h
    refine ⟨i.dst.toList.map fun d => (d, v), ?_, by rw [h1]; exact sets_put [] i.dst v s, fun s2 ha hm hl => by rw [h2 s2 ha hm hl]; exact congrArg some (sets_put [] i.dst v s2)⟩
    intro p hp
    obtain ⟨d, hd, rfl⟩ := List.mem_map.1 hp
    exact List.mem_append.2 (.inl hd)
  unfold one at h
  cases hg : i.guard with
  | none =>
    rw [hg] at h
    obtain ⟨ds, h1, h2, h3⟩ := hstep h
    exact ⟨ds, h1, h2, fun s2 ha hm hl => by unfold one; rw [hg]; exact h3 s2 ha hm hl⟩
  | some g =>
    obtain ⟨j, want⟩ := g
    rw [hg] at h
    simp only at h
    have hj : j ∈ slots i := by simp [slots, hg]
    split at h
    · rename_i b hb
      split at h
      · rename_i hbw
        obtain ⟨ds, h1, h2, h3⟩ := hstep h
        refine ⟨ds, h1, h2, fun s2 ha hm hl => ?_⟩
        unfold one
        rw [hg]
        simp only [show s2.get j = s.get j from ha j hj, hb, hbw, if_true]
        exact h3 s2 ha hm hl
      · rename_i hbw
        simp only [Option.some.injEq] at h
        refine ⟨i.dst.toList.map fun d => (d, .tup []), ?_, by rw [← h]; exact sets_put [] i.dst _ s, fun s2 ha _ _ => ?_⟩
        · intro p hp
          obtain ⟨d, hd, rfl⟩ := List.mem_map.1 hp
          exact List.mem_append.2 (.inl hd)
        · unfold one
          rw [hg]
          simp only [show s2.get j = s.get j from ha j hj, hb, hbw, if_false]
          exact congrArg some (sets_put [] i.dst _ s2)
    · simp at h

/-- May i go ahead of j, which stands before it in the text? -/
def okPair0 (j i : VI) : Bool :=
  ((mods j).all fun t => !(slots i).contains t) && ((mods i).all fun t => !(slots j).contains t) &&
  (quiet i.op || quiet j.op || (isLoad j.op && keepsObj i.op) || (isRdr j.op && isRdr i.op))

theorem swap0 {j i : VI} (hok : okPair0 j i = true) {s s1 s2 : St} (h1 : one C j s = some s1) (h2 : one C i s1 = some s2) : ∃ s1', one C i s = some s1' ∧ one C j s1' = some s2 := by
  simp only [okPair0, Bool.and_eq_true, Bool.or_eq_true, List.all_eq_true, Bool.not_eq_true', List.contains_eq_mem, decide_eq_false_iff_not] at hok
  obtain ⟨⟨hji, hij⟩, hk⟩ := hok
  have ag1 : Agree (slots i) s1 s := fun t ht => (one_mods h1 fun hm => hji t hm ht).symm
  rcases hk with ((hqi | hqj) | ⟨hlj, hki⟩) | ⟨hrj, hri⟩
  · obtain ⟨ds, k1, k2, k3⟩ := quiet_one hqi h2
    refine ⟨_, k3 s ag1, ?_⟩
    rw [one_sets ds s fun p hp => hij _ (k1 p hp), h1, k2]
    rfl
  · obtain ⟨ds, k1, k2, k3⟩ := quiet_one hqj h1
    subst k2
    rw [one_sets ds s fun p hp => hji _ (k1 p hp)] at h2
    cases hi : one C i s with
    | none => rw [hi] at h2; simp at h2
    | some s1' =>
      rw [hi] at h2
      simp only [Option.map_some, Option.some.injEq] at h2
      refine ⟨s1', rfl, ?_⟩
      rw [k3 s1' fun t ht => one_mods hi fun hm => hij t hm ht, h2]
  · obtain ⟨ds, k1, k2, k3⟩ := load_one hlj h1
    subst k2
    rw [one_sets ds s fun p hp => hji _ (k1 p hp)] at h2
    cases hi : one C i s with
    | none => rw [hi] at h2; simp at h2
    | some s1' =>
      rw [hi] at h2
      simp only [Option.map_some, Option.some.injEq] at h2
      refine ⟨s1', rfl, ?_⟩
      rw [k3 s1' (fun t ht => one_mods hi fun hm => hij t hm ht) (keeps_one hki hi), h2]
  · obtain ⟨dj, _, j2, _⟩ := rdr_one hrj h1
    obtain ⟨ds, k1, k2, k3⟩ := rdr_one hri h2
    have hml := sets_mem dj s
    rw [← j2] at hml
    refine ⟨_, k3 s ag1 hml.1.symm hml.2.symm, ?_⟩
    rw [one_sets ds s fun p hp => hij _ (k1 p hp), h1, k2]
    rfl

/-- A taking and a reading of the same slot. -/
def tmPair : VI → VI → Bool
  | ⟨some d, .take t, none⟩, ⟨some e, .move (.t u), none⟩ => t == u && d != e && d != t && e != t
  | ⟨some e, .move (.t u), none⟩, ⟨some d, .take t, none⟩ => t == u && d != e && d != t && e != t
  | _, _ => false
theorem tm_core {s : St} {t d e : Nat} (h1 : d ≠ e) (h2 : d ≠ t) (h3 : e ≠ t) :
    (((s.takeT t).2.set d (s.takeT t).1).set e (((s.takeT t).2.set d (s.takeT t).1).get t).view) = ((s.set e (s.get t).view).takeT t).2.set d ((s.set e (s.get t).view).takeT t).1 := by
  have hg : ∀ (s : St) (a : Nat) (u : AV), a ≠ t → (s.set a u).get t = s.get t := fun s a u h => by
    simp only [St.set, St.get]; rw [if_neg (Ne.symm h)]
  have hself : ∀ (s : St) (u : AV), (s.set t u).get t = u := fun s u => by simp [St.set, St.get]
  rw [takeT_set (Ne.symm (Ne.symm h3)), hg _ d _ h2]
  simp only
  rw [set_comm _ _ _ h1]
  congr 1
  unfold St.takeT
  split
  · rename_i z nn xs hv
    simp only [hself, hv, AV.view]
    try rw [set_comm _ _ _ (Ne.symm h3)]
  · rfl
theorem take_one (d t : Nat) (s : St) : one C ⟨some d, .take t, none⟩ s = some ((s.takeT t).2.set d (s.takeT t).1) := rfl
theorem move_one (e t : Nat) (s : St) : one C ⟨some e, .move (.t t), none⟩ s = some (s.set e (s.get t).view) := rfl
theorem tm_swap {j i : VI} (hok : tmPair j i = true) {s s1 s2 : St} (h1 : one C j s = some s1) (h2 : one C i s1 = some s2) : ∃ s1', one C i s = some s1' ∧ one C j s1' = some s2 := by
  unfold tmPair at hok
  split at hok
  · rename_i d t e u
    simp only [Bool.and_eq_true, beq_iff_eq, bne_iff_ne] at hok
    obtain ⟨⟨⟨rfl, k1⟩, k2⟩, k3⟩ := hok
    rw [take_one] at h1
    simp only [Option.some.injEq] at h1
    subst h1
    rw [move_one] at h2
    simp only [Option.some.injEq] at h2
    exact ⟨_, move_one _ _ _, by rw [take_one, ← h2, tm_core k1 k2 k3]⟩
  · rename_i e u d t
    simp only [Bool.and_eq_true, beq_iff_eq, bne_iff_ne] at hok
    obtain ⟨⟨⟨rfl, k1⟩, k2⟩, k3⟩ := hok
    rw [move_one] at h1
    simp only [Option.some.injEq] at h1
    subst h1
    rw [take_one] at h2
    simp only [Option.some.injEq] at h2
    exact ⟨_, take_one _ _ _, by rw [move_one, ← h2, tm_core k1 k2 k3]⟩
  · simp at hok
/-- An element's address, and a store that takes the slice: the address is the same behind it. -/
def ixPair : VI → VI → Bool
  | ⟨some d, .iaddrSl _ (.t t) x, none⟩, ⟨e, .store _ a (.t u), none⟩ => t == u && !(tmpsO a).contains d && d != t && !(tmpsO x).contains t && e.isNone
  | _, _ => false
theorem iaddr_one {z d t : Nat} {x : VO} {s s' : St} (h : one C ⟨some d, .iaddrSl z (.t t) x, none⟩ s = some s') : ∃ v, pval s.ev (.iaddrSl z (.t t) x) = some v ∧ s' = s.set d v := by
  have e : one C ⟨some d, .iaddrSl z (.t t) x, none⟩ s = match pval s.ev (.iaddrSl z (.t t) x) with
    | some v => some (s.set d v)
    | none => none := by
    unfold one step
    simp only [exec]
    cases pval s.ev (.iaddrSl z (.t t) x) <;> rfl
  rw [e] at h
  split at h
  · rename_i v hv
    simp only [Option.some.injEq] at h
    exact ⟨v, hv, h.symm⟩
  · simp at h
theorem one_iaddr {z d t : Nat} {x : VO} {s : St} {v : AV} (h : pval s.ev (.iaddrSl z (.t t) x) = some v) : one C ⟨some d, .iaddrSl z (.t t) x, none⟩ s = some (s.set d v) := by
  unfold one step
  simp only [exec, h]
  rfl
theorem store_get {z t : Nat} {a : VO} {s s' : St} (h : one C ⟨none, .store z a (.t t), none⟩ s = some s') (q : Nat) : s'.get q = (s.takeT t).2.get q := by
  unfold one step at h
  simp only [exec] at h
  split at h
  · rename_i v s1 hx
    simp only [Option.some.injEq] at h
    subst h
    split at hx
    · rename_i ix o hv
      split at hx
      · rename_i cs hcs
        split at hx
        · split at hx
          · simp only [Option.some.injEq, Prod.mk.injEq] at hx
            obtain ⟨rfl, rfl⟩ := hx
            cases ix <;> rfl
          · simp only [Option.some.injEq, Prod.mk.injEq] at hx
            obtain ⟨rfl, rfl⟩ := hx
            cases ix <;> rfl
        · simp at hx
      · simp at hx
    · simp at hx
  · simp at h
theorem ix_swap {j i : VI} (hok : ixPair j i = true) {s s1 s2 : St} (h1 : one C j s = some s1) (h2 : one C i s1 = some s2) : ∃ s1', one C i s = some s1' ∧ one C j s1' = some s2 := by
  unfold ixPair at hok
  split at hok
  · rename_i d z t x e w a u
    simp only [Bool.and_eq_true, beq_iff_eq, bne_iff_ne, Bool.not_eq_true', List.contains_eq_mem, decide_eq_false_iff_not, Option.isNone_iff_eq_none] at hok
    obtain ⟨⟨⟨⟨rfl, k1⟩, k2⟩, k3⟩, rfl⟩ := hok
    obtain ⟨v, hv, rfl⟩ := iaddr_one h1
    have hs := one_sets (C := C) (i := ⟨none, .store w a (.t t), none⟩) [(d, v)] s (fun p hp => by
      simp only [List.mem_singleton] at hp
      subst hp
      show d ∉ [] ++ [] ++ (tmpsO a ++ [t])
      simpa using ⟨k1, k2⟩)
    have hs' : one C ⟨none, .store w a (.t t), none⟩ (s.set d v) = (one C ⟨none, .store w a (.t t), none⟩ s).map (·.sets [(d, v)]) := hs
    rw [hs'] at h2
    cases hi : one C ⟨none, .store w a (.t t), none⟩ s with
    | none => rw [hi] at h2; simp at h2
    | some s1' =>
      rw [hi] at h2
      simp only [Option.map_some, Option.some.injEq] at h2
      refine ⟨s1', rfl, ?_⟩
      have hg := store_get hi
      have hx : s1'.ev x = s.ev x := by
        cases x with
        | k v => rfl
        | t n =>
          have hn : n ≠ t := by simpa [tmpsO, eq_comm] using k3
          show s1'.get n = s.get n
          rw [hg n]
          unfold St.takeT
          split
          · exact get_set_ne s _ hn
          · rfl
      have hp : pval s1'.ev (.iaddrSl z (.t t) x) = some v := by
        rw [← hv]
        have e1 : s1'.ev (.t t) = (s.takeT t).2.get t := hg t
        simp only [pval, hx, e1]
        have e2 : (s.takeT t).2.get t = s.get t ∨ ∃ z nn xs, s.get t = .vec (some z) nn xs ∧ (s.takeT t).2.get t = .vec none nn xs := by
          unfold St.takeT
          split
          · rename_i z nn xs hv'
            exact .inr ⟨z, nn, xs, hv', get_set_same s t _⟩
          · exact .inl rfl
        rcases e2 with e2 | ⟨z', nn, xs, e3, e4⟩
        · rw [e2]; rfl
        · rw [e4, show s.ev (.t t) = .vec (some z') nn xs from e3]
          cases s.ev x <;> rfl
      rw [one_iaddr hp, ← h2]
      rfl
  · simp at hok
/-- May i go ahead of j, which stands before it in the text? -/
def okPair (j i : VI) : Bool := okPair0 j i || tmPair j i || ixPair j i
theorem swap {j i : VI} (hok : okPair j i = true) {s s1 s2 : St} (h1 : one C j s = some s1) (h2 : one C i s1 = some s2) : ∃ s1', one C i s = some s1' ∧ one C j s1' = some s2 := by
  simp only [okPair, Bool.or_eq_true] at hok
  rcases hok with (h | h) | h
  · exact swap0 h h1 h2
  · exact tm_swap h h1 h2
  · exact ix_swap h h1 h2

theorem bubble {i : VI} : ∀ (l1 l2 : List VI) (s s' : St), (∀ j ∈ l1, okPair j i = true) → runOps C (l1 ++ i :: l2) s = some s' → runOps C (i :: (l1 ++ l2)) s = some s'
  | [], l2, s, s', _, h => h
  | j :: l1, l2, s, s', hok, h => by
    rw [List.cons_append, runOps_cons] at h
    split at h
    · rename_i s1 h1
      have ih := bubble l1 l2 s1 s' (fun k hk => hok k (by simp [hk])) h
      rw [runOps_cons] at ih
      split at ih
      · rename_i s2 h2
        obtain ⟨s1', e1, e2⟩ := swap (hok j (by simp)) h1 h2
        rw [runOps_cons, e1]
        simp only [List.cons_append]
        rw [runOps_cons, e2]
        exact ih
      · simp at ih
    · simp at h

end
end Go.Vm
/- Operations on different objects may change places. -/
namespace Go.Vm

def acc : VOp → Option VO
  | .load _ a => some a
  | .loadTake a => some a
  | .loadO a => some a
  | .store _ a _ => some a
  | _ => none

def isNew : VOp → Bool
  | .alloc false _ => true
  | .box false _ => true
  | _ => false

/-- The row that an operation appends to. -/
def appd : VOp → Option VO
  | .appendO _ _ a _ => some a
  | _ => none

def ldOf : VOp → Option VO
  | .load _ a => some a
  | .loadO a => some a
  | _ => none

/-- The slot that holds the address of what an operation touches. -/
def touch (i : VI) : Option VO :=
  match acc i.op with
  | some a => some a
  | none => match appd i.op with
    | some a => some a
    | none => if isNew i.op then i.dst.map .t else none

def touchTmps (i : VI) : List Nat := match touch i with | some a => tmpsO a | none => []

section
variable {s s1 s2 : St} {t : Nat} {u : AV} {C : CallF}

def setW (w : Option (Ix × LObj)) (s : St) : St :=
  match w with
  | some (x, o) => s.setObj x o
  | none => s

theorem setObj_sets : ∀ (ds : List (Nat × AV)) (s : St) (x : Ix) (o : LObj), (s.sets ds).setObj x o = (s.setObj x o).sets ds
  | [], _, _, _ => rfl
  | p :: ds, s, x, o => by
    show ((s.set p.1 p.2).sets ds).setObj x o = ((s.setObj x o).set p.1 p.2).sets ds
    rw [setObj_sets ds, setObj_set]
theorem set_sets : ∀ (ds : List (Nat × AV)) (s : St) (d : Nat) (v : AV), (∀ p ∈ ds, p.1 ≠ d) → (s.set d v).sets ds = (s.sets ds).set d v
  | [], _, _, _, _ => rfl
  | p :: ds, s, d, v, h => by
    show ((s.set d v).set p.1 p.2).sets ds = ((s.set p.1 p.2).sets ds).set d v
    rw [set_comm s _ _ (Ne.symm (h p (by simp))), set_sets ds _ _ _ fun q hq => h q (by simp [hq])]
theorem sets_comm : ∀ (bs as : List (Nat × AV)) (s : St), (∀ p ∈ as, ∀ q ∈ bs, p.1 ≠ q.1) → (s.sets as).sets bs = (s.sets bs).sets as
  | [], _, _, _ => rfl
  | q :: bs, as, s, h => by
    show ((s.sets as).set q.1 q.2).sets bs = ((s.set q.1 q.2).sets bs).sets as
    rw [← set_sets as s q.1 q.2 fun p hp => h p hp q (by simp), sets_comm bs as _ fun p hp r hr => h p hp r (by simp [hr])]

theorem setObj_comm {x y : Ix} (h : x ≠ y) (s : St) (o o' : LObj) : (s.setObj x o).setObj y o' = (s.setObj y o').setObj x o := by
  cases x with
  | mem i =>
    cases y with
    | loc t k => rfl
    | mem j =>
      have : i ≠ j := fun e => h (by rw [e])
      simp only [St.setObj, St.mk.injEq, true_and]
      exact (List.set_comm _ _ this)
  | loc t k =>
    cases y with
    | mem j => rfl
    | loc t' k' =>
      simp only [St.setObj, St.mk.injEq, true_and, and_true]
      funext j
      by_cases e : t = t'
      · subst e
        have hk : k ≠ k' := fun e => h (by rw [e])
        by_cases hj : j = t
        · simp [hj]; exact List.set_comm _ _ hk
        · simp [hj]
      · by_cases hj : j = t
        · subst hj; simp [e]
        · by_cases hj' : j = t'
          · subst hj'; simp [hj]
          · simp [hj, hj']

theorem addLoc_setObj {x : Ix} {o0 : LObj} (h : s.obj x = some o0) (d : Nat) (lo o : LObj) : addLoc (s.setObj x o) d lo = (addLoc s d lo).setObj x o := by
  cases x with
  | mem i => rfl
  | loc t k =>
    simp only [St.obj] at h
    obtain ⟨hk, _⟩ := List.getElem?_eq_some_iff.1 h
    simp only [addLoc, St.setObj, St.mk.injEq, true_and, and_true]
    funext j
    by_cases hj : j = d
    · subst hj
      by_cases ht : j = t
      · subst ht; simp [List.set_append_left _ _ hk]
      · simp [ht]
    · by_cases ht : j = t
      · subst ht; simp [hj]
      · simp [hj, ht]

theorem addLoc_comm {d e : Nat} (h : d ≠ e) (s : St) (lo lo' : LObj) : addLoc (addLoc s d lo) e lo' = addLoc (addLoc s e lo') d lo := by
  simp only [addLoc, St.mk.injEq, true_and, and_true]
  funext j
  by_cases hj : j = d
  · subst hj; simp [h]
  · by_cases hj' : j = e
    · subst hj'; simp [hj]
    · simp [hj, hj']

theorem addLoc_objE {x : Ix} {d : Nat} {lo : LObj} (h : x ≠ .loc d (s.loc d).length) : (addLoc s d lo).obj x = s.obj x := by
  cases x with
  | mem i => rfl
  | loc t k =>
    simp only [St.obj, addLoc]
    split
    · rename_i e; subst e
      have hk : k ≠ (s.loc t).length := fun e => h (by rw [e])
      by_cases hl : k < (s.loc t).length
      · rw [List.getElem?_append_left hl]
      · rw [List.getElem?_eq_none (by simp; omega), List.getElem?_eq_none (by omega)]
    · rfl

theorem apart_ne {x y : Ix} {o o' : Nat} (h : apart (.ptr x o) (.ptr y o') = true) : x ≠ y := by simpa [apart] using h

/-- An access asks one object and writes it alone. -/
theorem acc_exec {d : Nat} {op : VOp} {a : VO} {v : AV} {s1 : St} (ha : acc op = some a) (h : exec d op s = some (v, s1)) :
    ∃ (ds : List (Nat × AV)) (w : Option (Ix × LObj)), (∀ p ∈ ds, p.1 ∈ opMods op) ∧ s1 = (setW w s).sets ds ∧ (∀ x o, w = some (x, o) → (∃ off, s.ev a = .ptr x off) ∧ ∃ o0, s.obj x = some o0) ∧
      ∀ s2, Agree (opTmps op) s s2 → (∀ x off, s.ev a = .ptr x off → s2.obj x = s.obj x) → exec d op s2 = some (v, (setW w s2).sets ds) := by
  cases op with
  | load agg b =>
    simp only [acc, Option.some.injEq] at ha; subst ha
    simp only [exec] at h
    split at h
    · rename_i cs o hv
      split at h
      · rename_i r hp
        simp only [Option.some.injEq, Prod.mk.injEq] at h
        obtain ⟨rfl, rfl⟩ := h
        refine ⟨[], none, by simp, rfl, by simp, fun s2 hs _ => ?_⟩
        simp only [exec]
        rw [hs.ev (fun n hn => by simpa [opTmps] using hn), hv]
        simp only [hp]; rfl
      · simp at h
    · rename_i ix o hv
      split at h
      · rename_i cs hcs
        split at h
        · rename_i r hp
          simp only [Option.some.injEq, Prod.mk.injEq] at h
          obtain ⟨rfl, rfl⟩ := h
          refine ⟨[], none, by simp, rfl, by simp, fun s2 hs ho => ?_⟩
          simp only [exec]
          rw [hs.ev (fun n hn => by simpa [opTmps] using hn), hv]
          simp only [ho ix o hv, hcs, hp]; rfl
        · simp at h
      · simp at h
    · simp at h
  | loadO b =>
    simp only [acc, Option.some.injEq] at ha; subst ha
    simp only [exec] at h
    split at h
    · rename_i ix o hv
      split at h
      · rename_i cs hcs
        split at h
        · rename_i r hp
          simp only [Option.some.injEq, Prod.mk.injEq] at h
          obtain ⟨rfl, rfl⟩ := h
          refine ⟨[], none, by simp, rfl, by simp, fun s2 hs ho => ?_⟩
          simp only [exec]
          rw [hs.ev (fun n hn => by simpa [opTmps] using hn), hv]
          simp only [ho ix o hv, hcs, hp]; rfl
        · simp at h
      · simp at h
    · simp at h
  | loadTake b =>
    simp only [acc, Option.some.injEq] at ha; subst ha
    simp only [exec] at h
    split at h
    · rename_i ix o hv
      split at h
      · rename_i cs hcs
        have hob : ∃ o0, s.obj ix = some o0 := by
          cases hq : s.obj ix with
          | none => rw [hq] at hcs; simp [objCells] at hcs
          | some o0 => exact ⟨o0, rfl⟩
        split at h
        · rename_i z nn xs hc
          simp only [Option.some.injEq, Prod.mk.injEq] at h
          obtain ⟨rfl, rfl⟩ := h
          refine ⟨[], some (ix, .cells false (cs.set o (.vec none nn xs))), by simp, rfl, fun x o' e => ?_, fun s2 hs ho => ?_⟩
          · simp only [Option.some.injEq, Prod.mk.injEq] at e
            obtain ⟨rfl, _⟩ := e
            exact ⟨⟨o, hv⟩, hob⟩
          · simp only [exec]
            rw [hs.ev (fun n hn => by simpa [opTmps] using hn), hv]
            simp only [ho ix o hv, hcs, hc]; rfl
        · rename_i v' hc hc'
          simp only [Option.some.injEq, Prod.mk.injEq] at h
          obtain ⟨rfl, rfl⟩ := h
          refine ⟨[], none, by simp, rfl, by simp, fun s2 hs ho => ?_⟩
          simp only [exec]
          rw [hs.ev (fun n hn => by simpa [opTmps] using hn), hv]
          simp only [ho ix o hv, hcs, hc']
          rfl
        · simp at h
      · simp at h
    · simp at h
  | store sz b x =>
    simp only [acc, Option.some.injEq] at ha; subst ha
    obtain ⟨es, k1, k2, k3⟩ := takeO_sets x s
    simp only [exec] at h
    split at h
    · rename_i ix o hv
      split at h
      · rename_i cs hcs
        have hob : ∃ o0, s.obj ix = some o0 := by
          cases hq : s.obj ix with
          | none => rw [hq] at hcs; simp [objCells] at hcs
          | some o0 => exact ⟨o0, rfl⟩
        split at h
        · rename_i hcnd
          have fin : ∀ (new : LObj), (∀ s2, Agree (opTmps (.store sz b x)) s s2 → (∀ x off, s.ev b = .ptr x off → s2.obj x = s.obj x) → exec d (.store sz b x) s2 = some (v, (s2.sets es).setObj ix new)) →
              s1 = (s.sets es).setObj ix new →
              ∃ (ds : List (Nat × AV)) (w : Option (Ix × LObj)), (∀ p ∈ ds, p.1 ∈ opMods (.store sz b x)) ∧ s1 = (setW w s).sets ds ∧ (∀ x o, w = some (x, o) → (∃ off, s.ev b = .ptr x off) ∧ ∃ o0, s.obj x = some o0) ∧
                ∀ s2, Agree (opTmps (.store sz b x)) s s2 → (∀ x off, s.ev b = .ptr x off → s2.obj x = s.obj x) → exec d (.store sz b x) s2 = some (v, (setW w s2).sets ds) := by
            intro new h1 h2
            refine ⟨es, some (ix, new), k1, by rw [h2]; exact setObj_sets es s ix new, fun x o' e => ?_, fun s2 hs ho => ?_⟩
            · simp only [Option.some.injEq, Prod.mk.injEq] at e
              obtain ⟨rfl, _⟩ := e
              exact ⟨⟨o, hv⟩, hob⟩
            · rw [h1 s2 hs ho, setObj_sets]; rfl
          have hx2 : ∀ s2, Agree (opTmps (.store sz b x)) s s2 → s2.takeO x = ((s.takeO x).1, s2.sets es) := fun s2 hs => k3 s2 (hs.ev (fun n hn => by simp [opTmps, hn]))
          split at h
          · rename_i vs hvs
            simp only [Option.some.injEq, Prod.mk.injEq] at h
            obtain ⟨rfl, rfl⟩ := h
            refine fin _ (fun s2 hs ho => ?_) (by rw [k2])
            simp only [exec]
            rw [hs.ev (x := b) (fun n hn => by simp [opTmps, hn]), hv]
            simp only [ho ix o hv, hcs, hx2 s2 hs]
            rw [if_pos hcnd]
            simp only [hvs]
          · rename_i hvs
            simp only [Option.some.injEq, Prod.mk.injEq] at h
            obtain ⟨rfl, rfl⟩ := h
            refine fin _ (fun s2 hs ho => ?_) (by rw [k2])
            simp only [exec]
            rw [hs.ev (x := b) (fun n hn => by simp [opTmps, hn]), hv]
            simp only [ho ix o hv, hcs, hx2 s2 hs]
            rw [if_pos hcnd]
        · simp at h
      · simp at h
    · simp at h
  | _ => simp [acc] at ha

theorem acc_nocall {op : VOp} {a : VO} (h : acc op = some a) : NoCall op := noCall_of (by cases op <;> first | rfl | simp [acc] at h)
theorem isNew_nocall {op : VOp} (h : isNew op = true) : NoCall op := noCall_of (by cases op <;> first | rfl | simp [isNew] at h)

theorem setW_put (w : Option (Ix × LObj)) (s : St) (d : Option Nat) (v : AV) : (setW w s).put d v = (setW w s).sets (d.toList.map fun d => (d, v)) := by
  cases d <;> rfl

theorem acc_one {i : VI} {a : VO} (ha : acc i.op = some a) (h : one C i s = some s1) :
    ∃ (ds : List (Nat × AV)) (w : Option (Ix × LObj)), (∀ p ∈ ds, p.1 ∈ mods i) ∧ s1 = (setW w s).sets ds ∧ (∀ x o, w = some (x, o) → (∃ off, s.ev a = .ptr x off) ∧ ∃ o0, s.obj x = some o0) ∧
      ∀ s2, Agree (slots i) s s2 → (∀ x off, s.ev a = .ptr x off → s2.obj x = s.obj x) → one C i s2 = some ((setW w s2).sets ds) := by
  have hstep : ∀ {s1 : St}, step C i s = some s1 → ∃ (ds : List (Nat × AV)) (w : Option (Ix × LObj)), (∀ p ∈ ds, p.1 ∈ mods i) ∧ s1 = (setW w s).sets ds ∧ (∀ x o, w = some (x, o) → (∃ off, s.ev a = .ptr x off) ∧ ∃ o0, s.obj x = some o0) ∧
      ∀ s2, Agree (slots i) s s2 → (∀ x off, s.ev a = .ptr x off → s2.obj x = s.obj x) → step C i s2 = some ((setW w s2).sets ds) := by
    intro s1 h
    rw [step_exec (acc_nocall ha)] at h
    split at h
    · rename_i v s1' he
      simp only [Option.some.injEq] at h
      obtain ⟨es, w, h1, h2, h3, h4⟩ := acc_exec ha he
      refine ⟨es ++ i.dst.toList.map fun d => (d, v), w, ?_, by rw [← h, h2, sets_put], h3, fun s2 hs ho => ?_⟩
      · intro p hp
        rcases List.mem_append.1 hp with hp | hp
        · exact List.mem_append.2 (.inr (h1 p hp))
        · obtain ⟨d, hd, rfl⟩ := List.mem_map.1 hp
          exact List.mem_append.2 (.inl hd)
      · rw [step_exec (acc_nocall ha), h4 s2 (fun t ht => hs t (by simp only [slots, List.mem_append]; exact .inr ht)) ho]
        exact congrArg some (sets_put es i.dst v _)
    · simp at h
  unfold one at h
  cases hg : i.guard with
  | none =>
    rw [hg] at h
    obtain ⟨ds, w, h1, h2, h3, h4⟩ := hstep h
    exact ⟨ds, w, h1, h2, h3, fun s2 hs ho => by unfold one; rw [hg]; exact h4 s2 hs ho⟩
  | some g =>
    obtain ⟨j, want⟩ := g
    rw [hg] at h
    simp only at h
    have hj : j ∈ slots i := by simp [slots, hg]
    split at h
    · rename_i b hb
      split at h
      · rename_i hbw
        obtain ⟨ds, w, h1, h2, h3, h4⟩ := hstep h
        refine ⟨ds, w, h1, h2, h3, fun s2 hs ho => ?_⟩
        unfold one
        rw [hg]
        simp only [show s2.get j = s.get j from hs j hj, hb, hbw, if_true]
        exact h4 s2 hs ho
      · rename_i hbw
        simp only [Option.some.injEq] at h
        refine ⟨i.dst.toList.map fun d => (d, .tup []), none, ?_, by rw [← h]; exact sets_put [] i.dst _ s, by simp, fun s2 hs ho => ?_⟩
        · intro p hp
          obtain ⟨d, hd, rfl⟩ := List.mem_map.1 hp
          exact List.mem_append.2 (.inl hd)
        · unfold one
          rw [hg]
          simp only [show s2.get j = s.get j from hs j hj, hb, hbw, if_false]
          exact congrArg some (sets_put [] i.dst _ s2)
    · simp at h

theorem new_exec {d : Nat} {op : VOp} {v : AV} {s1 : St} (hn : isNew op = true) (h : exec d op s = some (v, s1)) :
    ∃ lo, v = .ptr (.loc d (s.loc d).length) 0 ∧ s1 = addLoc s d lo ∧ ∀ s2, Agree (opTmps op) s s2 → exec d op s2 = some (.ptr (.loc d (s2.loc d).length) 0, addLoc s2 d lo) := by
  cases op with
  | alloc hp cs =>
    cases hp with
    | true => simp [isNew] at hn
    | false =>
      simp only [exec, Bool.false_eq_true, if_false, Option.some.injEq, Prod.mk.injEq] at h
      exact ⟨.cells false cs, h.1.symm, h.2.symm, fun s2 _ => by simp only [exec, Bool.false_eq_true, if_false]; rfl⟩
  | box hp x =>
    cases hp with
    | true => simp [isNew] at hn
    | false =>
      simp only [exec, Bool.false_eq_true, if_false] at h
      split at h
      · rename_i hg
        simp only [Option.some.injEq, Prod.mk.injEq] at h
        refine ⟨.cells false ((s.ev x).cells.map AV.view), h.1.symm, h.2.symm, fun s2 hs => ?_⟩
        have e := hs.ev (x := x) (fun n hn => by simpa [opTmps] using hn)
        simp only [exec, Bool.false_eq_true, if_false, e]
        rw [if_pos hg]; rfl
      · simp at h
  | _ => simp [isNew] at hn

theorem new_one {i : VI} {d : Nat} (hn : isNew i.op = true) (hd : i.dst = some d) (h : one C i s = some s1) :
    (∃ v, s1 = s.set d v ∧ ∀ s2, Agree (slots i) s s2 → one C i s2 = some (s2.set d v)) ∨
    (∃ lo, s1 = (addLoc s d lo).set d (.ptr (.loc d (s.loc d).length) 0) ∧ ∀ s2, Agree (slots i) s s2 → one C i s2 = some ((addLoc s2 d lo).set d (.ptr (.loc d (s2.loc d).length) 0))) := by
  have hstep : ∀ {s1 : St}, step C i s = some s1 → ∃ lo, s1 = (addLoc s d lo).set d (.ptr (.loc d (s.loc d).length) 0) ∧ ∀ s2, Agree (slots i) s s2 → step C i s2 = some ((addLoc s2 d lo).set d (.ptr (.loc d (s2.loc d).length) 0)) := by
    intro s1 h
    rw [step_exec (isNew_nocall hn), hd] at h
    split at h
    · rename_i v s1' he
      simp only [Option.some.injEq] at h
      obtain ⟨lo, h1, h2, h3⟩ := new_exec hn he
      simp only [Option.getD_some] at h1 h2 h3
      refine ⟨lo, by rw [← h, h2, h1]; rfl, fun s2 hs => ?_⟩
      rw [step_exec (isNew_nocall hn), hd]
      simp only [Option.getD_some]
      rw [h3 s2 (fun t ht => hs t (by simp only [slots, List.mem_append]; exact .inr ht))]
      rfl
    · simp at h
  unfold one at h
  cases hg : i.guard with
  | none =>
    rw [hg] at h
    obtain ⟨lo, h1, h2⟩ := hstep h
    exact .inr ⟨lo, h1, fun s2 hs => by unfold one; rw [hg]; exact h2 s2 hs⟩
  | some g =>
    obtain ⟨j, want⟩ := g
    rw [hg] at h
    simp only at h
    have hj : j ∈ slots i := by simp [slots, hg]
    split at h
    · rename_i b hb
      split at h
      · rename_i hbw
        obtain ⟨lo, h1, h2⟩ := hstep h
        refine .inr ⟨lo, h1, fun s2 hs => ?_⟩
        unfold one
        rw [hg]
        simp only [show s2.get j = s.get j from hs j hj, hb, hbw, if_true]
        exact h2 s2 hs
      · rename_i hbw
        simp only [Option.some.injEq, hd] at h
        refine .inl ⟨.tup [], h.symm, fun s2 hs => ?_⟩
        unfold one
        rw [hg]
        simp only [show s2.get j = s.get j from hs j hj, hb, hbw, if_false, hd]
        rfl
    · simp at h

/-- What must hold of two operations, as text, that may change places if they touch different objects. -/
def dynPair (j i : VI) : Bool :=
  ((mods j).all fun t => !(slots i).contains t) && ((mods i).all fun t => !(slots j).contains t) && ((mods j).all fun t => !(mods i).contains t) && (touch j).isSome && (touch i).isSome

/-- Appending goes ahead of loads alone. -/
def dynApp (j i : VI) : Bool := (appd j.op).isNone && ((appd i.op).isNone || (ldOf j.op).isSome)

theorem touch_cases {i : VI} {a : VO} (h : touch i = some a) : (acc i.op = some a ∨ ∃ d, isNew i.op = true ∧ i.dst = some d ∧ a = .t d) ∨ appd i.op = some a := by
  unfold touch at h
  split at h
  · rename_i b hb; simp only [Option.some.injEq] at h; subst h; exact .inl (.inl hb)
  · split at h
    · rename_i b hb; simp only [Option.some.injEq] at h; subst h; exact .inr hb
    · split at h
      · rename_i hn
        obtain ⟨d, hd, rfl⟩ := Option.map_eq_some_iff.1 h
        exact .inl (.inr ⟨d, hn, hd, rfl⟩)
      · simp at h

theorem setW_obj {w : Option (Ix × LObj)} {x : Ix} (h : ∀ y o, w = some (y, o) → x ≠ y) : (setW w s).obj x = s.obj x := by
  cases w with
  | none => rfl
  | some p => exact obj_setObj_ne (h p.1 p.2 rfl)
theorem setW_tmp (w : Option (Ix × LObj)) (s : St) : (setW w s).tmp = s.tmp := by
  cases w with
  | none => rfl
  | some p => obtain ⟨x, o⟩ := p; exact (setObj_lens s x o).2.2
theorem setW_ev (w : Option (Ix × LObj)) (s : St) (x : VO) : (setW w s).ev x = s.ev x := by
  cases x with
  | t n => show (setW w s).tmp n = s.tmp n; rw [setW_tmp]
  | k v => rfl
theorem setW_comm {w w' : Option (Ix × LObj)} (h : ∀ x o y o', w = some (x, o) → w' = some (y, o') → x ≠ y) (s : St) : setW w (setW w' s) = setW w' (setW w s) := by
  cases w with
  | none => rfl
  | some p =>
    cases w' with
    | none => rfl
    | some q => exact setObj_comm (Ne.symm (h p.1 p.2 q.1 q.2 rfl rfl)) s q.2 p.2
theorem setW_loclen (w : Option (Ix × LObj)) (s : St) (d : Nat) : ((setW w s).loc d).length = (s.loc d).length := by
  cases w with
  | none => rfl
  | some p => exact (setObj_lens s p.1 p.2).1 d
theorem addLoc_setW {w : Option (Ix × LObj)} (h : ∀ x o, w = some (x, o) → ∃ o0, s.obj x = some o0) (d : Nat) (lo : LObj) : addLoc (setW w s) d lo = setW w (addLoc s d lo) := by
  cases w with
  | none => rfl
  | some p => obtain ⟨o0, h0⟩ := h p.1 p.2 rfl; exact addLoc_setObj h0 d lo p.2
theorem addLoc_ev (s : St) (d : Nat) (lo : LObj) (x : VO) : (addLoc s d lo).ev x = s.ev x := by cases x <;> rfl

theorem swapL {j i : VI} {a b : VO} (hok : dynPair j i = true) (ha : ldOf j.op = some a) (hb : appd i.op = some b) (hself : ∀ n ∈ tmpsO a, n ∉ mods j) (hselfI : ∀ n ∈ tmpsO b, n ∉ mods i)
    (h1 : one C j s = some s1) (h2 : one C i s1 = some s2) (hap : apart (s1.ev a) (s2.ev b) = true) : ∃ s1', one C i s = some s1' ∧ one C j s1' = some s2 := by
  simp only [dynPair, Bool.and_eq_true, List.all_eq_true, Bool.not_eq_true', List.contains_eq_mem, decide_eq_false_iff_not] at hok
  obtain ⟨⟨⟨⟨hji, hij⟩, hmm⟩, _⟩, _⟩ := hok
  have evSets : ∀ (ds : List (Nat × AV)) (x : VO) (s : St), (∀ p ∈ ds, p.1 ∉ tmpsO x) → (s.sets ds).ev x = s.ev x := by
    intro ds x
    induction ds with
    | nil => intro s _; rfl
    | cons p ds ih => intro s h; show ((s.set p.1 p.2).sets ds).ev x = _; rw [ih _ fun q hq => h q (by simp [hq]), ev_set (h p (by simp))]
  have hj : (∃ agg, j.op = .load agg a) ∨ j.op = .loadO a := by
    cases hop : j.op <;> rw [hop] at ha <;> simp [ldOf] at ha <;> subst ha
    · exact .inl ⟨_, rfl⟩
    · exact .inr rfl
  obtain ⟨z, y, x, hi⟩ : ∃ z y x, i.op = .appendO z y b x := by
    cases hop : i.op <;> rw [hop] at hb <;> simp [appd] at hb
    subst hb; exact ⟨_, _, _, rfl⟩
  have hbs : ∀ n ∈ tmpsO b, n ∈ slots i := fun n hn => by
    simp only [slots, List.mem_append]; right; rw [hi]; simp [opTmps, hn]
  obtain ⟨ds, k1, k2, k3⟩ := load_oneA hj h1
  have hA : s1.ev a = s.ev a := by rw [k2, evSets ds a _ fun p hp hn => hself _ hn (k1 p hp)]
  have hB : s2.ev b = s.ev b := by
    have e1 : s2.ev b = s1.ev b := by
      cases b with
      | k v => rfl
      | t n => exact (one_mods h2 (hselfI n (by simp [tmpsO])))
    rw [e1, k2, evSets ds b _ fun p hp hn => hji _ (k1 p hp) (hbs _ hn)]
  rw [hA, hB] at hap
  rw [k2, one_sets ds _ fun p hp => hji _ (k1 p hp)] at h2
  obtain ⟨t, ht, hts⟩ := Option.map_eq_some_iff.1 h2
  refine ⟨t, ht, ?_⟩
  rw [k3 t (fun n hn => one_mods ht fun hm => hij n hm hn) (fun ix off o h3 h4 => app_obj hi ht h4 fun z' k n h5 => ?_), hts]
  rw [h3, h5] at hap
  simpa [apart] using hap

theorem swapD0 {j i : VI} {a b : VO} (hok : dynPair j i = true) (hna : appd j.op = none) (hnb : appd i.op = none) (ha : touch j = some a) (hb : touch i = some b) (hself : acc j.op = some a → ∀ n ∈ tmpsO a, n ∉ mods j) (hselfI : acc i.op = some b → ∀ n ∈ tmpsO b, n ∉ mods i)
    (h1 : one C j s = some s1) (h2 : one C i s1 = some s2) (hap : apart (s1.ev a) (s2.ev b) = true) : ∃ s1', one C i s = some s1' ∧ one C j s1' = some s2 := by
  simp only [dynPair, Bool.and_eq_true, List.all_eq_true, Bool.not_eq_true', List.contains_eq_mem, decide_eq_false_iff_not] at hok
  obtain ⟨⟨⟨⟨hji, hij⟩, hmm⟩, _⟩, _⟩ := hok
  have evSets : ∀ (ds : List (Nat × AV)) (x : VO) (s : St), (∀ p ∈ ds, p.1 ∉ tmpsO x) → (s.sets ds).ev x = s.ev x := by
    intro ds x
    induction ds with
    | nil => intro s _; rfl
    | cons p ds ih => intro s h; show ((s.set p.1 p.2).sets ds).ev x = _; rw [ih _ fun q hq => h q (by simp [hq]), ev_set (h p (by simp))]
  have slotB : acc i.op = some b → ∀ n ∈ tmpsO b, n ∈ slots i := by
    intro h n hn
    simp only [slots, List.mem_append]
    right
    cases hop : i.op <;> rw [hop] at h <;> simp [acc] at h <;> subst h <;> simp [opTmps, hn]
  rcases (touch_cases ha).resolve_right (by rw [hna]; simp) with hja | ⟨d, hjn, hjd, rfl⟩
  · obtain ⟨ds, w, k1, k2, k3, k4⟩ := acc_one hja h1
    have hA : s1.ev a = s.ev a := by rw [k2, evSets ds a _ fun p hp hn => hself hja _ hn (k1 p hp), setW_ev]
    rw [hA] at hap
    rw [k2, one_sets ds _ fun p hp => hji _ (k1 p hp)] at h2
    obtain ⟨t, ht, hts⟩ := Option.map_eq_some_iff.1 h2
    have agT : Agree (slots i) (setW w s) s := fun n _ => by rw [setW_tmp]
    rcases (touch_cases hb).resolve_right (by rw [hnb]; simp) with hib | ⟨e, hin, hie, rfl⟩
    · obtain ⟨es, w', l1, l2, l3, l4⟩ := acc_one hib ht
      have hB : s2.ev b = s.ev b := by
        rw [← hts, evSets ds b _ fun p hp hn => hji _ (k1 p hp) (slotB hib _ hn), l2, evSets es b _ fun p hp hn => hselfI hib _ hn (l1 p hp), setW_ev, setW_ev]
      rw [hB] at hap
      have hsep : ∀ x o y o', w = some (x, o) → w' = some (y, o') → x ≠ y := by
        intro x o y o' e1 e2
        obtain ⟨⟨o1, e3⟩, _⟩ := k3 x o e1
        obtain ⟨⟨o2, e4⟩, _⟩ := l3 y o' e2
        rw [setW_ev] at e4
        rw [e3, e4] at hap
        exact apart_ne hap
      refine ⟨(setW w' s).sets es, l4 s agT fun x off hx => ?_, ?_⟩
      · rw [setW_ev] at hx
        refine (setW_obj fun y o e => ?_).symm
        obtain ⟨⟨o1, e3⟩, _⟩ := k3 y o e
        rw [e3, hx] at hap
        exact Ne.symm (apart_ne hap)
      · rw [one_sets es _ fun p hp => hij _ (l1 p hp), k4 (setW w' s) (fun n _ => by rw [setW_tmp]) fun x off hx => ?_]
        · rw [← hts, l2]
          simp only [Option.map_some, Option.some.injEq]
          rw [setW_comm hsep, sets_comm es ds _ fun p hp q hq e => hmm _ (k1 p hp) (by rw [e]; exact l1 q hq)]
        · refine setW_obj fun y o e => ?_
          obtain ⟨⟨o1, e3⟩, _⟩ := l3 y o e
          rw [setW_ev] at e3
          rw [e3, hx] at hap
          exact apart_ne hap
    · rcases new_one hin hie ht with ⟨v, l2, l4⟩ | ⟨lo, l2, l4⟩
      · have hem : e ∈ mods i := by simp [mods, hie]
        refine ⟨s.set e v, l4 s agT, ?_⟩
        have := one_sets (C := C) (i := j) [(e, v)] s (fun p hp => by simp at hp; subst hp; exact hij _ hem)
        rw [show s.set e v = s.sets [(e, v)] from rfl, this, h1, ← hts, l2, k2]
        simp only [Option.map_some, Option.some.injEq]
        show ((setW w s).sets ds).set e v = ((setW w s).set e v).sets ds
        rw [set_sets ds _ _ _ fun p hp e' => hmm _ (k1 p hp) (by rw [e']; exact hem)]
      · have hem : e ∈ mods i := by simp [mods, hie]
        rw [setW_loclen] at l2
        refine ⟨(addLoc s e lo).set e (.ptr (.loc e (s.loc e).length) 0), l4 s agT, ?_⟩
        have := one_sets (C := C) (i := j) [(e, AV.ptr (.loc e (s.loc e).length) 0)] (addLoc s e lo) (fun p hp => by simp at hp; subst hp; exact hij _ hem)
        rw [show (addLoc s e lo).set e (.ptr (.loc e (s.loc e).length) 0) = (addLoc s e lo).sets [(e, AV.ptr (.loc e (s.loc e).length) 0)] from rfl, this, k4 (addLoc s e lo) (fun n _ => rfl) fun x off hx => ?_]
        · rw [← hts, l2]
          simp only [Option.map_some, Option.some.injEq]
          show ((setW w (addLoc s e lo)).sets ds).set e _ = ((addLoc (setW w s) e lo).set e _).sets ds
          rw [set_sets ds _ _ _ fun p hp e' => hmm _ (k1 p hp) (by rw [e']; exact hem), addLoc_setW fun x o e => (k3 x o e).2]
        · refine addLoc_objE ?_
          rintro rfl
          have hs2 : s2.ev (.t e) = .ptr (.loc e (s.loc e).length) 0 := by
            rw [← hts, evSets ds (.t e) _ fun p hp hn => by
              simp [tmpsO] at hn
              exact hmm _ (k1 p hp) (by rw [hn]; exact hem), l2]
            simp [St.ev, St.get, St.set]
          rw [hx, hs2] at hap
          simp [apart] at hap
  · have hdm : d ∈ mods j := by simp [mods, hjd]
    rcases new_one hjn hjd h1 with ⟨v, k2, k4⟩ | ⟨lo, k2, k4⟩
    · rw [k2, show s.set d v = s.sets [(d, v)] from rfl, one_sets [(d, v)] _ fun p hp => by simp at hp; subst hp; exact hji _ hdm] at h2
      obtain ⟨t, ht, hts⟩ := Option.map_eq_some_iff.1 h2
      refine ⟨t, ht, ?_⟩
      rw [k4 t fun n hn => one_mods ht fun hm => hij _ hm hn, ← hts]
      rfl
    · rw [k2, show (addLoc s d lo).set d (.ptr (.loc d (s.loc d).length) 0) = (addLoc s d lo).sets [(d, AV.ptr (.loc d (s.loc d).length) 0)] from rfl, one_sets _ _ fun p hp => by simp at hp; subst hp; exact hji _ hdm] at h2
      obtain ⟨t, ht, hts⟩ := Option.map_eq_some_iff.1 h2
      have hA : s1.ev (.t d) = .ptr (.loc d (s.loc d).length) 0 := by rw [k2]; simp [St.ev, St.get, St.set]
      rw [hA] at hap
      rcases (touch_cases hb).resolve_right (by rw [hnb]; simp) with hib | ⟨e, hin, hie, rfl⟩
      · obtain ⟨es, w', l1, l2, l3, l4⟩ := acc_one hib ht
        have hB : s2.ev b = s.ev b := by
          rw [← hts, evSets _ b _ fun p hp hn => by simp at hp; subst hp; exact hji _ hdm (slotB hib _ hn), l2, evSets es b _ fun p hp hn => hselfI hib _ hn (l1 p hp), setW_ev, addLoc_ev]
        rw [hB] at hap
        have hx' : ∀ x off, s.ev b = .ptr x off → x ≠ .loc d (s.loc d).length := by
          intro x off hx
          rw [hx] at hap
          exact Ne.symm (apart_ne hap)
        have l3' : ∀ x o, w' = some (x, o) → ∃ o0, s.obj x = some o0 := by
          intro x o e
          obtain ⟨⟨o1, e3⟩, o0, e4⟩ := l3 x o e
          rw [addLoc_ev] at e3
          rw [addLoc_objE (hx' x o1 e3)] at e4
          exact ⟨o0, e4⟩
        refine ⟨(setW w' s).sets es, l4 s (fun n _ => rfl) fun x off hx => ?_, ?_⟩
        · rw [addLoc_ev] at hx
          exact (addLoc_objE (hx' x off hx)).symm
        · rw [one_sets es _ fun p hp => hij _ (l1 p hp), k4 (setW w' s) fun n _ => by rw [setW_tmp]]
          rw [← hts, l2, setW_loclen, addLoc_setW l3']
          simp only [Option.map_some, Option.some.injEq]
          show ((setW w' (addLoc s d lo)).set d _).sets es = ((setW w' (addLoc s d lo)).sets es).set d _
          rw [set_sets es _ _ _ fun p hp e' => hmm _ hdm (by rw [← e']; exact l1 p hp)]
      · have hem : e ∈ mods i := by simp [mods, hie]
        have hde : d ≠ e := fun e' => hmm _ hdm (by rw [e']; exact hem)
        rcases new_one hin hie ht with ⟨v, l2, l4⟩ | ⟨lo', l2, l4⟩
        · refine ⟨s.set e v, l4 s fun n _ => rfl, ?_⟩
          have := one_sets (C := C) (i := j) [(e, v)] s (fun p hp => by simp at hp; subst hp; exact hij _ hem)
          rw [show s.set e v = s.sets [(e, v)] from rfl, this, h1, ← hts, l2, k2]
          simp only [Option.map_some, Option.some.injEq]
          show ((addLoc s d lo).set d _).set e v = ((addLoc s d lo).set e v).set d _
          rw [set_comm _ _ _ hde]
        · refine ⟨_, l4 s fun n _ => rfl, ?_⟩
          have hl1 : ((addLoc s d lo).loc e) = s.loc e := by simp [addLoc, Ne.symm hde]
          have hl2 : ((addLoc s e lo').loc d) = s.loc d := by simp [addLoc, hde]
          have := one_sets (C := C) (i := j) [(e, AV.ptr (.loc e (s.loc e).length) 0)] (addLoc s e lo') (fun p hp => by simp at hp; subst hp; exact hij _ hem)
          rw [show (addLoc s e lo').set e (.ptr (.loc e (s.loc e).length) 0) = (addLoc s e lo').sets [(e, AV.ptr (.loc e (s.loc e).length) 0)] from rfl, this, k4 (addLoc s e lo') fun n _ => rfl, ← hts, l2, hl1, hl2]
          simp only [Option.map_some, Option.some.injEq]
          show ((addLoc (addLoc s e lo') d lo).set d _).set e _ = ((addLoc (addLoc s d lo) e lo').set e _).set d _
          rw [set_comm _ _ _ hde, addLoc_comm hde]

theorem runOps_touch {n : Nat} : ∀ (l : List VI) (s s' : St), runOps C l s = some s' → (∀ k ∈ l, n ∉ mods k) → s'.tmp n = s.tmp n
  | [], s, s', h, _ => by simp [runOps] at h; rw [h]
  | k :: l, s, s', h, hm => by
    rw [runOps_cons] at h
    split at h
    · rename_i s1 h1
      rw [runOps_touch l s1 s' h fun k hk => hm k (by simp [hk]), one_mods h1 (hm k (by simp))]
    · simp at h

theorem ev_of_tmp {s s' : St} {a : VO} (h : ∀ n ∈ tmpsO a, s'.tmp n = s.tmp n) : s'.ev a = s.ev a := by
  cases a with
  | t n => exact h n (by simp [tmpsO])
  | k v => rfl

/-- What an operation looks at by an address, or appends to. -/
def accA (op : VOp) : Option VO := match acc op with
  | some a => some a
  | none => appd op

theorem swapD {j i : VI} {a b : VO} (hok : dynPair j i = true) (hda : dynApp j i = true) (ha : touch j = some a) (hb : touch i = some b) (hself : accA j.op = some a → ∀ n ∈ tmpsO a, n ∉ mods j) (hselfI : accA i.op = some b → ∀ n ∈ tmpsO b, n ∉ mods i)
    (h1 : one C j s = some s1) (h2 : one C i s1 = some s2) (hap : apart (s1.ev a) (s2.ev b) = true) : ∃ s1', one C i s = some s1' ∧ one C j s1' = some s2 := by
  simp only [dynApp, Bool.and_eq_true, Bool.or_eq_true, Option.isNone_iff_eq_none] at hda
  have hA : ∀ {x : VI} {c : VO}, acc x.op = some c → accA x.op = some c := fun h => by unfold accA; rw [h]
  cases hib : appd i.op with
  | none => exact swapD0 hok hda.1 hib ha hb (fun h => hself (hA h)) (fun h => hselfI (hA h)) h1 h2 hap
  | some b' =>
    obtain ⟨a', ha'⟩ := Option.isSome_iff_exists.1 (hda.2.resolve_left (by rw [hib]; simp))
    have hacc : acc j.op = some a' := by cases hop : j.op <;> rw [hop] at ha' <;> simp [ldOf] at ha' <;> subst ha' <;> rfl
    have e1 : a = a' := by
      have : touch j = some a' := by unfold touch; rw [hacc]
      rw [this] at ha; exact (Option.some.inj ha).symm
    have hni : acc i.op = none := by cases hop : i.op <;> rw [hop] at hib <;> simp [appd] at hib <;> rfl
    have e2 : b = b' := by
      have : touch i = some b' := by unfold touch; rw [hni, hib]
      rw [this] at hb; exact (Option.some.inj hb).symm
    subst e1; subst e2
    exact swapL hok ha' hib (hself (hA hacc)) (hselfI (by unfold accA; rw [hni]; exact hib)) h1 h2 hap

/-- The address of a load. -/
def ldA (i : VI) : Option VO := match i.op with
  | .load _ a => some a
  | _ => none
def isCallM (i : VI) : Bool := match i.op with
  | .call _ _ => true
  | _ => false
/-- A load that looks at no memory of the call's goes before or behind a call. -/
def vpPair (j i : VI) : Option VO :=
  if ((mods j).all fun t => !(slots i).contains t) && ((mods i).all fun t => !(slots j).contains t) then
    match ldA i with
    | some a => if isCallM j then some a else none
    | none => match ldA j with
      | some a => if isCallM i then some a else none
      | none => none
  else none
theorem ldA_op {i : VI} {a : VO} (h : ldA i = some a) : ∃ agg, i.op = .load agg a := by
  unfold ldA at h
  split at h
  · rename_i agg b e; simp only [Option.some.injEq] at h; subst h; exact ⟨agg, e⟩
  · simp at h
theorem vload_one {i : VI} {a : VO} (hi : ldA i = some a) {s s' : St} (hap : apart (s.ev a) .nilfn = true) (h : one C i s = some s') :
    ∃ ds : List (Nat × AV), (∀ p ∈ ds, p.1 ∈ mods i) ∧ s' = s.sets ds ∧ ∀ s2, Agree (slots i) s s2 → s2.loc = s.loc → one C i s2 = some (s2.sets ds) := by
  obtain ⟨agg, hop⟩ := ldA_op hi
  obtain ⟨ds, h1, h2, h3⟩ := load_oneA (a := a) (.inl ⟨agg, hop⟩) h
  refine ⟨ds, h1, h2, fun s2 ha hl => h3 s2 ha fun x off o e ho => ?_⟩
  rw [e] at hap
  cases x with
  | loc t k => simpa [St.obj, hl] using ho
  | mem i => simp [apart] at hap
theorem call_loc {i : VI} (hi : isCallM i = true) {s s' : St} (h : one C i s = some s') : s'.loc = s.loc := by
  have hst : ∀ {s1 : St}, step C i s = some s1 → s1.loc = s.loc := by
    intro s1 h1
    unfold isCallM at hi
    split at hi
    · rename_i f as e
      obtain ⟨d, op, g⟩ := i
      simp only at e
      subst e
      simp only [step] at h1
      split at h1
      · split at h1
        · split at h1
          · simp only [Option.some.injEq] at h1
            rw [← h1]
            cases d <;> rfl
          · simp at h1
        · simp at h1
      · simp at h1
    · simp at hi
  unfold one at h
  split at h
  · exact hst h
  · split at h
    · split at h
      · exact hst h
      · simp only [Option.some.injEq] at h
        rw [← h]
        cases i.dst <;> rfl
    · simp at h
theorem swapV {j i : VI} {a : VO} (hok : vpPair j i = some a) (h1 : one C j s = some s1) (h2 : one C i s1 = some s2)
    (hi : ldA i = some a → apart (s1.ev a) .nilfn = true) (hj : ldA j = some a → apart (s.ev a) .nilfn = true) : ∃ s1', one C i s = some s1' ∧ one C j s1' = some s2 := by
  unfold vpPair at hok
  split at hok
  · rename_i hd
    simp only [Bool.and_eq_true, List.all_eq_true, Bool.not_eq_true', List.contains_eq_mem, decide_eq_false_iff_not] at hd
    obtain ⟨hji, hij⟩ := hd
    split at hok
    · rename_i b hb
      split at hok
      · rename_i hcj
        simp only [Option.some.injEq] at hok; subst hok
        obtain ⟨ds, k1, k2, k3⟩ := vload_one hb (hi hb) h2
        have ag1 : Agree (slots i) s1 s := fun t ht => (one_mods h1 fun hm => hji t hm ht).symm
        refine ⟨_, k3 s ag1 (call_loc hcj h1).symm, ?_⟩
        rw [one_sets ds s fun p hp => hij _ (k1 p hp), h1, k2]
        rfl
      · simp at hok
    · split at hok
      · rename_i b hb
        split at hok
        · rename_i hci
          simp only [Option.some.injEq] at hok; subst hok
          obtain ⟨ds, k1, k2, k3⟩ := vload_one hb (hj hb) h1
          subst k2
          rw [one_sets ds s fun p hp => hji _ (k1 p hp)] at h2
          cases hi : one C i s with
          | none => rw [hi] at h2; simp at h2
          | some s1' =>
            rw [hi] at h2
            simp only [Option.map_some, Option.some.injEq] at h2
            refine ⟨s1', rfl, ?_⟩
            rw [k3 s1' (fun t ht => one_mods hi fun hm => hij t hm ht) (call_loc hci hi), h2]
        · simp at hok
      · simp at hok
  · simp at hok
theorem ldA_touch {i : VI} {a : VO} (h : ldA i = some a) : touch i = some a ∧ accA i.op = some a := by
  obtain ⟨agg, hop⟩ := ldA_op h
  constructor
  · unfold touch; rw [hop]; rfl
  · rw [hop]; rfl
theorem vp_mods {j i : VI} {a : VO} (h : vpPair j i = some a) {n : Nat} (hm : n ∈ mods j) (hs : n ∈ slots i) : False := by
  unfold vpPair at h
  split at h
  · rename_i hd
    simp only [Bool.and_eq_true, List.all_eq_true, Bool.not_eq_true', List.contains_eq_mem, decide_eq_false_iff_not] at hd
    exact hd.1 n hm hs
  · simp at h

/-- The cell that is read, the cell that is taken from. -/
def cellRd (i : VI) : Option VO := match i.op with
  | .load none b => some b
  | .loadO b => some b
  | _ => none
def tkOf (i : VI) : Option VO := match i.op with
  | .loadTake a => if i.guard.isNone then some a else none
  | _ => none
/-- A taking out of one cell and a reading of another one. -/
def lcPair (j i : VI) : Option (VO × VO) :=
  if ((mods j).all fun t => !(slots i).contains t) && ((mods i).all fun t => !(slots j).contains t) then
    match tkOf j, cellRd i with
    | some a, some b => some (a, b)
    | _, _ => match cellRd j, tkOf i with
      | some a, some b => some (a, b)
      | _, _ => none
  else none
theorem lc_mods {j i : VI} {p : VO × VO} (h : lcPair j i = some p) {n : Nat} (hm : n ∈ mods j) (hs : n ∈ slots i) : False := by
  unfold lcPair at h
  split at h
  · rename_i hd
    simp only [Bool.and_eq_true, List.all_eq_true, Bool.not_eq_true', List.contains_eq_mem, decide_eq_false_iff_not] at hd
    exact hd.1 n hm hs
  · simp at h
theorem cellRd_op {i : VI} {b : VO} (h : cellRd i = some b) : i.op = .load none b ∨ i.op = .loadO b := by
  unfold cellRd at h
  split at h
  · rename_i e; simp only [Option.some.injEq] at h; subst h; exact .inl e
  · rename_i e; simp only [Option.some.injEq] at h; subst h; exact .inr e
  · simp at h
theorem tkOf_op {i : VI} {a : VO} (h : tkOf i = some a) : i.op = .loadTake a ∧ i.guard = none := by
  unfold tkOf at h
  split at h
  · rename_i b e
    split at h
    · rename_i hg
      simp only [Option.some.injEq] at h; subst h
      exact ⟨e, by simpa using hg⟩
    · simp at h
  · simp at h
structure TouchOK (i : VI) (a : VO) : Prop where
  t : touch i = some a
  ac : accA i.op = some a
  sl : ∀ n ∈ tmpsO a, n ∈ slots i
theorem rd_touch {i : VI} {b : VO} (h : cellRd i = some b) : TouchOK i b := by
  rcases cellRd_op h with e | e
  · exact ⟨by unfold touch; rw [e]; rfl, by rw [e]; rfl, fun n hn => by simp only [slots, List.mem_append]; right; rw [e]; exact hn⟩
  · exact ⟨by unfold touch; rw [e]; rfl, by rw [e]; rfl, fun n hn => by simp only [slots, List.mem_append]; right; rw [e]; exact hn⟩
theorem tk_touch {i : VI} {b : VO} (h : tkOf i = some b) : TouchOK i b := by
  have e := (tkOf_op h).1
  exact ⟨by unfold touch; rw [e]; rfl, by rw [e]; rfl, fun n hn => by simp only [slots, List.mem_append]; right; rw [e]; exact hn⟩
theorem lc_touch {j i : VI} {p : VO × VO} (h : lcPair j i = some p) : TouchOK j p.1 ∧ TouchOK i p.2 := by
  unfold lcPair at h
  split at h
  · split at h
    · rename_i a b ha hb
      simp only [Option.some.injEq] at h; subst h
      exact ⟨tk_touch ha, rd_touch hb⟩
    · split at h
      · rename_i a b ha hb
        simp only [Option.some.injEq] at h; subst h
        exact ⟨rd_touch ha, tk_touch hb⟩
      · simp at h
  · simp at h
/-- What a taking leaves of other cells. -/
theorem tk_obj {i : VI} {a : VO} (hi : tkOf i = some a) {s t : St} (h : one C i s = some t) : ∃ x o, s.ev a = .ptr x o ∧ ∀ y o', (x ≠ y ∨ o ≠ o') →
    (∀ fz cs, s.obj y = some (.cells fz cs) → ∃ cs2, t.obj y = some (.cells fz cs2) ∧ cs2[o']? = cs[o']?) ∧ (∀ fz cs, t.obj y = some (.cells fz cs) → ∃ cs2, s.obj y = some (.cells fz cs2) ∧ cs2[o']? = cs[o']?) := by
  obtain ⟨hop, hg⟩ := tkOf_op hi
  unfold one at h
  rw [hg] at h
  simp only at h
  rw [step_exec (noCall_of (by rw [hop]; rfl)), hop] at h
  simp only [exec] at h
  split at h
  · rename_i v s1 he
    simp only [Option.some.injEq] at h
    split at he
    · rename_i x o hv
      refine ⟨x, o, hv, fun y o' hne => ?_⟩
      rw [← h]
      simp only [put_obj]
      split at he
      · rename_i cs hcs
        have hob : s.obj x = some (.cells false cs) := by
          unfold objCells at hcs
          split at hcs
          · rename_i f cs' e
            split at hcs
            · rename_i hf
              simp at hf
              simp only [Option.some.injEq] at hcs
              rw [e, hcs, hf]
            · simp at hcs
          · simp at hcs
        split at he
        · rename_i z nn xs hc
          simp only [Option.some.injEq, Prod.mk.injEq] at he
          rw [← he.2]
          by_cases hy : y = x
          · subst hy
            rw [obj_setObj hob]
            have ho : o ≠ o' := hne.resolve_left (by simp)
            constructor
            · intro fz cs1 e1
              rw [hob] at e1
              simp only [Option.some.injEq, LObj.cells.injEq] at e1
              obtain ⟨rfl, rfl⟩ := e1
              exact ⟨_, rfl, by rw [List.getElem?_set_ne ho]⟩
            · intro fz cs1 e1
              simp only [Option.some.injEq, LObj.cells.injEq] at e1
              obtain ⟨rfl, rfl⟩ := e1
              exact ⟨_, hob, by rw [List.getElem?_set_ne ho]⟩
          · rw [obj_setObj_ne hy]
            exact ⟨fun fz cs e => ⟨cs, e, rfl⟩, fun fz cs e => ⟨cs, e, rfl⟩⟩
        · simp only [Option.some.injEq, Prod.mk.injEq] at he
          rw [← he.2]
          exact ⟨fun fz cs e => ⟨cs, e, rfl⟩, fun fz cs e => ⟨cs, e, rfl⟩⟩
        · simp at he
      · simp at he
    · simp at he
  · simp at h
/-- A reading of a cell asks this cell alone. -/
theorem rd_cell {i : VI} {b : VO} (hi : cellRd i = some b) {s s' : St} (h : one C i s = some s') :
    ∃ ds : List (Nat × AV), (∀ p ∈ ds, p.1 ∈ mods i) ∧ s' = s.sets ds ∧ ∀ s2, Agree (slots i) s s2 → (∀ y o fz cs, s.ev b = .ptr y o → s.obj y = some (.cells fz cs) → ∃ cs2, s2.obj y = some (.cells fz cs2) ∧ cs2[o]? = cs[o]?) → one C i s2 = some (s2.sets ds) := by
  have hc : NoCall i.op := noCall_of (by rcases cellRd_op hi with e | e <;> rw [e] <;> rfl)
  have hsub := (rd_touch hi).sl
  have key : ∀ {s s1 : St} {v : AV}, exec (i.dst.getD 0) i.op s = some (v, s1) → s1 = s ∧ ∀ s2, Agree (slots i) s s2 → (∀ y o fz cs, s.ev b = .ptr y o → s.obj y = some (.cells fz cs) → ∃ cs2, s2.obj y = some (.cells fz cs2) ∧ cs2[o]? = cs[o]?) → exec (i.dst.getD 0) i.op s2 = some (v, s2) := by
    intro s s1 v he
    have oc : ∀ (bb : Bool) (s s2 : St) (y : Ix) (o : Nat) (cs : List AV), objCells bb (s.obj y) = some cs → (∀ fz cs, s.obj y = some (.cells fz cs) → ∃ cs2, s2.obj y = some (.cells fz cs2) ∧ cs2[o]? = cs[o]?) → ∃ cs2, objCells bb (s2.obj y) = some cs2 ∧ cs2[o]? = cs[o]? := by
      intro bb s s2 y o cs hcs hk
      unfold objCells at hcs
      split at hcs
      · rename_i fz cs' e
        obtain ⟨cs2, e2, e3⟩ := hk fz cs' e
        split at hcs
        · rename_i hf
          simp only [Option.some.injEq] at hcs
          subst hcs
          exact ⟨cs2, by rw [e2]; simp only [objCells]; rw [if_pos hf], e3⟩
        · simp at hcs
      · simp at hcs
    rcases cellRd_op hi with e | e
    · rw [e] at he ⊢
      simp only [exec] at he ⊢
      split at he
      · rename_i cs o hv
        split at he
        · rename_i v' hp
          simp only [Option.some.injEq, Prod.mk.injEq] at he
          obtain ⟨rfl, rfl⟩ := he
          refine ⟨rfl, fun s2 ha _ => ?_⟩
          rw [ha.ev (x := b) hsub, hv]
          simp only [hp]
        · simp at he
      · rename_i ix o hv
        split at he
        · rename_i cs hcs
          split at he
          · rename_i v' hp
            simp only [Option.some.injEq, Prod.mk.injEq] at he
            obtain ⟨rfl, rfl⟩ := he
            refine ⟨rfl, fun s2 ha hk => ?_⟩
            obtain ⟨cs2, e2, e3⟩ := oc true _ s2 ix o cs hcs fun fz cs1 e1 => hk ix o fz cs1 hv e1
            rw [ha.ev (x := b) hsub, hv]
            simp only [e2]
            have : part? none cs2 o = part? none cs o := by simp only [part?, e3]
            rw [this, hp]
          · simp at he
        · simp at he
      · simp at he
    · rw [e] at he ⊢
      simp only [exec] at he ⊢
      split at he
      · rename_i ix o hv
        split at he
        · rename_i cs hcs
          split at he
          · rename_i v' hp
            simp only [Option.some.injEq, Prod.mk.injEq] at he
            obtain ⟨rfl, rfl⟩ := he
            refine ⟨rfl, fun s2 ha hk => ?_⟩
            obtain ⟨cs2, e2, e3⟩ := oc false _ s2 ix o cs hcs fun fz cs1 e1 => hk ix o fz cs1 hv e1
            rw [ha.ev (x := b) hsub, hv]
            simp only [e2, e3, hp]
          · simp at he
        · simp at he
      · simp at he
  have hstep : ∀ {s s' : St}, step C i s = some s' → ∃ ds : List (Nat × AV), (∀ p ∈ ds, p.1 ∈ mods i) ∧ s' = s.sets ds ∧ ∀ s2, Agree (slots i) s s2 → (∀ y o fz cs, s.ev b = .ptr y o → s.obj y = some (.cells fz cs) → ∃ cs2, s2.obj y = some (.cells fz cs2) ∧ cs2[o]? = cs[o]?) → step C i s2 = some (s2.sets ds) := by
    intro s s' h
    rw [step_exec hc] at h
    split at h
    · rename_i v s1 he
      simp only [Option.some.injEq] at h
      obtain ⟨k1, k2⟩ := key he
      subst k1
      refine ⟨i.dst.toList.map fun d => (d, v), ?_, by rw [← h]; exact sets_put [] i.dst v _, fun s2 ha hk => by rw [step_exec hc, k2 s2 ha hk]; exact congrArg some (sets_put [] i.dst v s2)⟩
      intro p hp
      obtain ⟨d, hd, rfl⟩ := List.mem_map.1 hp
      exact List.mem_append.2 (.inl hd)
    · simp at h
  unfold one at h
  cases hg : i.guard with
  | none =>
    rw [hg] at h
    obtain ⟨ds, h1, h2, h3⟩ := hstep h
    exact ⟨ds, h1, h2, fun s2 ha hk => by unfold one; rw [hg]; exact h3 s2 ha hk⟩
  | some g =>
    obtain ⟨j, want⟩ := g
    rw [hg] at h
    simp only at h
    have hj : j ∈ slots i := by simp [slots, hg]
    split at h
    · rename_i bb hb
      split at h
      · rename_i hbw
        obtain ⟨ds, h1, h2, h3⟩ := hstep h
        refine ⟨ds, h1, h2, fun s2 ha hk => ?_⟩
        unfold one
        rw [hg]
        simp only [show s2.get j = s.get j from ha j hj, hb, hbw, if_true]
        exact h3 s2 ha hk
      · rename_i hbw
        simp only [Option.some.injEq] at h
        refine ⟨i.dst.toList.map fun d => (d, .tup []), ?_, by rw [← h]; exact sets_put [] i.dst _ s, fun s2 ha _ => ?_⟩
        · intro p hp
          obtain ⟨d, hd, rfl⟩ := List.mem_map.1 hp
          exact List.mem_append.2 (.inl hd)
        · unfold one
          rw [hg]
          simp only [show s2.get j = s.get j from ha j hj, hb, hbw, if_false]
          exact congrArg some (sets_put [] i.dst _ s2)
    · simp at h
theorem apartC_ne {x y : Ix} {o o' : Nat} (h : apartC (.ptr x o) (.ptr y o') = true) : x ≠ y ∨ o ≠ o' := by simpa [apartC] using h
theorem swapC {j i : VI} {p : VO × VO} (hok : lcPair j i = some p) (h1 : one C j s = some s1) (h2 : one C i s1 = some s2)
    (hap : apartC (s.ev p.1) (s.ev p.2) = true) : ∃ s1', one C i s = some s1' ∧ one C j s1' = some s2 := by
  unfold lcPair at hok
  split at hok
  · rename_i hd
    simp only [Bool.and_eq_true, List.all_eq_true, Bool.not_eq_true', List.contains_eq_mem, decide_eq_false_iff_not] at hd
    obtain ⟨hji, hij⟩ := hd
    split at hok
    · rename_i a b ha hb
      simp only [Option.some.injEq] at hok; subst hok
      have ag1 : Agree (slots i) s1 s := fun t ht => (one_mods h1 fun hm => hji t hm ht).symm
      obtain ⟨ds, k1, k2, k3⟩ := rd_cell hb h2
      obtain ⟨x, o, hv, hk⟩ := tk_obj ha h1
      have hbe : s1.ev b = s.ev b := (ag1.ev (x := b) (rd_touch hb).sl).symm
      refine ⟨_, k3 s ag1 fun y o' fz cs e1 e2 => ?_, ?_⟩
      · rw [hbe] at e1
        rw [hv, e1] at hap
        exact (hk y o' (apartC_ne hap)).2 fz cs e2
      · rw [one_sets ds s fun p hp => hij _ (k1 p hp), h1, k2]
        rfl
    · split at hok
      · rename_i a b ha hb
        simp only [Option.some.injEq] at hok; subst hok
        obtain ⟨ds, k1, k2, k3⟩ := rd_cell ha h1
        subst k2
        rw [one_sets ds s fun p hp => hji _ (k1 p hp)] at h2
        cases hi : one C i s with
        | none => rw [hi] at h2; simp at h2
        | some s1' =>
          rw [hi] at h2
          simp only [Option.map_some, Option.some.injEq] at h2
          obtain ⟨x, o, hv, hk⟩ := tk_obj hb hi
          refine ⟨s1', rfl, ?_⟩
          rw [k3 s1' (fun t ht => one_mods hi fun hm => hij t hm ht) fun y o' fz cs e1 e2 => ?_, h2]
          rw [hv, e1] at hap
          have := apartC_ne hap
          exact (hk y o' (this.imp Ne.symm Ne.symm)).1 fz cs e2
      · simp at hok
  · simp at hok

theorem ix_mods {j i : VI} (h : ixPair j i = true) {n : Nat} (hm : n ∈ mods j) (hs : n ∈ slots i) : False := by
  unfold ixPair at h
  split at h
  · rename_i d z t x e w a u
    simp only [Bool.and_eq_true, beq_iff_eq, bne_iff_ne, Bool.not_eq_true', List.contains_eq_mem, decide_eq_false_iff_not, Option.isNone_iff_eq_none] at h
    obtain ⟨⟨⟨⟨rfl, k1⟩, k2⟩, k3⟩, rfl⟩ := h
    have h1 : n = d := by simpa [mods, opMods] using hm
    subst h1
    have h2 : n ∈ [] ++ [] ++ (tmpsO a ++ [t]) := hs
    rcases List.mem_append.1 (by simpa using h2 : n ∈ tmpsO a ++ [t]) with h | h
    · exact k1 h
    · exact k2 (by simpa using h)
  · simp at h
/-- Addresses stay in their slots. -/
def Held (l : List VI) : Prop := l.Pairwise (fun x y => ∀ n ∈ touchTmps x, n ∉ mods y) ∧ ∀ x ∈ l, ∀ a, accA x.op = some a → ∀ n ∈ tmpsO a, n ∉ mods x

theorem bubbleD {i : VI} : ∀ (l1 l2 : List VI) (s s' : St), Held (l1 ++ i :: l2) →
    (∀ j ∈ l1, okPair j i = true ∨ (dynPair j i = true ∧ dynApp j i = true ∧ ∀ a b, touch j = some a → touch i = some b → apart (s'.ev a) (s'.ev b) = true) ∨ (∃ a, vpPair j i = some a ∧ apart (s'.ev a) .nilfn = true) ∨ ∃ p, lcPair j i = some p ∧ apartC (s'.ev p.1) (s'.ev p.2) = true) →
    runOps C (l1 ++ i :: l2) s = some s' → runOps C (i :: (l1 ++ l2)) s = some s'
  | [], l2, s, s', _, _, h => h
  | j :: l1, l2, s, s', hh, hok, h => by
    have hfull := h
    rw [List.cons_append, runOps_cons] at h
    split at h
    · rename_i s1 h1
      obtain ⟨hp, hs⟩ := hh
      rw [List.cons_append, List.pairwise_cons] at hp
      have ih := bubbleD l1 l2 s1 s' ⟨hp.2, fun x hx => hs x (by simp at hx ⊢; exact .inr hx)⟩ (fun k hk => hok k (by simp [hk])) h
      rw [runOps_cons] at ih
      split at ih
      · rename_i s2 h2
        have e1 : ∀ a, touch j = some a → s'.ev a = s1.ev a := fun a ha => ev_of_tmp fun n hn => runOps_touch _ s1 s' h fun k hk => hp.1 k hk n (by simp [touchTmps, ha, hn])
        have e2 : ∀ b, touch i = some b → s'.ev b = s2.ev b := fun b hb => ev_of_tmp fun n hn => runOps_touch _ s2 s' ih fun k hk => by
          rcases List.mem_append.1 hk with hk | hk
          · intro hm
            have hmem : n ∈ slots i := by
              rcases touch_cases hb with (hib | ⟨e, hin, hie, rfl⟩) | hib
              · simp only [slots, List.mem_append]
                right
                cases hop : i.op <;> rw [hop] at hib <;> simp [acc] at hib <;> subst hib <;> simp [opTmps, hn]
              · simp [tmpsO] at hn
                subst hn
                simp [slots, hie]
              · simp only [slots, List.mem_append]
                right
                cases hop : i.op <;> rw [hop] at hib <;> simp [appd] at hib <;> subst hib <;> simp [opTmps, hn]
            rcases hok k (by simp [hk]) with h | h | ⟨a, h, _⟩ | ⟨p, h, _⟩
            · simp only [okPair, Bool.or_eq_true] at h
              rcases h with (h | h) | h
              · simp only [okPair0, Bool.and_eq_true, List.all_eq_true, Bool.not_eq_true', List.contains_eq_mem, decide_eq_false_iff_not] at h
                exact h.1.1 n hm hmem
              · unfold tmPair at h
                split at h
                · simp [touch, acc, isNew, appd] at hb
                · simp [touch, acc, isNew, appd] at hb
                · simp at h
              · exact ix_mods h hm hmem
            · have h := h.1
              simp only [dynPair, Bool.and_eq_true, List.all_eq_true, Bool.not_eq_true', List.contains_eq_mem, decide_eq_false_iff_not] at h
              exact h.1.1.1.1 n hm hmem
            · exact vp_mods h hm hmem
            · exact lc_mods h hm hmem
          · have := (List.pairwise_append.1 hp.2).2.1
            rw [List.pairwise_cons] at this
            exact this.1 k hk n (by simp [touchTmps, hb, hn])
        have key : ∃ s1', one C i s = some s1' ∧ one C j s1' = some s2 := by
          rcases hok j (by simp) with hq | ⟨hq, hqa, hap⟩ | ⟨a, hq, hap⟩ | ⟨p, hq, hap⟩
          · exact swap hq h1 h2
          · have hq' := hq
            simp only [dynPair, Bool.and_eq_true] at hq'
            obtain ⟨a, ha⟩ := Option.isSome_iff_exists.1 hq'.1.2
            obtain ⟨b, hb⟩ := Option.isSome_iff_exists.1 hq'.2
            refine swapD hq hqa ha hb (hs j (by simp) a) (hs i (by simp) b) h1 h2 ?_
            rw [← e1 a ha, ← e2 b hb]
            exact hap a b ha hb
          · refine swapV hq h1 h2 (fun hi => ?_) (fun hj => ?_)
            · have k := e2 a (ldA_touch hi).1
              have k2 : s2.ev a = s1.ev a := ev_of_tmp fun n hn => one_mods h2 (hs i (by simp) a (ldA_touch hi).2 n hn)
              rw [← k2, ← k]; exact hap
            · have k := e1 a (ldA_touch hj).1
              have k2 : s1.ev a = s.ev a := ev_of_tmp fun n hn => one_mods h1 (hs j (by simp) a (ldA_touch hj).2 n hn)
              rw [← k2, ← k]; exact hap
          · obtain ⟨ta, tb⟩ := lc_touch hq
            refine swapC hq h1 h2 ?_
            have k1 : s1.ev p.1 = s.ev p.1 := ev_of_tmp fun n hn => one_mods h1 (hs j (by simp) p.1 ta.ac n hn)
            have k2 : s2.ev p.2 = s1.ev p.2 := ev_of_tmp fun n hn => one_mods h2 (hs i (by simp) p.2 tb.ac n hn)
            have k3 : s1.ev p.2 = s.ev p.2 := ev_of_tmp fun n hn => one_mods h1 fun hm => lc_mods hq hm (tb.sl n hn)
            rw [← k1, ← k3, ← k2, ← e1 _ ta.t, ← e2 _ tb.t]
            exact hap
        obtain ⟨s1', e1, e2⟩ := key
        rw [runOps_cons, e1]
        simp only [List.cons_append]
        rw [runOps_cons, e2]
        exact ih
      · simp at ih
    · simp at h

end
end Go.Vm
/- Every order that the model may draw comes to what the text's order comes to. -/
namespace Go.Vm

def maskOf (acc : List Nat) (es : List Edge) : Nat := es.foldl (fun s e => if Region.binds .any e then s ||| (2 ^ e.on ||| acc.getD e.on 0) else s) 0

def masksOf : List Oper → List Nat → List Nat
  | [], acc => acc
  | o :: rest, acc => masksOf rest (acc ++ [maskOf acc o.after.toList])

def edgesOk : Nat → List Oper → Bool
  | _, [] => true
  | i, o :: rest => (o.after.toList.all fun e => !Region.binds .any e || decide (e.on < i)) && edgesOk (i + 1) rest

def pairOk (ms : List Nat) (is : List VI) (i j : Nat) : Bool :=
  (ms.getD i 0).testBit j || match is[j]?, is[i]? with
    | some x, some y => okPair x y
    | _, _ => false

/-- What must be apart for two operations to change places. -/
def pairCh (ms : List Nat) (is : List VI) (i j : Nat) : Option (List (Bool × VO × VO)) :=
  if pairOk ms is i j then some []
  else match is[j]?, is[i]? with
    | some x, some y => match lcPair x y with
      | some p => some [(true, p.1, p.2)]
      | none => if dynPair x y && dynApp x y then match touch x, touch y with
          | some a, some b => some [(false, a, b)]
          | _, _ => none
        else match vpPair x y with
          | some a => some [(false, a, .k .nilfn)]
          | none => none
    | _, _ => none

def gather : List (Option (List (Bool × VO × VO))) → Option (List (Bool × VO × VO))
  | [] => some []
  | none :: _ => none
  | some c :: rest => match gather rest with
    | some cs => some (c ++ cs)
    | none => none

def heldB : List VI → Bool
  | [] => true
  | x :: rest => (rest.all fun y => (touchTmps x).all fun n => !(mods y).contains n) && (match accA x.op with
    | some a => (tmpsO a).all fun n => !(mods x).contains n
    | none => true) && heldB rest

/-- May the operations of a region that draws be taken in the text's order? What must lie apart for it. -/
def drawOk (ops : Array Oper) (is : List VI) : Option (List (Bool × VO × VO)) :=
  if edgesOk 0 ops.toList then
    match gather ((List.range is.length).flatMap fun i => (List.range i).map fun j => pairCh (masksOf ops.toList []) is i j) with
    | some [] => some []
    | some ch => if heldB is then some ch else none
    | none => none
  else none

theorem gather_mem : ∀ (l : List (Option (List (Bool × VO × VO)))) (cs : List (Bool × VO × VO)), gather l = some cs → ∀ o ∈ l, ∃ c, o = some c ∧ ∀ p ∈ c, p ∈ cs
  | [], cs, _, o, ho => by simp at ho
  | none :: rest, cs, h, o, ho => by simp [gather] at h
  | some c :: rest, cs, h, o, ho => by
    simp only [gather] at h
    split at h
    · rename_i cs' hr
      simp only [Option.some.injEq] at h
      subst h
      rcases List.mem_cons.1 ho with rfl | ho
      · exact ⟨c, rfl, fun p hp => List.mem_append.2 (.inl hp)⟩
      · obtain ⟨c', e, h'⟩ := gather_mem rest cs' hr o ho
        exact ⟨c', e, fun p hp => List.mem_append.2 (.inr (h' p hp))⟩
    · simp at h

theorem heldB_inv : ∀ (l : List VI), heldB l = true → Held l
  | [], _ => ⟨List.Pairwise.nil, by simp⟩
  | x :: rest, h => by
    simp only [heldB, Bool.and_eq_true, List.all_eq_true, Bool.not_eq_true', List.contains_eq_mem, decide_eq_false_iff_not] at h
    obtain ⟨h1, h2⟩ := heldB_inv rest h.2
    refine ⟨List.pairwise_cons.2 ⟨fun y hy n hn => h.1.1 y hy n hn, h1⟩, fun y hy a ha => ?_⟩
    rcases List.mem_cons.1 hy with rfl | hy
    · have := h.1.2
      rw [ha] at this
      simpa using this
    · exact h2 y hy a ha

theorem maskOf_bit {acc : List Nat} {j : Nat} : ∀ (es : List Edge) (s : Nat), (es.foldl (fun s e => if Region.binds .any e then s ||| (2 ^ e.on ||| acc.getD e.on 0) else s) s).testBit j = true →
    s.testBit j = true ∨ ∃ e ∈ es, Region.binds .any e = true ∧ (e.on = j ∨ (acc.getD e.on 0).testBit j = true)
  | [], s, h => .inl h
  | e :: es, s, h => by
    simp only [List.foldl_cons] at h
    rcases maskOf_bit es _ h with h | ⟨e', he', hb, hh⟩
    · split at h
      · rename_i hb
        rw [Nat.testBit_or, Nat.testBit_or, Nat.testBit_two_pow] at h
        simp only [Bool.or_eq_true, decide_eq_true_eq] at h
        rcases h with h | h | h
        · exact .inl h
        · exact .inr ⟨e, by simp, hb, .inl h⟩
        · exact .inr ⟨e, by simp, hb, .inr h⟩
      · exact .inl h
    · exact .inr ⟨e', by simp [he'], hb, hh⟩

theorem masksOf_acc : ∀ (os : List Oper) (acc : List Nat), ∃ tl, masksOf os acc = acc ++ tl
  | [], acc => ⟨[], by simp [masksOf]⟩
  | o :: os, acc => by
    obtain ⟨tl, h⟩ := masksOf_acc os (acc ++ [maskOf acc o.after.toList])
    exact ⟨maskOf acc o.after.toList :: tl, by simp [masksOf, h]⟩

theorem masksOf_get : ∀ (os : List Oper) (acc : List Nat) (k : Nat) (o : Oper), os[k]? = some o → (masksOf os acc)[acc.length + k]? = some (maskOf ((masksOf os acc).take (acc.length + k)) o.after.toList)
  | [], acc, k, o, h => by simp at h
  | o' :: os, acc, 0, o, h => by
    simp at h; subst h
    obtain ⟨tl, e⟩ := masksOf_acc os (acc ++ [maskOf acc o'.after.toList])
    simp only [masksOf, e, Nat.add_zero]
    simp
  | o' :: os, acc, k + 1, o, h => by
    have := masksOf_get os (acc ++ [maskOf acc o'.after.toList]) k o (by simpa using h)
    simp only [List.length_append, List.length_cons, List.length_nil] at this
    simp only [masksOf]
    rw [show acc.length + (k + 1) = acc.length + (0 + 1) + k by omega]
    exact this

theorem masks_bit {ops : Array Oper} {i j : Nat} {o : Oper} (ho : ops[i]? = some o) (h : ((masksOf ops.toList []).getD i 0).testBit j = true) :
    ∃ e ∈ o.after, Region.binds .any e = true ∧ (e.on = j ∨ (e.on < i ∧ ((masksOf ops.toList []).getD e.on 0).testBit j = true)) := by
  have hg := masksOf_get ops.toList [] i o (by simpa using ho)
  simp only [List.length_nil, Nat.zero_add] at hg
  rw [List.getD, hg] at h
  simp only [Option.getD_some] at h
  rcases maskOf_bit o.after.toList 0 h with h | ⟨e, he, hb, hh⟩
  · simp at h
  · refine ⟨e, by simpa using he, hb, ?_⟩
    rcases hh with hh | hh
    · exact .inl hh
    · by_cases hlt : e.on < i
      · refine .inr ⟨hlt, ?_⟩
        simp only [List.getD, List.getElem?_take, if_pos hlt] at hh
        exact hh
      · simp only [List.getD, List.getElem?_take, if_neg hlt, Option.getD_none] at hh
        simp at hh

theorem edges_lt : ∀ (os : List Oper) (n : Nat), edgesOk n os = true → ∀ (k : Nat) (o : Oper), os[k]? = some o → ∀ e ∈ o.after, Region.binds .any e = true → e.on < n + k
  | [], n, _, k, o, ho => by simp at ho
  | o' :: os, n, h, 0, o, ho => by
    simp at ho; subst ho
    simp only [edgesOk, Bool.and_eq_true, List.all_eq_true] at h
    intro e he hb
    have := h.1 e (by simpa using he)
    rw [hb] at this
    simpa using this
  | o' :: os, n, h, k + 1, o, ho => by
    simp only [edgesOk, Bool.and_eq_true] at h
    intro e he hb
    have := edges_lt os (n + 1) h.2 k o (by simpa using ho) e he hb
    omega

section
variable {P : Program} {C : CallF} {G0 : Gh} {w0 : World} {n : Nat} {Q : Exit → Act → World → Prop}

/-- What has been listed has all that it hangs on. -/
def Closed (ops : Array Oper) (listed : Array Bool) : Prop := ∀ i o, listed.getD i false = true → ops[i]? = some o → ∀ e ∈ o.after, Region.binds .any e = true → listed.getD e.on false = true

theorem closed_masks {ops : Array Oper} {listed : Array Bool} (hc : Closed ops listed) : ∀ (i j : Nat) (o : Oper), ops[i]? = some o → listed.getD i false = true → ((masksOf ops.toList []).getD i 0).testBit j = true → listed.getD j false = true := by
  intro i
  induction i using Nat.strongRecOn with
  | _ i ih =>
    intro j o ho hl hb
    obtain ⟨e, he, hbd, hh⟩ := masks_bit ho hb
    have hle := hc i o hl ho e he hbd
    rcases hh with rfl | ⟨hlt, hh⟩
    · exact hle
    · have hsz : i < ops.size := (Array.getElem?_eq_some_iff.1 ho).1
      obtain ⟨o2, ho2⟩ : ∃ o2, ops[e.on]? = some o2 := ⟨ops[e.on]'(by omega), by simp⟩
      exact ih e.on hlt j o2 ho2 hle hh

def rem (n : Nat) (listed : Array Bool) : List Nat := (List.range n).filter fun i => !listed.getD i true

theorem rem_split {n : Nat} {listed : Array Bool} {i : Nat} (hi : i ∈ rem n listed) (hsz : listed.size = n) : ∃ l1 l2, rem n listed = l1 ++ i :: l2 ∧ rem n (listed.setIfInBounds i true) = l1 ++ l2 ∧ ∀ j ∈ l1, j < i ∧ listed.getD j true = false := by
  have hin : i < n ∧ listed.getD i true = false := by
    simp only [rem, List.mem_filter, List.mem_range, Bool.not_eq_true'] at hi
    exact hi
  have hr : List.range n = List.range i ++ i :: (List.range (n - i - 1)).map (· + (i + 1)) := by
    apply List.ext_getElem?
    intro k
    by_cases h1 : k < i
    · rw [List.getElem?_append_left (by simpa using h1)]
      simp [h1, show k < n by omega]
    · rw [List.getElem?_append_right (by simp; omega), List.length_range]
      by_cases h2 : k = i
      · subst h2; simp [hin.1]
      · obtain ⟨m, hm⟩ : ∃ m, k - i = m + 1 := ⟨k - i - 1, by omega⟩
        rw [hm, List.getElem?_cons_succ]
        by_cases h3 : k < n
        · simp [h3, show m < n - i - 1 by omega]; omega
        · rw [List.getElem?_eq_none (by simp; omega), List.getElem?_eq_none (by simp; omega)]
  refine ⟨(List.range i).filter fun j => !listed.getD j true, ((List.range (n - i - 1)).map (· + (i + 1))).filter fun j => !listed.getD j true, ?_, ?_, ?_⟩
  · unfold rem
    rw [hr, List.filter_append, List.filter_cons, if_pos (by simp [hin.2])]
  · unfold rem
    rw [hr, List.filter_append, List.filter_cons, if_neg (by simp [Array.getD_eq_getD_getElem?, hsz, hin.1])]
    congr 1
    · apply List.filter_congr
      intro j hj
      rw [List.mem_range] at hj
      simp only [Array.getD_eq_getD_getElem?]
      rw [Array.getElem?_setIfInBounds_ne (by omega)]
    · apply List.filter_congr
      intro j hj
      obtain ⟨m, _, rfl⟩ := List.mem_map.1 hj
      simp only [Array.getD_eq_getD_getElem?]
      rw [Array.getElem?_setIfInBounds_ne (by omega)]
  · intro j hj
    simp only [List.mem_filter, List.mem_range, Bool.not_eq_true'] at hj
    exact hj

theorem drawOk_inv {ops : Array Oper} {is : List VI} {ch : List (Bool × VO × VO)} (h : drawOk ops is = some ch) : edgesOk 0 ops.toList = true ∧
    gather ((List.range is.length).flatMap fun i => (List.range i).map fun j => pairCh (masksOf ops.toList []) is i j) = some ch ∧ (ch ≠ [] → heldB is = true) := by
  unfold drawOk at h
  split at h
  · rename_i he
    refine ⟨he, ?_⟩
    split at h
    · rename_i hg
      simp only [Option.some.injEq] at h; subst h
      exact ⟨hg, fun hn => absurd rfl hn⟩
    · rename_i c _ hg
      split at h
      · rename_i hb
        simp only [Option.some.injEq] at h; subst h
        exact ⟨hg, fun _ => hb⟩
      · simp at h
    · simp at h
  · simp at h

theorem held_rem {is : List VI} (h : Held is) (listed : Array Bool) : Held ((rem is.length listed).filterMap (is[·]?)) := by
  constructor
  · rw [List.pairwise_filterMap]
    unfold rem
    refine List.Pairwise.filter _ ?_
    refine List.Pairwise.imp (fun {a b} hab x hx y hy => ?_) List.pairwise_lt_range
    obtain ⟨ha, rfl⟩ := List.getElem?_eq_some_iff.1 hx
    obtain ⟨hb, rfl⟩ := List.getElem?_eq_some_iff.1 hy
    exact List.pairwise_iff_getElem.1 h.1 a b ha hb hab
  · intro x hx
    obtain ⟨j, _, hj⟩ := List.mem_filterMap.1 hx
    exact h.2 x (List.mem_of_getElem? hj)

theorem draw_any (hC : CallOK P C) (hF : FrameOK C) {heap takes eff : Nat → Bool} {ops : Array Oper} {is : List VI} (ht : trIs P heap takes eff n ops ops.toList = some is) {ch : List (Bool × VO × VO)} (hok : drawOk ops is = some ch) {s' : St} (hall : allApart s' ch = true)
    (hQ : ∀ a' w', StOK P G0 w0 n s' a' w' → Q .normal a' w') : ∀ (fuel : Nat) (listed : Array Bool) (s : St) (a : Act) (w : World), Closed ops listed → listed.size = ops.size → (rem ops.size listed).length ≤ fuel →
    runOps C ((rem ops.size listed).filterMap (is[·]?)) s = some s' → StOK P G0 w0 n s a w → wpAny P .any ops Q fuel listed a w := by
  obtain ⟨hlen, hget⟩ := trIs_get ht
  have hlen' : is.length = ops.size := by rw [hlen]; simp
  obtain ⟨hed, hga, hheld⟩ := drawOk_inv hok
  have hpairs : ∀ i, i < is.length → ∀ j, j < i → ∃ c, pairCh (masksOf ops.toList []) is i j = some c ∧ ∀ p ∈ c, p ∈ ch := by
    intro i hi j hj
    exact gather_mem _ _ hga _ (List.mem_flatMap.2 ⟨i, List.mem_range.2 hi, List.mem_map.2 ⟨j, List.mem_range.2 hj, rfl⟩⟩)
  have hlt : ∀ i o, ops[i]? = some o → ∀ e ∈ o.after, Region.binds .any e = true → e.on < i := fun i o ho e he hb => by
    have := edges_lt ops.toList 0 hed i o (by simpa using ho) e he hb
    omega
  -- nothing is ready only if nothing is left
  have hnil : ∀ (listed : Array Bool), listed.size = ops.size → Region.ready .any ops listed = [] → rem ops.size listed = [] := by
    intro listed hsz hr
    refine List.eq_nil_iff_forall_not_mem.2 fun i => ?_
    induction i using Nat.strongRecOn with
    | _ i ih =>
      intro hi
      have hin : i < ops.size ∧ listed.getD i true = false := by
        simp only [rem, List.mem_filter, List.mem_range, Bool.not_eq_true'] at hi
        exact hi
      have : i ∈ Region.ready .any ops listed := by
        simp only [Region.ready, List.mem_filter, List.mem_range, Bool.and_eq_true, Bool.not_eq_true']
        refine ⟨hin.1, hin.2, ?_⟩
        have ho : ops[i]? = some ops[i] := by simp [hin.1]
        rw [ho]
        simp only [Option.map_some, Option.getD_some, Array.all_eq_true_iff_forall_mem, Bool.or_eq_true, Bool.not_eq_true']
        intro e he
        by_cases hb : Region.binds .any e = true
        · right
          have hl := hlt i _ ho e he hb
          have hn := ih e.on hl
          simp only [rem, List.mem_filter, List.mem_range, Bool.not_eq_true', not_and, Bool.not_eq_false] at hn
          have h2 := hn (by omega)
          simp only [Array.getD_eq_getD_getElem?] at h2 ⊢
          rw [Array.getElem?_eq_getElem (by omega)] at h2 ⊢
          exact h2
        · left; simpa using hb
      rw [hr] at this
      simp at this
  intro fuel
  induction fuel with
  | zero =>
    intro listed s a w hc hsz hle hrun hI
    have hrem : rem ops.size listed = [] := List.length_eq_zero_iff.1 (by omega)
    refine ⟨?_, ?_⟩
    · refine List.eq_nil_iff_forall_not_mem.2 fun i hi => ?_
      have : i ∈ rem ops.size listed := by
        simp only [Region.ready, List.mem_filter, Bool.and_eq_true] at hi
        simp only [rem, List.mem_filter]
        exact ⟨hi.1, hi.2.1⟩
      rw [hrem] at this
      simp at this
    · rw [hrem] at hrun
      simp [runOps] at hrun
      subst hrun
      exact hQ a w hI
  | succ fuel ih =>
    intro listed s a w hc hsz hle hrun hI
    refine ⟨fun hr => ?_, fun i hi => ?_⟩
    · rw [hnil listed hsz hr] at hrun
      simp [runOps] at hrun
      subst hrun
      exact hQ a w hI
    · have hi' := hi
      simp only [Region.ready, List.mem_filter, List.mem_range, Bool.and_eq_true, Bool.not_eq_true'] at hi'
      obtain ⟨hin, hil, hafter⟩ := hi'
      have ho : ops[i]? = some ops[i] := by simp [hin]
      rw [ho] at hafter
      simp only [Option.map_some, Option.getD_some, Array.all_eq_true_iff_forall_mem, Bool.or_eq_true, Bool.not_eq_true'] at hafter
      have hedge : ∀ e ∈ ops[i].after, Region.binds .any e = true → listed.getD e.on false = true := fun e he hb => by
        rcases hafter e he with h | h
        · rw [hb] at h; simp at h
        · exact h
      have hirem : i ∈ rem ops.size listed := by
        simp only [rem, List.mem_filter, List.mem_range, Bool.not_eq_true']
        exact ⟨hin, hil⟩
      obtain ⟨l1, l2, e1, e2, e3⟩ := rem_split hirem hsz
      have hii : is[i]? = some (is[i]'(by omega)) := List.getElem?_eq_getElem _
      have hpok : ∀ j x, j < i → is[j]? = some x → x ∈ l1.filterMap (is[·]?) → listed.getD j true = false → pairOk (masksOf ops.toList []) is i j = true → okPair x (is[i]'(by omega)) = true := by
        intro j x hji hjx hxm hjl hp
        simp only [pairOk, Bool.or_eq_true] at hp
        rcases hp with hp | hp
        · exfalso
          obtain ⟨e, he, hbd, hh⟩ := masks_bit ho hp
          have hle := hedge e he hbd
          have hjf : listed.getD j false = false := by
            simp only [Array.getD_eq_getD_getElem?] at hjl ⊢
            rw [Array.getElem?_eq_getElem (by omega)] at hjl ⊢
            exact hjl
          rcases hh with rfl | ⟨hlt', hh⟩
          · rw [hle] at hjf; simp at hjf
          · have := closed_masks hc e.on j ops[e.on] (by simp [show e.on < ops.size by omega]) hle hh
            rw [this] at hjf; simp at hjf
        · rw [hjx, hii] at hp
          exact hp
      have hb : ∀ x ∈ l1.filterMap (is[·]?), okPair x (is[i]'(by omega)) = true ∨ (ch ≠ [] ∧ ((dynPair x (is[i]'(by omega)) = true ∧ dynApp x (is[i]'(by omega)) = true ∧ ∀ a b, touch x = some a → touch (is[i]'(by omega)) = some b → apart (s'.ev a) (s'.ev b) = true) ∨ (∃ a, vpPair x (is[i]'(by omega)) = some a ∧ apart (s'.ev a) .nilfn = true) ∨ ∃ p, lcPair x (is[i]'(by omega)) = some p ∧ apartC (s'.ev p.1) (s'.ev p.2) = true)) := by
        intro x hx
        obtain ⟨j, hj, hjx⟩ := List.mem_filterMap.1 hx
        obtain ⟨hji, hjl⟩ := e3 j hj
        obtain ⟨c, hc1, hc2⟩ := hpairs i (by omega) j hji
        by_cases hpo : pairOk (masksOf ops.toList []) is i j = true
        · exact .inl (hpok j x hji hjx hx hjl hpo)
        · right
          unfold pairCh at hc1
          rw [if_neg hpo, hjx, hii] at hc1
          simp only at hc1
          unfold allApart at hall
          rw [List.all_eq_true] at hall
          split at hc1
          · rename_i p hv
            simp only [Option.some.injEq] at hc1
            subst hc1
            have hmem := hc2 (true, p.1, p.2) (by simp)
            exact ⟨fun e => (by rw [e] at hmem; simp at hmem), .inr (.inr ⟨p, hv, by simpa using hall (true, p.1, p.2) hmem⟩)⟩
          · split at hc1
            · rename_i hdyn
              split at hc1
              · rename_i a b ha hb
                simp only [Option.some.injEq] at hc1
                subst hc1
                have hmem := hc2 (false, a, b) (by simp)
                rw [Bool.and_eq_true] at hdyn
                refine ⟨fun e => (by rw [e] at hmem; simp at hmem), .inl ⟨hdyn.1, hdyn.2, fun a' b' ha' hb' => ?_⟩⟩
                rw [ha] at ha'
                rw [hb] at hb'
                simp only [Option.some.injEq] at ha' hb'
                subst ha'; subst hb'
                exact by simpa using hall (false, a, b) hmem
              · simp at hc1
            · split at hc1
              · rename_i a hv
                simp only [Option.some.injEq] at hc1
                subst hc1
                have hmem := hc2 (false, a, .k .nilfn) (by simp)
                exact ⟨fun e => (by rw [e] at hmem; simp at hmem), .inr (.inl ⟨a, hv, by simpa [St.ev] using hall (false, a, .k .nilfn) hmem⟩)⟩
              · simp at hc1
      rw [e1, List.filterMap_append, List.filterMap_cons, hii] at hrun
      have hbub : runOps C (is[i]'(by omega) :: (l1.filterMap (is[·]?) ++ l2.filterMap (is[·]?))) s = some s' := by
        by_cases hch : ch = []
        · refine bubble (i := is[i]'(by omega)) _ _ s s' (fun x hx => ?_) hrun
          rcases hb x hx with h | h
          · exact h
          · exact absurd hch h.1
        · refine bubbleD (i := is[i]'(by omega)) _ _ s s' ?_ (fun x hx => ?_) hrun
          · have hh := held_rem (heldB_inv _ (hheld hch)) listed
            rw [hlen', e1, List.filterMap_append, List.filterMap_cons, hii] at hh
            exact hh
          · rcases hb x hx with h | h
            · exact .inl h
            · exact .inr h.2
      rw [runOps_cons] at hbub
      split at hbub
      · rename_i s1 h1
        have htr := hget i ops[i] (is[i]'(by omega)) (by simp [hin]) hii
        refine one_sound hC hF hI ho htr h1 fun a' w' hI' => ih _ s1 a' w' ?_ (by simpa using hsz) ?_ ?_ hI'
        · intro k o hk hok e he hbd
          by_cases hki : k = i
          · subst hki
            rw [ho] at hok
            simp only [Option.some.injEq] at hok
            subst hok
            have := hedge e he hbd
            simp only [Array.getD_eq_getD_getElem?] at this ⊢
            by_cases hek : k = e.on
            · rw [hek]
              rw [Array.getElem?_setIfInBounds_self_of_lt (by omega)]
              rfl
            · rw [Array.getElem?_setIfInBounds_ne hek]; exact this
          · have hk' : listed.getD k false = true := by
              simp only [Array.getD_eq_getD_getElem?] at hk ⊢
              rwa [Array.getElem?_setIfInBounds_ne (Ne.symm hki)] at hk
            have := hc k o hk' hok e he hbd
            simp only [Array.getD_eq_getD_getElem?] at this ⊢
            by_cases hek : i = e.on
            · rw [← hek, Array.getElem?_setIfInBounds_self_of_lt (by omega)]
              rfl
            · rw [Array.getElem?_setIfInBounds_ne hek]; exact this
        · rw [e2]
          rw [e1] at hle
          simp only [List.length_append, List.length_cons] at hle ⊢
          omega
        · rw [e2, List.filterMap_append]; exact hbub
      · simp at hbub

theorem draw_ok (hm : P.follows .mixedOrders = true) (hC : CallOK P C) (hF : FrameOK C) (n : Nat) (heap takes eff : Nat → Bool) : DrawOK P C n heap takes eff drawOk := by
  intro ops is id G0 w0 s s' a w Q ch ht hok hrun hall hI hQ
  have hlen : is.length = ops.size := by rw [(trIs_get ht).1]; simp
  refine wp_region_any hm (draw_any hC hF ht hok hall hQ ops.size _ s a _ ?_ (by simp) ?_ ?_ ?_)
  · intro i o hi
    simp only [Array.getD_eq_getD_getElem?, Array.getElem?_replicate] at hi
    split at hi <;> simp at hi
  · unfold rem
    refine Nat.le_trans (List.length_filter_le _ _) (by simp)
  · have : rem ops.size (Array.replicate ops.size false) = List.range ops.size := by
      unfold rem
      refine List.filter_eq_self.2 fun i hi => ?_
      rw [List.mem_range] at hi
      simp [Array.getD_eq_getD_getElem?, hi]
    rw [this, ← hlen, filterMap_range]
    exact hrun
  · obtain ⟨h0, h1, G, hinv⟩ := hI
    refine ⟨h0, h1, G, hinv.grow ⟨rfl, rfl, rfl, Nat.le_refl _, fun b _ => ⟨rfl, rfl⟩, rfl, rfl⟩⟩

end
end Go.Vm
/- A call that needs no shared memory goes the same beside one. -/
namespace Go.Vm

def St.withMem (s : St) (m : Mem) : St := { s with mem := m }

section
variable {s s' : St} {C : CallF} {m : Mem}

theorem wm_ev (x : VO) : (s.withMem m).ev x = s.ev x := by cases x <;> rfl
theorem wm_evf : (s.withMem m).ev = s.ev := by funext x; exact wm_ev x
theorem wm_set (t : Nat) (u : AV) : (s.withMem m).set t u = (s.set t u).withMem m := rfl
theorem wm_put (d : Option Nat) (u : AV) : (s.withMem m).put d u = (s.put d u).withMem m := by cases d <;> rfl
theorem wm_takeT (t : Nat) : (s.withMem m).takeT t = ((s.takeT t).1, (s.takeT t).2.withMem m) := by
  unfold St.takeT
  rw [show (s.withMem m).get t = s.get t from rfl]
  split <;> rfl
theorem wm_takeO (x : VO) : (s.withMem m).takeO x = ((s.takeO x).1, (s.takeO x).2.withMem m) := by
  cases x with
  | t n => exact wm_takeT n
  | k v => rfl
theorem takeT_mem (t : Nat) : (s.takeT t).2.mem = s.mem := by
  unfold St.takeT; split <;> rfl
theorem takeO_mem (x : VO) : (s.takeO x).2.mem = s.mem := by
  cases x with
  | t n => exact takeT_mem n
  | k v => rfl
theorem setObj_memlen (x : Ix) (o : LObj) : (s.setObj x o).mem.length = s.mem.length := (setObj_lens s x o).2.1

theorem wm_obj {x : Ix} {o : LObj} (h0 : s.mem = []) (h : s.obj x = some o) : (s.withMem m).obj x = some o ∧ ∃ t k, x = .loc t k := by
  cases x with
  | loc t k => exact ⟨h, t, k, rfl⟩
  | mem i => simp [St.obj, h0] at h
theorem wm_objCells {x : Ix} {b : Bool} {cs : List AV} (h0 : s.mem = []) (h : objCells b (s.obj x) = some cs) : objCells b ((s.withMem m).obj x) = some cs ∧ ∃ t k, x = .loc t k := by
  cases ho : s.obj x with
  | none => rw [ho] at h; simp [objCells] at h
  | some o =>
    obtain ⟨h1, h2⟩ := wm_obj (m := m) h0 ho
    rw [h1, ← ho]; exact ⟨h, h2⟩
theorem wm_setObj {t k : Nat} (o : LObj) : (s.withMem m).setObj (.loc t k) o = (s.setObj (.loc t k) o).withMem m := rfl

theorem capture_len : ∀ (as : List AV) (s s' : St) (vs : List AV), capture as s = some (vs, s') → s'.mem.length = s.mem.length
  | [], s, s', vs, h => by simp [capture] at h; rw [← h.2]
  | v :: rest, s, s', vs, h => by
    simp only [capture] at h
    split at h
    · split at h
      · split at h
        · rename_i hr
          simp only [Option.some.injEq, Prod.mk.injEq] at h
          rw [← h.2, capture_len rest _ _ _ hr, setObj_memlen]
        · simp at h
      · simp at h
    · split at h
      · split at h
        · rename_i hr
          simp only [Option.some.injEq, Prod.mk.injEq] at h
          rw [← h.2, capture_len rest _ _ _ hr]
        · simp at h
      · simp at h

theorem wm_capture : ∀ (as : List AV) (s s' : St) (vs : List AV), s.mem = [] → capture as s = some (vs, s') → capture as (s.withMem m) = some (vs, s'.withMem m)
  | [], s, s', vs, _, h => by
    simp [capture] at h
    obtain ⟨rfl, rfl⟩ := h
    rfl
  | v :: rest, s, s', vs, h0, h => by
    simp only [capture] at h ⊢
    split at h
    · rename_i t k
      split at h
      · rename_i cs hcs
        split at h
        · rename_i vs1 s1 hr
          simp only [Option.some.injEq, Prod.mk.injEq] at h
          obtain ⟨rfl, rfl⟩ := h
          have h1 : (s.setObj (.loc t k) (.cells true (cs.map AV.view))).mem = [] := h0
          rw [(wm_objCells (m := m) h0 hcs).1]
          simp only
          rw [wm_setObj, wm_capture rest _ _ _ h1 hr]
        · simp at h
      · simp at h
    · split at h
      · rename_i hn
        split at h
        · rename_i vs1 s1 hr
          simp only [Option.some.injEq, Prod.mk.injEq] at h
          obtain ⟨rfl, rfl⟩ := h
          rw [wm_capture rest _ _ _ h0 hr]
          simp only [hn, if_true]
        · simp at h
      · simp at h

theorem appO_len {esz bytes : Nat} {m m' : Mem} {a v : AV} {ys : List AV} (h : appO esz bytes m a ys = some (v, m')) : m.length < m'.length := by
  unfold appO at h
  split at h
  · split at h
    · simp only [Option.some.injEq, Prod.mk.injEq] at h
      rw [← h.2]; simp
    · simp at h
  · split at h
    · simp only [Option.some.injEq, Prod.mk.injEq] at h
      rw [← h.2]; simp
    · simp at h
  · split at h
    · split at h
      · simp only [Option.some.injEq, Prod.mk.injEq] at h
        rw [← h.2]; simp
      · simp at h
    · simp at h
  · simp at h

/-- Shared memory grows. -/
theorem appS_len {bytes : Nat} {m m' : Mem} {a v : AV} {b : List UInt8} (h : appS bytes m a b = some (v, m')) : m.length ≤ m'.length := by
  unfold appS at h
  split at h
  · split at h
    · simp only [Option.some.injEq, Prod.mk.injEq] at h; rw [← h.2]; exact Nat.le_refl _
    · simp only [Option.some.injEq, Prod.mk.injEq] at h; rw [← h.2]; exact Nat.le_refl _
    · simp at h
  · exact Nat.le_of_lt (appO_len h)
theorem appS_frame {bytes : Nat} {m : Mem} {a v : AV} {b : List UInt8} (h : appS bytes [] a b = some (v, [])) : appS bytes m a b = some (v, m) := by
  unfold appS at h ⊢
  split at h
  · rename_i hb
    rw [if_pos hb]
    split at h
    · simp only [Option.some.injEq, Prod.mk.injEq] at h; rw [h.1]
    · simp only [Option.some.injEq, Prod.mk.injEq] at h; rw [h.1]
    · simp at h
  · have := appO_len h
    simp at this

theorem appB_len {T bytes : Nat} {m m' : Mem} {a v : AV} {ys : List AV} (h : appB T bytes m a ys = some (v, m')) : m.length < m'.length := by
  unfold appB at h
  split at h
  · split at h
    · simp only [Option.some.injEq, Prod.mk.injEq] at h
      rw [← h.2]; simp
    · simp at h
  · split at h
    · split at h
      · simp only [Option.some.injEq, Prod.mk.injEq] at h
        rw [← h.2]; simp
      · simp at h
    · simp at h
  · simp at h
theorem unsfV_len {k T n : Nat} {m m' : Mem} {x y v : AV} (h : unsfV k T n m x y = some (v, m')) : m.length ≤ m'.length := by
  unfold unsfV at h
  split at h
  · simp only [Option.some.injEq, Prod.mk.injEq] at h; rw [← h.2]; simp
  · repeat' (first | split at h)
    all_goals first
      | (simp at h; done)
      | (simp only [Option.some.injEq, Prod.mk.injEq] at h; rw [← h.2]; exact Nat.le_refl _)
  · split at h
    · split at h
      · split at h
        · simp only [Option.some.injEq, Prod.mk.injEq] at h; rw [← h.2]; exact Nat.le_refl _
        · simp only [Option.some.injEq, Prod.mk.injEq] at h; rw [← h.2]; exact Nat.le_refl _
        · simp at h
      · exact Nat.le_of_lt (appB_len h)
    · simp at h
  · split at h
    · exact Nat.le_of_lt (appB_len h)
    · simp at h
  · repeat' (first | split at h)
    all_goals first
      | (simp at h; done)
      | (simp only [Option.some.injEq, Prod.mk.injEq] at h; rw [← h.2]; simp)
  · simp at h
theorem unsfV_frame {k T n : Nat} {m : Mem} {x y v : AV} (h : unsfV k T n [] x y = some (v, [])) : unsfV k T n m x y = some (v, m) := by
  unfold unsfV at h ⊢
  split at h
  · simp at h
  · split at h
    · simp at h
    · simp at h
  · split at h
    · split at h
      · rename_i hb
        simp only [if_pos hb]
        split at h
        · simp only [Option.some.injEq, Prod.mk.injEq] at h; simp [h.1]
        · simp only [Option.some.injEq, Prod.mk.injEq] at h; simp [h.1]
        · simp at h
      · have := appB_len h
        simp at this
    · simp at h
  · split at h
    · have := appB_len h
      simp at this
    · simp at h
  · split at h
    · simp only [Option.some.injEq, Prod.mk.injEq] at h; simp [h.1]
    · simp at h
    · simp at h
  · simp at h

theorem exec_len {d : Nat} {op : VOp} {v : AV} (h : exec d op s = some (v, s')) : s.mem.length ≤ s'.mem.length := by
  by_cases hp : isPure op = true
  · rw [exec_pure hp] at h
    split at h <;> simp at h
    rw [← h.2]; exact Nat.le_refl _
  · cases op with
    | take n =>
      simp only [exec, Option.some.injEq] at h
      have := takeT_mem (s := s) n
      rw [h] at this; rw [this]; exact Nat.le_refl _
    | assign x =>
      simp only [exec, Option.some.injEq] at h
      have := takeO_mem (s := s) x
      rw [h] at this; rw [this]; exact Nat.le_refl _
    | alloc hp cs => simp only [exec] at h; split at h <;> (simp at h; rw [← h.2]; simp)
    | box hp x =>
      simp only [exec] at h
      split at h
      · split at h <;> (simp at h; rw [← h.2]; simp)
      · simp at h
    | load agg a =>
      simp only [exec] at h
      split at h
      · split at h <;> simp at h
        rw [← h.2]; exact Nat.le_refl _
      · split at h
        · split at h <;> simp at h
          rw [← h.2]; exact Nat.le_refl _
        · simp at h
      · simp at h
    | loadO a =>
      simp only [exec] at h
      split at h
      · split at h
        · split at h <;> simp at h
          rw [← h.2]; exact Nat.le_refl _
        · simp at h
      · simp at h
    | loadTake a =>
      simp only [exec] at h
      split at h
      · split at h
        · split at h
          · simp only [Option.some.injEq, Prod.mk.injEq] at h
            rw [← h.2, setObj_memlen]; exact Nat.le_refl _
          · simp only [Option.some.injEq, Prod.mk.injEq] at h
            rw [← h.2]; exact Nat.le_refl _
          · simp at h
        · simp at h
      · simp at h
    | store sz a x =>
      simp only [exec] at h
      split at h
      · split at h
        · split at h
          · split at h
            · simp only [Option.some.injEq, Prod.mk.injEq] at h
              rw [← h.2, setObj_memlen, takeO_mem]; exact Nat.le_refl _
            · simp only [Option.some.injEq, Prod.mk.injEq] at h
              rw [← h.2, setObj_memlen, takeO_mem]; exact Nat.le_refl _
          · simp at h
        · simp at h
      · simp at h
    | mkfn f cs =>
      simp only [exec] at h
      split at h
      · rename_i hc
        simp only [Option.some.injEq, Prod.mk.injEq] at h
        rw [← h.2, capture_len _ _ _ _ hc]; exact Nat.le_refl _
      · simp at h
    | slSl z x lo hi mx =>
      simp only [exec] at h
      split at h
      · split at h <;> simp at h
        rw [← h.2]; exact Nat.le_refl _
      · split at h
        · split at h <;> simp at h
          rw [← h.2]; exact Nat.le_refl _
        · simp at h
      · split at h
        · split at h <;> simp at h
          rw [← h.2]; exact Nat.le_refl _
        · simp at h
      · split at h
        · split at h <;> simp at h
          rw [← h.2]; exact Nat.le_refl _
        · simp at h
      · simp at h
    | append z b a x =>
      simp only [exec] at h
      split at h
      · split at h
        · split at h <;> simp at h
          rw [← h.2, takeO_mem]; exact Nat.le_refl _
        · split at h <;> simp at h
          rw [← h.2, takeO_mem]; exact Nat.le_refl _
        · simp at h
      · simp at h
    | appStr b a x =>
      simp only [exec] at h
      split at h
      · split at h
        · rename_i hap
          simp only [Option.some.injEq, Prod.mk.injEq] at h
          rw [← h.2]
          exact appS_len hap
        · simp at h
      · simp at h
    | unsf k T n x y =>
      simp only [exec] at h
      split at h
      · rename_i hu
        simp only [Option.some.injEq, Prod.mk.injEq] at h
        rw [← h.2]
        exact unsfV_len hu
      · simp at h
    | strOfM x =>
      simp only [exec] at h
      split at h
      · split at h
        · split at h
          · split at h <;> simp at h
            rw [← h.2]; exact Nat.le_refl _
          · simp at h
        · simp at h
      · split at h <;> simp at h
        rw [← h.2]; exact Nat.le_refl _
      · simp at h
    | bytesObj hq x =>
      simp only [exec] at h
      split at h
      · split at h <;> (simp only [Option.some.injEq, Prod.mk.injEq] at h; rw [← h.2]; simp)
      · simp at h
    | range x =>
      simp only [exec] at h
      split at h <;> simp at h
      rw [← h.2]; exact Nat.le_refl _
    | next x =>
      simp only [exec] at h
      split at h
      · split at h
        · split at h
          · split at h
            · simp only [Option.some.injEq, Prod.mk.injEq] at h
              rw [← h.2, setObj_memlen]; exact Nat.le_refl _
            · simp at h
          · simp only [Option.some.injEq, Prod.mk.injEq] at h
            rw [← h.2]; exact Nat.le_refl _
        · simp at h
      · simp at h
    | mkslObj hq z b za l c =>
      simp only [exec] at h
      split at h
      · split at h
        · split at h <;> (simp only [Option.some.injEq, Prod.mk.injEq] at h; rw [← h.2]; simp)
        · simp at h
      · simp at h
    | slZ x =>
      simp only [exec] at h
      split at h <;> simp at h
      rw [← h.2]; exact Nat.le_refl _
    | appendRow z b a x =>
      simp only [exec] at h
      split at h
      · split at h
        · simp only [Option.some.injEq, Prod.mk.injEq] at h
          rw [← h.2]; exact Nat.le_refl _
        · split at h
          · simp only [Option.some.injEq, Prod.mk.injEq] at h
            rw [← h.2]; simp
          · simp at h
      · simp at h
    | appendO z b a x =>
      simp only [exec] at h
      split at h
      · split at h
        · rename_i hap
          simp only [Option.some.injEq, Prod.mk.injEq] at h
          rw [← h.2]
          exact Nat.le_of_lt (appO_len hap)
        · simp at h
      · simp at h
    | mkmap =>
      simp only [exec, Option.some.injEq, Prod.mk.injEq] at h
      rw [← h.2]; simp
    | minsert kd m k x =>
      simp only [exec] at h
      split at h
      · split at h
        · split at h
          · split at h
            · simp only [Option.some.injEq, Prod.mk.injEq] at h
              rw [← h.2, (setObj_lens _ _ _).2.1]; exact Nat.le_refl _
            · simp only [Option.some.injEq, Prod.mk.injEq] at h
              rw [← h.2, (setObj_lens _ _ _).2.1]; exact Nat.le_refl _
            · simp at h
          · simp at h
        · simp at h
      · simp at h
    | mlook kd z both m k =>
      simp only [exec] at h
      split at h
      · simp only [Option.some.injEq, Prod.mk.injEq] at h
        rw [← h.2]; exact Nat.le_refl _
      · split at h
        · split at h
          · simp only [Option.some.injEq, Prod.mk.injEq] at h
            rw [← h.2]; exact Nat.le_refl _
          · simp only [Option.some.injEq, Prod.mk.injEq] at h
            rw [← h.2]; exact Nat.le_refl _
          · simp at h
        · simp at h
      · simp at h
    | call f args => simp [exec, pval] at h
    | callR f args => simp [exec, pval] at h
    | callO f args => simp [exec, pval] at h
    | callP f args => simp [exec, pval] at h
    | _ => simp [isPure] at hp

theorem wm_exec {d : Nat} {op : VOp} {v : AV} (h0 : s.mem = []) (h1 : s'.mem = []) (h : exec d op s = some (v, s')) : exec d op (s.withMem m) = some (v, s'.withMem m) := by
  by_cases hp : isPure op = true
  · rw [exec_pure hp] at h ⊢
    rw [wm_evf]
    split at h
    · simp only [Option.some.injEq, Prod.mk.injEq] at h
      rw [← h.1, ← h.2]
    · simp at h
  · cases op with
    | take n =>
      simp only [exec, Option.some.injEq] at h ⊢
      rw [wm_takeT, h]
    | assign x =>
      simp only [exec, Option.some.injEq] at h ⊢
      rw [wm_takeO, h]
    | alloc hp cs =>
      simp only [exec] at h ⊢
      split at h
      · simp only [Option.some.injEq, Prod.mk.injEq] at h
        rw [← h.2] at h1; simp at h1
      · simp only [Option.some.injEq, Prod.mk.injEq] at h
        rename_i hb
        rw [if_neg hb, ← h.1, ← h.2]; rfl
    | box hp x =>
      simp only [exec, wm_ev] at h ⊢
      split at h
      · rename_i hg
        rw [if_pos hg]
        split at h
        · simp only [Option.some.injEq, Prod.mk.injEq] at h
          rw [← h.2] at h1; simp at h1
        · simp only [Option.some.injEq, Prod.mk.injEq] at h
          rename_i hb
          rw [if_neg hb, ← h.1, ← h.2]; rfl
      · simp at h
    | load agg a =>
      simp only [exec, wm_ev] at h ⊢
      split at h
      · split at h
        · rename_i hp'
          simp only [Option.some.injEq, Prod.mk.injEq] at h
          simp only [← h.1, ← h.2]
        · simp at h
      · split at h
        · rename_i hcs
          split at h
          · rename_i hp'
            simp only [Option.some.injEq, Prod.mk.injEq] at h
            rw [(wm_objCells (m := m) h0 hcs).1]
            simp only [hp', ← h.1, ← h.2]
          · simp at h
        · simp at h
      · simp at h
    | loadO a =>
      simp only [exec, wm_ev] at h ⊢
      split at h
      · split at h
        · rename_i hcs
          split at h
          · rename_i hp'
            simp only [Option.some.injEq, Prod.mk.injEq] at h
            rw [(wm_objCells (m := m) h0 hcs).1]
            simp only [hp', ← h.1, ← h.2]
          · simp at h
        · simp at h
      · simp at h
    | loadTake a =>
      simp only [exec, wm_ev] at h ⊢
      split at h
      · split at h
        · rename_i hcs
          obtain ⟨k1, t, k, rfl⟩ := wm_objCells (m := m) h0 hcs
          rw [k1]
          simp only
          split at h
          · rename_i hv
            simp only [Option.some.injEq, Prod.mk.injEq] at h
            simp only [← h.1, ← h.2]
            rfl
          · rename_i hnv hv
            simp only [Option.some.injEq, Prod.mk.injEq] at h
            rw [← h.1, ← h.2]
          · simp at h
        · simp at h
      · simp at h
    | store sz a x =>
      simp only [exec, wm_ev, wm_takeO] at h ⊢
      split at h
      · split at h
        · rename_i hcs
          obtain ⟨k1, t, k, rfl⟩ := wm_objCells (m := m) h0 hcs
          rw [k1]
          simp only
          split at h
          · rename_i hc
            rw [if_pos hc]
            split at h
            · simp only [Option.some.injEq, Prod.mk.injEq] at h
              rw [← h.1, ← h.2]; rfl
            · simp only [Option.some.injEq, Prod.mk.injEq] at h
              rw [← h.1, ← h.2]; rfl
          · simp at h
        · simp at h
      · simp at h
    | mkfn f cs =>
      simp only [exec, wm_evf] at h ⊢
      split at h
      · rename_i hc
        simp only [Option.some.injEq, Prod.mk.injEq] at h
        rw [wm_capture _ _ _ _ h0 hc, ← h.1, ← h.2]
      · simp at h
    | slSl z x lo hi mx =>
      simp only [exec, wm_evf] at h ⊢
      split at h
      · split at h
        · rename_i hv
          simp only [Option.some.injEq, Prod.mk.injEq] at h
          simp only [← h.1, ← h.2]
        · simp at h
      · split at h
        · split at h
          · rename_i hc
            simp only [Option.some.injEq, Prod.mk.injEq] at h
            simp only [hc]
            rw [← h.1, ← h.2]
            rfl
          · simp at h
        · simp at h
      · split at h
        · split at h
          · rename_i hc
            simp only [Option.some.injEq, Prod.mk.injEq] at h
            simp only [hc]
            rw [← h.1, ← h.2]
            rfl
          · simp at h
        · simp at h
      · split at h
        · split at h
          · rename_i hc
            simp only [Option.some.injEq, Prod.mk.injEq] at h
            simp only [hc]
            rw [← h.1, ← h.2]
            rfl
          · simp at h
        · simp at h
      · simp at h
    | append z b a x =>
      simp only [exec, wm_ev, wm_takeO] at h ⊢
      split at h
      · split at h
        · split at h
          · rename_i hc
            simp only [Option.some.injEq, Prod.mk.injEq] at h
            rw [if_pos hc, ← h.1, ← h.2]
          · simp at h
        · split at h
          · rename_i hc
            simp only [Option.some.injEq, Prod.mk.injEq] at h
            rw [if_pos hc, ← h.1, ← h.2]
          · simp at h
        · simp at h
      · simp at h
    | appStr b a x =>
      simp only [exec, wm_ev] at h ⊢
      split at h
      · split at h
        · rename_i hap
          simp only [Option.some.injEq, Prod.mk.injEq] at h
          rw [← h.2] at h1
          simp only at h1
          rw [h0, h1] at hap
          have e : (s.withMem m).mem = m := rfl
          rw [e, appS_frame hap, ← h.1, ← h.2]
          rfl
        · simp at h
      · simp at h
    | unsf k T n x y =>
      simp only [exec, wm_ev] at h ⊢
      split at h
      · rename_i hap
        simp only [Option.some.injEq, Prod.mk.injEq] at h
        rw [← h.2] at h1
        simp only at h1
        rw [h0, h1] at hap
        have e : (s.withMem m).mem = m := rfl
        rw [e, unsfV_frame hap, ← h.1, ← h.2]
        rfl
      · simp at h
    | strOfM x =>
      simp only [exec, wm_ev] at h ⊢
      split at h
      · split at h
        · rename_i hcs
          obtain ⟨k1, t, k, rfl⟩ := wm_objCells (m := m) h0 hcs
          rw [k1]
          simp only
          split at h
          · rename_i hc
            rw [if_pos hc]
            split at h
            · rename_i hb
              simp only [Option.some.injEq, Prod.mk.injEq] at h
              rw [← h.1, ← h.2]
            · simp at h
          · simp at h
        · simp at h
      · split at h
        · rename_i hb
          simp only [Option.some.injEq, Prod.mk.injEq] at h
          rw [← h.1, ← h.2]
        · simp at h
      · simp at h
    | bytesObj hq x =>
      simp only [exec, wm_ev] at h ⊢
      split at h
      · cases hq with
        | true =>
          simp only [if_true, Option.some.injEq, Prod.mk.injEq] at h
          rw [← h.2] at h1
          simp at h1
        | false =>
          simp only [if_false, Bool.false_eq_true, Option.some.injEq, Prod.mk.injEq] at h
          rw [if_neg (by simp), ← h.1, ← h.2]; rfl
      · simp at h
    | range x =>
      simp only [exec, wm_ev] at h ⊢
      split at h
      · simp only [Option.some.injEq, Prod.mk.injEq] at h
        rw [← h.1, ← h.2]; rfl
      · simp at h
    | next x =>
      simp only [exec, wm_ev] at h ⊢
      split at h
      · split at h
        · rename_i ho
          obtain ⟨k1, t, k, rfl⟩ := wm_obj (m := m) h0 ho
          rw [k1]
          simp only
          split at h
          · split at h
            · rename_i hc
              simp only [Option.some.injEq, Prod.mk.injEq] at h
              rw [if_pos hc, ← h.1, ← h.2]; rfl
            · simp at h
          · simp only [Option.some.injEq, Prod.mk.injEq] at h
            rw [← h.1, ← h.2]
        · simp at h
      · simp at h
    | mkslObj hq z b za l c =>
      simp only [exec, wm_ev] at h ⊢
      split at h
      · split at h
        · rename_i hc
          cases hq with
          | true =>
            simp only [if_true, Option.some.injEq, Prod.mk.injEq] at h
            rw [← h.2] at h1
            simp at h1
          | false =>
            simp only [if_false, Bool.false_eq_true, Option.some.injEq, Prod.mk.injEq] at h
            rw [if_pos hc, if_neg (by simp), ← h.1, ← h.2]; rfl
        · simp at h
      · simp at h
    | slZ x =>
      simp only [exec, wm_ev] at h ⊢
      split at h
      · simp only [Option.some.injEq, Prod.mk.injEq] at h
        rw [← h.1, ← h.2]
      · simp at h
    | appendRow z b a x =>
      simp only [exec, wm_ev] at h ⊢
      split at h
      · split at h
        · rename_i hc
          simp only [Option.some.injEq, Prod.mk.injEq] at h
          rw [if_pos hc, ← h.1, ← h.2]
        · split at h
          · simp only [Option.some.injEq, Prod.mk.injEq] at h
            rw [← h.2] at h1
            simp at h1
          · simp at h
      · simp at h
    | appendO z b a x =>
      simp only [exec] at h
      split at h
      · split at h
        · rename_i hap
          simp only [Option.some.injEq, Prod.mk.injEq] at h
          have := appO_len hap
          rw [← h.2] at h1
          simp only at h1
          rw [h1] at this
          simp at this
        · simp at h
      · simp at h
    | mkmap =>
      simp only [exec, Option.some.injEq, Prod.mk.injEq] at h
      rw [← h.2] at h1
      simp at h1
    | minsert kd m' k x =>
      simp only [exec] at h
      split at h
      · simp [St.obj, h0] at h
      · simp at h
    | mlook kd z both m' k =>
      simp only [exec, wm_ev] at h ⊢
      split at h
      · simp only [Option.some.injEq, Prod.mk.injEq] at h
        rw [← h.1, ← h.2]
      · simp [St.obj, h0] at h
      · simp at h
    | call f args => simp [exec, pval] at h
    | callR f args => simp [exec, pval] at h
    | callO f args => simp [exec, pval] at h
    | callP f args => simp [exec, pval] at h
    | _ => simp [isPure] at hp

/-- Calls let shared memory grow. -/
def Grows (C : CallF) : Prop := ∀ f args m v m', C f args m = some (v, m') → m.length ≤ m'.length

theorem put_mem (d : Option Nat) (v : AV) : (s.put d v).mem = s.mem := by cases d <;> rfl

theorem step_len (hG : Grows C) {i : VI} (h : step C i s = some s') : s.mem.length ≤ s'.mem.length := by
  unfold step at h
  split at h
  · split at h
    · split at h
      · split at h
        · rename_i hc
          simp only [Option.some.injEq] at h
          rw [← h, put_mem]
          exact hG _ _ _ _ _ hc
        · simp at h
      · simp at h
    · simp at h
  · split at h
    · split at h
      · split at h
        · simp only [Option.some.injEq] at h
          rw [← h, put_mem]; exact Nat.le_refl _
        · simp at h
      · simp at h
    · simp at h
  · split at h
    · split at h
      · split at h
        · split at h
          · simp only [Option.some.injEq] at h
            rw [← h, put_mem]; exact Nat.le_refl _
          · simp at h
        · simp at h
      · simp at h
    · simp at h
  · split at h
    · split at h
      · split at h
        · rename_i hc
          simp only [Option.some.injEq] at h
          rw [← h, put_mem]
          exact hG _ _ _ _ _ hc
        · simp at h
      · simp at h
    · simp at h
  · split at h
    · rename_i he
      simp only [Option.some.injEq] at h
      rw [← h, put_mem]
      exact exec_len he
    · simp at h

theorem wm_step (_hG : Grows C) (hF : FrameOK C) {i : VI} (h0 : s.mem = []) (h1 : s'.mem = []) (h : step C i s = some s') : step C i (s.withMem m) = some (s'.withMem m) := by
  unfold step at h ⊢
  split at h
  · simp only [wm_ev] at h ⊢
    split at h
    · split at h
      · rename_i hn
        split at h
        · rename_i v mm hc
          simp only [Option.some.injEq] at h
          have hmm : mm = [] := by
            rw [← h, put_mem] at h1
            exact h1
          rw [h0, hmm] at hc
          subst hmm
          rw [if_pos hn]
          have := hF _ _ _ m hc
          rw [show (s.withMem m).mem = m from rfl, this]
          simp only
          rw [← h]
          exact congrArg some (wm_put (s := { s with mem := [] }) i.dst v)
        · simp at h
      · simp at h
    · simp at h
  · simp only [wm_ev] at h ⊢
    split at h
    · split at h
      · rename_i hn
        split at h
        · rename_i v hc
          simp only [Option.some.injEq] at h
          rw [if_pos hn, ← h]
          exact congrArg some (wm_put i.dst v)
        · simp at h
      · simp at h
    · simp at h
  · simp only [wm_ev] at h ⊢
    split at h
    · split at h
      · rename_i hn
        split at h
        · rename_i v mm hc
          split at h
          · rename_i hm
            simp only [Option.some.injEq] at h
            have hmm := eqMem_eq hm
            rw [h0] at hmm hc
            subst hmm
            rw [if_pos hn]
            have := hF _ _ _ m hc
            rw [show (s.withMem m).mem = m from rfl, this]
            simp only [eqMem_refl, if_true]
            rw [← h]
            exact congrArg some (wm_put i.dst v)
          · simp at h
        · simp at h
      · simp at h
    · simp at h
  · simp only [wm_ev] at h ⊢
    split at h
    · split at h
      · rename_i hn
        split at h
        · rename_i v mm hc
          simp only [Option.some.injEq] at h
          have hmm : mm = [] := by
            rw [← h, put_mem] at h1
            exact h1
          rw [h0, hmm] at hc
          subst hmm
          rw [if_pos hn]
          have := hF _ _ _ m hc
          rw [show (s.withMem m).mem = m from rfl, this]
          simp only
          rw [← h]
          exact congrArg some (wm_put (s := { s with mem := [] }) i.dst v)
        · simp at h
      · simp at h
    · simp at h
  · split at h
    · rename_i v s1 he
      simp only [Option.some.injEq] at h
      have h1' : s1.mem = [] := by rw [← h, put_mem] at h1; exact h1
      rw [wm_exec h0 h1' he]
      simp only
      rw [← h]
      exact congrArg some (wm_put i.dst v)
    · simp at h

theorem one_len (hG : Grows C) {i : VI} (h : one C i s = some s') : s.mem.length ≤ s'.mem.length := by
  unfold one at h
  split at h
  · exact step_len hG h
  · split at h
    · split at h
      · exact step_len hG h
      · simp only [Option.some.injEq] at h
        rw [← h, put_mem]; exact Nat.le_refl _
    · simp at h

theorem wm_one (hG : Grows C) (hF : FrameOK C) {i : VI} (h0 : s.mem = []) (h1 : s'.mem = []) (h : one C i s = some s') : one C i (s.withMem m) = some (s'.withMem m) := by
  unfold one at h ⊢
  split at h
  · exact wm_step hG hF h0 h1 h
  · rw [show ∀ j, (s.withMem m).get j = s.get j from fun _ => rfl]
    split at h
    · split at h
      · rename_i hb
        simp only [hb, if_true]
        exact wm_step hG hF h0 h1 h
      · rename_i hb
        simp only [Option.some.injEq] at h
        simp only [hb, if_false]
        rw [← h]
        exact congrArg some (wm_put i.dst _)
    · simp at h

theorem nil_of_le {a b : Mem} (h : a.length ≤ b.length) (hb : b = []) : a = [] := by
  subst hb
  exact List.length_eq_zero_iff.1 (by simpa using h)

theorem runOps_len (hG : Grows C) : ∀ (is : List VI) (s s' : St), runOps C is s = some s' → s.mem.length ≤ s'.mem.length
  | [], s, s', h => by simp [runOps] at h; rw [h]; exact Nat.le_refl _
  | i :: is, s, s', h => by
    rw [runOps_cons] at h
    split at h
    · rename_i s1 h1
      exact Nat.le_trans (one_len hG h1) (runOps_len hG is s1 s' h)
    · simp at h

theorem wm_runOps (hG : Grows C) (hF : FrameOK C) : ∀ (is : List VI) (s s' : St), s'.mem = [] → runOps C is s = some s' → runOps C is (s.withMem m) = some (s'.withMem m)
  | [], s, s', _, h => by simp [runOps] at h; rw [h]; rfl
  | i :: is, s, s', h1, h => by
    have h0 : s.mem = [] := nil_of_le (runOps_len hG _ _ _ h) h1
    rw [runOps_cons] at h ⊢
    split at h
    · rename_i s1 hh
      have hs1 : s1.mem = [] := nil_of_le (runOps_len hG _ _ _ h) h1
      rw [wm_one hG hF h0 hs1 hh]
      exact wm_runOps hG hF is s1 s' h1 h
    · simp at h

theorem loopN_len {body : St → Option (VExit × St)} (hb : ∀ s e s', body s = some (e, s') → s.mem.length ≤ s'.mem.length) : ∀ (n : Nat) (s : St) (e : VExit) (s' : St), loopN body n s = some (e, s') → s.mem.length ≤ s'.mem.length
  | 0, s, e, s', h => by simp [loopN] at h
  | n + 1, s, e, s', h => by
    simp only [loopN] at h
    split at h
    · rename_i s1 h1
      exact Nat.le_trans (hb _ _ _ h1) (loopN_len hb n s1 e s' h)
    · exact hb _ _ _ h

theorem run_len (hG : Grows C) (n : Nat) : ∀ (c : VC) (s : St) (e : VExit) (s' : St), run C n c s = some (e, s') → s.mem.length ≤ s'.mem.length := by
  intro c
  induction c with
  | skip => intro s e s' h; simp [run] at h; rw [h.2]; exact Nat.le_refl _
  | region is =>
    intro s e s' h
    simp only [run] at h
    split at h
    · rename_i h1
      simp only [Option.some.injEq, Prod.mk.injEq] at h
      rw [← h.2]; exact runOps_len hG _ _ _ h1
    · simp at h
  | drawn is ch =>
    intro s e s' h
    simp only [run] at h
    split at h
    · rename_i h1
      split at h
      · simp only [Option.some.injEq, Prod.mk.injEq] at h
        rw [← h.2]; exact runOps_len hG _ _ _ h1
      · simp at h
    · simp at h
  | seq x y ihx ihy =>
    intro s e s' h
    simp only [run] at h
    split at h
    · rename_i h1
      exact Nat.le_trans (ihx _ _ _ h1) (ihy _ _ _ h)
    · exact ihx _ _ _ h
  | cond c x y ihx ihy =>
    intro s e s' h
    simp only [run] at h
    split at h
    · exact ihx _ _ _ h
    · exact ihy _ _ _ h
    · simp at h
  | block id x ih =>
    intro s e s' h
    simp only [run] at h
    split at h
    · rename_i h1
      split at h <;> (simp only [Option.some.injEq, Prod.mk.injEq] at h; rw [← h.2]; exact ih _ _ _ h1)
    · exact ih _ _ _ h
  | loop x ih => intro s e s' h; exact loopN_len ih n s e s' h
  | exit id => intro s e s' h; simp [run] at h; rw [h.2]; exact Nat.le_refl _
  | ret => intro s e s' h; simp [run] at h; rw [h.2]; exact Nat.le_refl _
  | native k p =>
    intro s e s' h
    simp only [run] at h
    split at h
    · simp only [Option.some.injEq, Prod.mk.injEq] at h; rw [← h.2]; exact Nat.le_refl _
    · simp at h

theorem wm_loopN {body : St → Option (VExit × St)} (hb : ∀ s e s', body s = some (e, s') → s.mem.length ≤ s'.mem.length)
    (hw : ∀ s e s', s'.mem = [] → body s = some (e, s') → body (s.withMem m) = some (e, s'.withMem m)) : ∀ (n : Nat) (s : St) (e : VExit) (s' : St), s'.mem = [] → loopN body n s = some (e, s') → loopN body n (s.withMem m) = some (e, s'.withMem m)
  | 0, s, e, s', _, h => by simp [loopN] at h
  | n + 1, s, e, s', h1, h => by
    simp only [loopN] at h ⊢
    split at h
    · rename_i s1 hs1
      have hm : s1.mem = [] := nil_of_le (loopN_len hb n s1 e s' h) h1
      rw [hw _ _ _ hm hs1]
      exact wm_loopN hb hw n s1 e s' h1 h
    · rename_i hne
      rw [hw _ _ _ h1 h]
      cases e with
      | normal => exact absurd h (hne s')
      | exit i => rfl
      | ret => rfl

theorem wm_run (hG : Grows C) (hF : FrameOK C) (n : Nat) : ∀ (c : VC) (s : St) (e : VExit) (s' : St), s'.mem = [] → run C n c s = some (e, s') → run C n c (s.withMem m) = some (e, s'.withMem m) := by
  intro c
  induction c with
  | skip => intro s e s' _ h; simp [run] at h; rw [← h.1, h.2]; rfl
  | region is =>
    intro s e s' h1 h
    simp only [run] at h ⊢
    split at h
    · rename_i s1 hs1
      simp only [Option.some.injEq, Prod.mk.injEq] at h
      obtain ⟨rfl, rfl⟩ := h
      rw [wm_runOps hG hF _ _ _ h1 hs1]
    · simp at h
  | drawn is ch =>
    intro s e s' h1 h
    simp only [run] at h ⊢
    split at h
    · rename_i s1 hs1
      split at h
      · rename_i hall
        simp only [Option.some.injEq, Prod.mk.injEq] at h
        obtain ⟨rfl, rfl⟩ := h
        rw [wm_runOps hG hF _ _ _ h1 hs1]
        have : allApart (s1.withMem m) ch = allApart s1 ch := by
          unfold allApart
          simp only [wm_ev]
        simp only [this, hall, if_true]
      · simp at h
    · simp at h
  | seq x y ihx ihy =>
    intro s e s' h1 h
    simp only [run] at h ⊢
    split at h
    · rename_i s1 hs1
      have hm : s1.mem = [] := nil_of_le (run_len hG n _ _ _ _ h) h1
      rw [ihx _ _ _ hm hs1]
      exact ihy _ _ _ h1 h
    · rename_i hne
      rw [ihx _ _ _ h1 h]
      cases e with
      | normal => exact absurd h (hne s')
      | exit i => rfl
      | ret => rfl
  | cond c x y ihx ihy =>
    intro s e s' h1 h
    simp only [run, wm_ev] at h ⊢
    split at h
    · exact ihx _ _ _ h1 h
    · exact ihy _ _ _ h1 h
    · simp at h
  | block id x ih =>
    intro s e s' h1 h
    simp only [run] at h ⊢
    split at h
    · rename_i i s1 hs1
      split at h
      · rename_i hi
        simp only [Option.some.injEq, Prod.mk.injEq] at h
        obtain ⟨rfl, rfl⟩ := h
        rw [ih _ _ _ h1 hs1]
        simp only [hi, if_true]
      · rename_i hi
        simp only [Option.some.injEq, Prod.mk.injEq] at h
        obtain ⟨rfl, rfl⟩ := h
        rw [ih _ _ _ h1 hs1]
        simp only [hi, if_false]
    · rename_i hne
      rw [ih _ _ _ h1 h]
      cases e with
      | normal => rfl
      | exit i => exact absurd h (hne i s')
      | ret => rfl
  | loop x ih => intro s e s' h1 h; exact wm_loopN (run_len hG n x) ih n s e s' h1 h
  | exit id => intro s e s' _ h; simp [run] at h; rw [← h.1, h.2]; rfl
  | ret => intro s e s' _ h; simp [run] at h; rw [← h.1, h.2]; rfl
  | native k p =>
    intro s e s' _ h
    simp only [run] at h ⊢
    have eg : (List.range p).map (s.withMem m).get = (List.range p).map s.get := rfl
    rw [eg]
    split at h
    · rename_i vs hvs
      simp only [Option.some.injEq, Prod.mk.injEq] at h
      obtain ⟨rfl, rfl⟩ := h
      rfl
    · simp at h

theorem wm_resOf {r : VRes} {v : AV} (h0 : s.mem = []) (h : resOf s r = some v) : resOf (s.withMem m) r = some v := by
  cases r with
  | tmp t => exact h
  | tmpO t => exact h
  | cell t agg =>
    simp only [resOf] at h ⊢
    rw [show (s.withMem m).get t = s.get t from rfl]
    split at h
    · split at h
      · rename_i hcs
        rw [(wm_objCells (m := m) h0 hcs).1]
        exact h
      · simp at h
    · simp at h

theorem wm_resList (h0 : s.mem = []) : ∀ (rs : List VRes) (vs : List AV), resList s rs = some vs → resList (s.withMem m) rs = some vs
  | [], vs, h => h
  | r :: rs, vs, h => by
    simp only [resList] at h ⊢
    split at h
    · rename_i hv hvs
      rw [wm_resOf h0 hv, wm_resList h0 rs _ hvs]
      exact h
    · simp at h

theorem wm_result (h0 : s.mem = []) {rs : List VRes} {v : AV} (h : result s rs = some v) : result (s.withMem m) rs = some v := by
  unfold result at h ⊢
  cases hr : resList s rs with
  | none => rw [hr] at h; simp at h
  | some vs =>
    rw [hr] at h
    rw [wm_resList h0 rs vs hr]
    exact h

theorem callN_grows (T : FuncId → Option VF) : ∀ k, Grows (callN T k)
  | 0 => by intro f args m v m' h; simp [callN] at h
  | k + 1 => by
    have ih := callN_grows T k
    intro f args m v m' h
    simp only [callN] at h
    split at h
    · simp at h
    · split at h
      · split at h
        · rename_i s hrun
          split at h
          · simp only [Option.some.injEq, Prod.mk.injEq] at h
            rw [← h.2]; exact run_len ih k _ _ _ _ hrun
          · simp at h
        · rename_i s hrun
          split at h
          · simp only [Option.some.injEq, Prod.mk.injEq] at h
            rw [← h.2]; exact run_len ih k _ _ _ _ hrun
          · simp at h
        · simp at h
      · simp at h

theorem callN_frame (T : FuncId → Option VF) : ∀ k, FrameOK (callN T k)
  | 0 => by intro f args v m h; simp [callN] at h
  | k + 1 => by
    have ih := callN_frame T k
    have ig := callN_grows T k
    intro f args v m h
    simp only [callN] at h ⊢
    split at h
    · simp at h
    · rename_i vf hvf
      split at h
      · rename_i hl
        simp only [hl, if_true]
        have e : St.init args m = (St.init args []).withMem m := rfl
        rw [e]
        split at h
        · rename_i s hrun
          split at h
          · rename_i v' hres
            simp only [Option.some.injEq, Prod.mk.injEq] at h
            rw [wm_run ig ih k _ _ _ _ h.2 hrun]
            simp only
            rw [wm_result h.2 hres, ← h.1]
            rfl
          · simp at h
        · rename_i s hrun
          split at h
          · rename_i v' hres
            simp only [Option.some.injEq, Prod.mk.injEq] at h
            rw [wm_run ig ih k _ _ _ _ h.2 hrun]
            simp only
            rw [wm_result h.2 hres, ← h.1]
            rfl
          · simp at h
        · simp at h
      · simp at h

/-- THE WHOLE: what the small code computes, the program does. -/
theorem sound {P : Program} (hX : XOK P) {heap eff : FuncId → List Nat} {T : FuncId → Option VF} (hm : P.follows .mixedOrders = true) (hT : ∀ f vf, T f = some vf → trF P heap eff drawOk f = some vf) (k : Nat) : CallOK P (callN T k) :=
  callN_ok hX hT (callN_frame T) (fun _ hC hF n heap takes eff => draw_ok hm hC hF n heap takes eff) k

end
end Go.Vm
/- What a law is handed, as abstract values. -/
namespace Go.Vm

inductive PK where
  | int (k : IntKind)
  | bool
  | str

inductive CK where
  | p (k : PK)
  | slice (ks : List PK) (agg : Bool)

def PK.ok : PK → Value → Prop
  | .int k, v => ∃ n, v = .int k n ∧ k.min ≤ n ∧ n ≤ k.max
  | .bool, v => ∃ b, v = .bool b
  | .str, v => ∃ s : ByteArray, v = .string s ∧ s.size ≤ maxLen

def CK.ok (w : World) : CK → Value → Prop
  | .p k, v => k.ok v
  | .slice ps _, v => v = .slice none 0 0 ∨ ∃ a len cap, v = .slice (some a) len cap ∧ len ≤ cap ∧ cap ≤ maxLen ∧
      ∀ i, i < len → ∀ (j : Nat) (k : PK), ps[j]? = some k → ∃ u, w.cell? ((a.add (i * ps.length)).add j) = some u ∧ k.ok u

def allP : List CK → Option (List PK)
  | [] => some []
  | .p k :: rest => match allP rest with
    | some ps => some (k :: ps)
    | none => none
  | _ => none

def fieldKinds (kinds : TypeId → Option (List CK)) (P : Program) : Nat → List Field → Option (List CK)
  | _, [] => some []
  | pos, f :: fs =>
    if f.offset = pos then
      match kinds f.type with
      | some ks => if P.cellsOf f.type = ks.length then match fieldKinds kinds P (pos + ks.length) fs with
          | some r => some (ks ++ r)
          | none => none
        else none
      | none => none
    else none

def isStruct (P : Program) (t : TypeId) : Bool :=
  match P.underlying t with
  | some (.struct _) => true
  | _ => false

def kindsOf (P : Program) : Nat → TypeId → Option (List CK)
  | 0, _ => none
  | n + 1, t => match P.underlying t with
    | some (.int k) => some [.p (.int k)]
    | some .bool => some [.p .bool]
    | some .string => some [.p .str]
    | some (.slice e) => match kindsOf P n e with
      | some ks => match allP ks with
        | some ps => if P.cellsOf e = ps.length then some [.slice ps (isStruct P e)] else none
        | none => none
      | none => none
    | some (.struct fs) => match fieldKinds (kindsOf P n) P 0 fs.toList with
      | some ks => if P.cellsOf t = ks.length then some ks else none
      | none => none
    | _ => none

theorem allP_len : ∀ {ks : List CK} {ps : List PK}, allP ks = some ps → ks = ps.map .p
  | [], ps, h => by simp [allP] at h; subst h; rfl
  | .p k :: rest, ps, h => by
    simp only [allP] at h
    split at h
    · rename_i qs hq
      simp at h; subst h
      rw [allP_len hq]; rfl
    · simp at h
  | .slice _ _ :: _, ps, h => by simp [allP] at h

def AllOk (w : World) (ks : List CK) (cs : List Value) : Prop := cs.length = ks.length ∧ ∀ (i : Nat) (k : CK) (v : Value), ks[i]? = some k → cs[i]? = some v → k.ok w v

section
variable {H : Type} {enc : TypeId × Value → H} {P : Program} {w : World} {base : Nat} {spare : Nat → Bool} {held : Bool}

theorem AllOk.one {k : CK} {v : Value} (h : k.ok w v) : AllOk w [k] [v] := by
  refine ⟨rfl, fun i k' v' hk hv => ?_⟩
  match i, hk, hv with
  | 0, hk, hv =>
    simp at hk hv
    subst hk; subst hv; exact h
  | i + 1, hk, _ => simp at hk

theorem fields_ok {kinds : TypeId → Option (List CK)} {cs : List Value} (n : Nat)
    (ih : ∀ t ks cs (x : DataW H × List MemPlace), kinds t = some ks → DataW.trod enc P w base spare held n t cs = some x → AllOk w ks cs) :
    ∀ (fs : List Field) (pos : Nat) (ks : List CK), fieldKinds kinds P pos fs = some ks →
      (∀ (i : Nat) (f : Field), fs[i]? = some f → ∃ x, DataW.trod enc P w base spare held n f.type ((cs.drop f.offset).take (P.cellsOf f.type)) = some x) →
      cs.length = pos + ks.length → AllOk w ks (cs.drop pos)
  | [], pos, ks, h, _, hl => by
    simp [fieldKinds] at h
    subst h
    exact ⟨by simp at hl ⊢; omega, fun i k v hk => by simp at hk⟩
  | f :: fs, pos, ks, h, hf, hl => by
    simp only [fieldKinds] at h
    split at h
    · rename_i hpos
      split at h
      · rename_i k1 hk1
        split at h
        · rename_i hc
          split at h
          · rename_i r hr
            simp at h; subst h
            obtain ⟨x, hx⟩ := hf 0 f rfl
            have h1 := ih _ _ _ x hk1 hx
            rw [hpos, hc] at h1
            have h2 := fields_ok n ih fs (pos + k1.length) r hr (fun i g hg => hf (i + 1) g (by simpa using hg)) (by simp at hl; omega)
            refine ⟨by simp at hl ⊢; omega, fun i k v hk hv => ?_⟩
            by_cases hi : i < k1.length
            · rw [List.getElem?_append_left hi] at hk
              refine h1.2 i k v hk ?_
              rw [List.getElem?_take, if_pos hi]; exact hv
            · rw [List.getElem?_append_right (by omega)] at hk
              refine h2.2 (i - k1.length) k v hk ?_
              rw [List.getElem?_drop] at hv ⊢
              rw [← hv]; congr 1; omega
          · simp at h
        · simp at h
      · simp at h
    · simp at h

theorem trod_kinds : ∀ (m n : Nat) (t : TypeId) (ks : List CK) (cs : List Value) (x : DataW H × List MemPlace), kindsOf P m t = some ks → DataW.trod enc P w base spare held n t cs = some x → AllOk w ks cs
  | 0, n, t, ks, cs, x, h, _ => by simp [kindsOf] at h
  | m + 1, n, t, ks, cs, x, h, hx => by
    simp only [kindsOf] at h
    split at h
    · rename_i k hu
      simp at h; subst h
      obtain ⟨z, rfl, _, hw⟩ := DataW.trod_int hu hx
      simp only [Lit.wf, Bool.and_eq_true, decide_eq_true_eq] at hw
      exact .one ⟨z, rfl, hw.1, hw.2⟩
    · rename_i hu
      simp at h; subst h
      obtain ⟨b, rfl, _⟩ := DataW.trod_bool hu hx
      exact .one ⟨b, rfl⟩
    · rename_i hu
      simp at h; subst h
      obtain ⟨s, rfl, _, hs⟩ := DataW.trod_string hu hx
      exact .one ⟨s, rfl, hs⟩
    · rename_i e hu
      split at h
      · rename_i ks' hk
        split at h
        · rename_i ps hp
          split at h
          · rename_i hc
            simp at h; subst h
            have hmap := allP_len hp
            rcases DataW.trod_slice hu hx with ⟨rfl, _⟩ | ⟨a, len, cap, elems, rest, n', _, rfl, _, _, hlc, hcap, hel, hat, _⟩
            · exact .one (.inl rfl)
            · refine .one (.inr ⟨a, len, cap, rfl, hlc, hcap, fun i hi j k hj => ?_⟩)
              have h1 := hat i hi
              rw [List.getElem?_eq_getElem (by omega)] at h1
              simp only [Option.bind_eq_some_iff] at h1
              obtain ⟨ci, h2, h3⟩ := h1
              obtain ⟨_, hl, hcell⟩ := World.cells?_some h2
              have h4 := trod_kinds m n' e ks' ci _ hk h3
              have hjl : j < ps.length := (List.getElem?_eq_some_iff.1 hj).1
              have h5 := hcell j (by omega)
              rw [List.getElem?_eq_getElem (by omega)] at h5
              rw [hc] at h5
              refine ⟨_, h5, ?_⟩
              have := h4.2 j (.p k) ci[j] (by rw [hmap]; simp [hj]) (List.getElem?_eq_getElem _)
              exact this
          · simp at h
        · simp at h
      · simp at h
    · rename_i fs hu
      split at h
      · rename_i ks' hk
        split at h
        · rename_i hc
          simp at h; subst h
          obtain ⟨xs, n', _, _, hl, hxl, hf⟩ := DataW.trod_struct hu hx
          have := fields_ok (enc := enc) (w := w) (base := base) (spare := spare) (held := held) (cs := cs) n' (fun t ks cs x h1 h2 => trod_kinds m n' t ks cs x h1 h2) fs.toList 0 ks' hk (fun i f hif => by
            have h1 := hf i f (by simpa using hif)
            have : i < xs.length := by rw [hxl]; have := (List.getElem?_eq_some_iff.1 hif).1; simpa using this
            rw [List.getElem?_eq_getElem this] at h1
            exact ⟨_, h1⟩) (by omega)
          simpa using this
        · simp at h
      · simp at h
    · simp at h

/-! ### the abstract values -/

def PK.has : PK → AV → Prop
  | .int k, v => ∃ n, v = .int k n ∧ k.min ≤ n ∧ n ≤ k.max
  | .bool, v => ∃ b, v = .bool b
  | .str, v => ∃ s : List UInt8, v = .str s ∧ s.length ≤ maxLen

def mkEl (agg : Bool) (cs : List AV) : AV := if agg then .agg cs else cs.headD .undef

/-- The cells of an element. -/
def ElHas (ps : List PK) (cs : List AV) : Prop := cs.length = ps.length ∧ ∀ (i : Nat) (k : PK) (c : AV), ps[i]? = some k → cs[i]? = some c → k.has c

def CK.has : CK → AV → Prop
  | .p k, v => k.has v
  | .slice ps agg, v => ∃ nn xs, v = .vec none nn xs ∧ (nn = false → xs = []) ∧ xs.length ≤ maxLen ∧ ∀ x ∈ xs, ∃ cs, x = mkEl agg cs ∧ ElHas ps cs

def scal : Value → AV
  | .int k n => .int k n
  | .bool b => .bool b
  | .string s => .str s.data.toList
  | _ => .undef

theorem PK.scal_ok {k : PK} {v : Value} (h : k.ok v) (G : Gh) (w : World) : k.has (scal v) ∧ Rep G w (scal v) v := by
  cases k with
  | int k => obtain ⟨n, rfl, h1, h2⟩ := h; exact ⟨⟨n, rfl, h1, h2⟩, .int k n⟩
  | bool => obtain ⟨b, rfl⟩ := h; exact ⟨⟨b, rfl⟩, .bool b⟩
  | str => obtain ⟨s, rfl, h1⟩ := h; exact ⟨⟨_, rfl, by simpa using h1⟩, .str s⟩

def spotless (v : Value) : Prop := ∀ a len cap, v = .slice (some a) len cap → a.spot = none

def allExt : Gh := { role := fun _ => (.ext, none), mb := fun _ => none, lb := fun _ _ => none }

theorem flat_mk {c : Nat} (agg : Bool) (ha : agg = false → c = 1) (f : Nat → AV) (hs : ∀ p, (f p).cells = [f p]) : ∀ len : Nat,
    flat ((List.range len).map fun i => mkEl agg ((List.range c).map fun j => f (i * c + j))) = (List.range (len * c)).map f
  | 0 => by simp [flat]
  | len + 1 => by
    rw [List.range_succ, List.map_append, flat_append, flat_mk agg ha f hs len, Nat.succ_mul, List.range_add, List.map_append]
    congr 1
    simp only [List.map_cons, List.map_nil, flat, List.flatMap_cons, List.flatMap_nil, List.append_nil, List.map_map]
    cases agg with
    | true => simp [mkEl, AV.cells, Function.comp_def]
    | false =>
      have := ha rfl
      subst this
      simp [mkEl, hs, Function.comp_def]

theorem scal_cells (v : Value) : (scal v).cells = [scal v] := by cases v <;> rfl

theorem CK.rep {k : CK} {v : Value} (h : k.ok w v) (hs : spotless v) (hagg : ∀ ps, k = .slice ps false → ps.length = 1) : ∃ a, k.has a ∧ Rep allExt w a v := by
  cases k with
  | p k => exact ⟨scal v, (PK.scal_ok h allExt w).1, (PK.scal_ok h allExt w).2⟩
  | slice ps agg =>
    rcases h with rfl | ⟨a, len, cap, rfl, hlc, hcap, hel⟩
    · exact ⟨.vec none false [], ⟨false, [], rfl, fun _ => rfl, by simp, by simp⟩, .nilvec none⟩
    · have hspot := hs a len cap rfl
      obtain ⟨b, off, sp⟩ := a
      simp only at hspot
      subst hspot
      have hadd : ∀ i j : Nat, ((⟨b, off, none⟩ : Addr).add (i * ps.length)).add j = ⟨b, off + (i * ps.length + j), none⟩ := by
        intro i j; rw [add_off, add_off]; congr 1; omega
      let val : Nat → Value := fun p => (w.cell? ⟨b, off + p, none⟩).getD undef
      have hval : ∀ i, i < len → ∀ (j : Nat) (k : PK), ps[j]? = some k → w.cell? ⟨b, off + (i * ps.length + j), none⟩ = some (val (i * ps.length + j)) ∧ k.ok (val (i * ps.length + j)) := by
        intro i hi j k hj
        obtain ⟨u, h1, h2⟩ := hel i hi j k hj
        rw [hadd] at h1
        have : val (i * ps.length + j) = u := by simp [val, h1]
        rw [this]; exact ⟨h1, h2⟩
      let xs : List AV := (List.range len).map fun i => mkEl agg ((List.range ps.length).map fun j => scal (val (i * ps.length + j)))
      have hxl : xs.length = len := by simp [xs]
      have hfl : flat xs = (List.range (len * ps.length)).map fun p => scal (val p) :=
        flat_mk agg (fun e => hagg ps (by rw [e])) (fun p => scal (val p)) (fun p => scal_cells _) len
      have hsplit : ∀ p, p < len * ps.length → w.cell? ⟨b, off + p, none⟩ = some (val p) ∧ ∃ k : PK, k.ok (val p) := by
        intro p hp
        have hc0 : 0 < ps.length := Nat.pos_of_ne_zero (by intro e; rw [e] at hp; simp at hp)
        have hi : p / ps.length < len := Nat.div_lt_of_lt_mul (by rw [Nat.mul_comm]; exact hp)
        have hj : p % ps.length < ps.length := Nat.mod_lt _ hc0
        have he : p / ps.length * ps.length + p % ps.length = p := by rw [Nat.mul_comm]; exact Nat.div_add_mod p ps.length
        have := hval _ hi _ _ (List.getElem?_eq_getElem hj)
        rw [he] at this
        exact ⟨this.1, _, this.2⟩
      refine ⟨.vec none true xs, ⟨true, xs, rfl, by simp, by rw [hxl]; omega, fun x hx => ?_⟩, ?_⟩
      · obtain ⟨i, hi, rfl⟩ := List.mem_map.1 hx
        have hi : i < len := by simpa using hi
        refine ⟨_, rfl, by simp, fun j k c hk hc => ?_⟩
        simp only [List.getElem?_map, Option.map_eq_some_iff] at hc
        obtain ⟨j', hj', rfl⟩ := hc
        have : j' = j := by
          have hjl := (List.getElem?_eq_some_iff.1 hk).1
          rw [List.getElem?_range hjl] at hj'
          exact (Option.some.inj hj').symm
        subst this
        exact (PK.scal_ok (hval i hi j' k hk).2 allExt w).1
      · have := Rep.vec (G := allExt) (w := w) none xs b off cap ps.length val (by rw [hxl]; exact hlc)
          (fun x hx => by
            obtain ⟨i, _, rfl⟩ := List.mem_map.1 hx
            cases agg with
            | true => simp [mkEl, AV.cells]
            | false =>
              have h1 := hagg ps rfl
              simp [mkEl, h1, scal_cells])
          (fun j hj => by
            rw [hfl] at hj
            exact ⟨by simp [stable, allExt], (hsplit j (by simpa using hj)).1⟩)
          (fun j hj => by
            have hj2 : j < len * ps.length := by rw [hfl] at hj; simpa using hj
            have e : (flat xs)[j] = scal (val j) := by simp [hfl]
            rw [e]
            obtain ⟨k, hk⟩ := (hsplit j hj2).2
            exact (PK.scal_ok hk allExt w).2)
        rw [hxl] at this
        exact this

end
end Go.Vm
/- A law that the small code answers with true, as its row says it. -/
namespace Go.Vm
open Go.ChangeShapes Go.RowKit

/-- An argument of a known shape. -/
def ArgHas (agg : Bool) (ks : List CK) (a : AV) : Prop := ∃ cs, a = mkEl agg cs ∧ cs.length = ks.length ∧ ∀ (i : Nat) (k : CK) (c : AV), ks[i]? = some k → cs[i]? = some c → k.has c

def ArgsHave : List (Bool × List CK) → List AV → Prop
  | [], [] => True
  | p :: ps, a :: as => ArgHas p.1 p.2 a ∧ ArgsHave ps as
  | _, _ => False

def aggOk : List CK → Bool
  | [] => true
  | .slice ps false :: rest => (ps.length == 1) && aggOk rest
  | _ :: rest => aggOk rest

def shapesOf (P : Program) (ts : List TypeId) : List (Option (Bool × List CK)) := ts.map fun t => (kindsOf P 30 t).map fun ks => (isStruct P t, ks)

def CK.closed : CK → Bool
  | .slice ps false => ps.length == 1
  | _ => true

def shapeOk (p : Bool × List CK) : Bool := p.2.all CK.closed && (p.1 || p.2.length == 1)

theorem CK.notOwn {k : CK} {a : AV} (h : k.has a) : notOwn a := by
  cases k with
  | p k =>
    cases k with
    | int k => obtain ⟨_, rfl, _⟩ := h; trivial
    | bool => obtain ⟨_, rfl⟩ := h; trivial
    | str => obtain ⟨_, rfl, _⟩ := h; trivial
  | slice ps agg => obtain ⟨_, _, rfl, _⟩ := h; trivial

section
variable {H : Type} {enc : TypeId × Value → H} {P : Program} {w : World}

theorem spotless_cell {base : Nat} {t : TypeId} {v : Value} (h : Cell.okWide P w .any base t v) : spotless v := by
  rintro a len cap rfl
  cases hu : P.underlying t with
  | none => simp [Cell.okWide, Cell.ok, hu] at h
  | some d =>
    cases d <;> simp [Cell.okWide, Cell.ok, hu] at h
    exact h.2.2.2.1

theorem cells_of_scalar {t : TypeId} {base : Nat} {v : Value} (hns : isStruct P t = false) {m : Nat} {ks : List CK} (hk : kindsOf P m t = some ks) (hok : Value.okWide P w .any base t v) : v.cells = #[v] ∧ spotless v := by
  have hc : Cell.okWide P w .any base t v := by
    unfold Value.okWide at hok
    split at hok
    · rename_i fs hu
      simp [isStruct, hu] at hns
    · rename_i n e hu
      cases m with
      | zero => simp [kindsOf] at hk
      | succ m => simp [kindsOf, hu] at hk
    · exact hok
  refine ⟨?_, spotless_cell hc⟩
  cases v with
  | agg vs =>
    exfalso
    unfold Cell.okWide at hc
    split at hc <;> first | (rename_i h1 h2; cases h2; done) | skip
    unfold Cell.ok at hc
    split at hc <;> first | (rename_i h1 h2; cases h2; done) | exact hc
  | _ => rfl

theorem arg_rep {t : TypeId} {base m n : Nat} {ks : List CK} {v : Value} {x : DataW H × List MemPlace} {spare : Nat → Bool} {held : Bool} (hk : kindsOf P m t = some ks) (hsh : shapeOk (isStruct P t, ks) = true)
    (hok : Value.okWide P w .any base t v) (ht : DataW.trod enc P w 0 spare held n t v.cells.toList = some x) : ∃ a, ArgHas (isStruct P t) ks a ∧ Rep allExt w a v ∧ notOwn a := by
  have hall := trod_kinds m n t ks _ x hk ht
  simp only [shapeOk, Bool.and_eq_true] at hsh
  have hcl : ∀ k ∈ ks, ∀ ps, k = .slice ps false → ps.length = 1 := by
    rintro k hk' ps rfl
    have := List.all_eq_true.1 hsh.1 _ hk'
    simpa [CK.closed] using this
  cases hst : isStruct P t with
  | false =>
    rw [hst] at hsh
    obtain ⟨hcv, hsp⟩ := cells_of_scalar hst hk hok
    have hl1 : ks.length = 1 := by simpa using hsh.2
    rw [hcv] at hall
    obtain ⟨k, rfl⟩ := List.length_eq_one_iff.1 hl1
    obtain ⟨a, h1, h2⟩ := CK.rep (hall.2 0 k v rfl rfl) hsp (hcl k (by simp))
    refine ⟨a, ⟨[a], rfl, rfl, fun i k' c hk' hc => ?_⟩, h2, CK.notOwn h1⟩
    match i, hk', hc with
    | 0, hk', hc => simp at hk' hc; subst hk'; subst hc; exact h1
    | i + 1, hk', _ => simp at hk'
  | true =>
    unfold Value.okWide at hok
    split at hok
    · rename_i fs hu
      obtain ⟨cs, rfl, _, _, _, _, hrow⟩ := hok
      have hcc : (Value.agg cs).cells = cs := rfl
      rw [hcc] at hall
      have each : ∀ (i : Nat) (h : i < ks.length), ∃ a, (ks[i]).has a ∧ Rep allExt w a (cs.toList[i]'(by rw [hall.1]; exact h)) := by
        intro i h
        have hi : i < cs.toList.length := by rw [hall.1]; exact h
        have h1 := hall.2 i ks[i] cs.toList[i] (List.getElem?_eq_getElem h) (List.getElem?_eq_getElem hi)
        obtain ⟨u, _, hu2⟩ := hrow i cs.toList[i] (by
          have : i < cs.size := by simpa using hi
          simp [this])
        exact CK.rep h1 (spotless_cell hu2) (hcl _ (List.getElem_mem h))
      let f : Nat → AV := fun i => if h : i < ks.length then Classical.choose (each i h) else .undef
      have hf : ∀ i (h : i < ks.length), (ks[i]).has (f i) ∧ Rep allExt w (f i) (cs.toList[i]'(by rw [hall.1]; exact h)) := by
        intro i h
        simp only [f, h, dif_pos]
        exact Classical.choose_spec (each i h)
      refine ⟨.agg ((List.range ks.length).map f), ⟨(List.range ks.length).map f, rfl, by simp, fun i k c hk' hc => ?_⟩, .agg _ _ (by have := hall.1; simp at this ⊢; omega) fun i h1 h2 => ?_, trivial⟩
      · obtain ⟨hi, rfl⟩ := List.getElem?_eq_some_iff.1 hk'
        simp [hi] at hc
        subst hc
        exact (hf i hi).1
      · have hi : i < ks.length := by simpa using h1
        have := (hf i hi).2
        simpa using this
    · rename_i n' e hu
      simp [isStruct, hu] at hst
    · rename_i h1 h2
      unfold isStruct at hst
      split at hst
      · rename_i fs hu; exact absurd hu (h1 fs)
      · simp at hst

theorem args_rep : ∀ (ts : List TypeId) (vs : List Value) (ds : List (DataW H)) (p : List MemPlace) (pks : List (Bool × List CK)) (base : Nat),
    DataW.TrodAll enc P w 0 (fun _ => true) true ts vs ds p → shapesOf P ts = pks.map some → pks.all shapeOk = true → (∀ (j : Nat) t v, ts[j]? = some t → vs[j]? = some v → Value.okWide P w .any base t v) →
    ∃ as, ArgsHave pks as ∧ as.length = vs.length ∧ ∀ (i : Nat) (h1 : i < as.length) (h2 : i < vs.length), Rep allExt w as[i] vs[i] ∧ notOwn as[i]
  | [], vs, ds, p, pks, base, h, hs, _, _ => by
    obtain ⟨rfl, rfl, rfl⟩ := trodAll_nil h
    cases pks with
    | nil => exact ⟨[], trivial, rfl, fun i h1 => by simp at h1⟩
    | cons _ _ => simp [shapesOf] at hs
  | t :: ts, vs, ds, p, pks, base, h, hs, hok, hval => by
    obtain ⟨v, vs', d, ds', a, b, rfl, rfl, rfl, ⟨n, hx⟩, h2⟩ := trodAll_cons h
    cases pks with
    | nil => simp [shapesOf] at hs
    | cons q pks =>
      simp only [shapesOf, List.map_cons, List.cons.injEq, Option.map_eq_some_iff] at hs
      obtain ⟨⟨ks, hk, rfl⟩, hs2⟩ := hs
      simp only [List.all_cons, Bool.and_eq_true] at hok
      obtain ⟨x, hx1, hx2, hx3⟩ := arg_rep hk hok.1 (hval 0 t v rfl rfl) hx
      obtain ⟨as, k1, k2, k3⟩ := args_rep ts vs' ds' b pks base h2 hs2 hok.2 (fun j t' v' ht hv => hval (j + 1) t' v' (by simpa using ht) (by simpa using hv))
      refine ⟨x :: as, ⟨hx1, k1⟩, by simp [k2], fun i h1 h2 => ?_⟩
      cases i with
      | zero => exact ⟨hx2, hx3⟩
      | succ i => exact k3 i (by simpa using h1) (by simpa using h2)

/-- The tables hold what they should. -/
def GlobOK (P : Program) (w : World) : Prop := GlobF P allExt w

theorem init_inv {as : List AV} {args : Array Value} (hgl : GlobOK P w) (hl : as.length = args.toList.length) (h : ∀ (i : Nat) (h1 : i < as.length) (h2 : i < args.toList.length), Rep allExt w as[i] args.toList[i] ∧ notOwn as[i]) :
    Inv P allExt w allExt w (St.init as []) (fun t => args.getD t undef) where
  os := rfl
  tape := rfl
  output := rfl
  size := Nat.le_refl _
  tmp t := by
    by_cases ht : t < as.length
    · have h2 : t < args.toList.length := by rw [← hl]; exact ht
      have := (h t ht h2).1
      have e1 : (St.init as []).tmp t = as[t] := by simp [St.init, ht]
      have e2 : args.getD t undef = args.toList[t] := by
        have h3 : t < args.size := by simpa using h2
        simp [h3]
      rw [e1, e2]
      exact .of this
    · have e1 : (St.init as []).tmp t = .undef := by simp [St.init, List.getD, List.getElem?_eq_none (Nat.le_of_not_lt ht)]
      rw [e1]; exact .of (.undef _)
  own t := by
    refine OwnAt.of_notOwn ?_
    by_cases ht : t < as.length
    · have h2 : t < args.toList.length := by rw [← hl]; exact ht
      have e1 : (St.init as []).tmp t = as[t] := by simp [St.init, ht]
      rw [e1]; exact (h t ht h2).2
    · have e1 : (St.init as []).tmp t = .undef := by simp [St.init, List.getD, List.getElem?_eq_none (Nat.le_of_not_lt ht)]
      rw [e1]; trivial
  obj x o e := by
    cases x with
    | loc t k => simp [St.obj, St.init] at e
    | mem i => simp [St.obj, St.init] at e
  ext b hb e := ⟨rfl, rfl⟩
  le := .refl _ _
  mlen i _ := rfl
  llen t k _ := rfl
  glob := hgl

theorem trodAll_stays {W W' : World} (hl : laidOutB P = true) (hb : Below W.heap.size W W') (sp : Nat → Bool) : ∀ (ts : List TypeId) (vs : List Value) (ds : List (DataW H)) (p : List MemPlace),
    (∀ t ∈ ts, P.readableRec t = true ∧ t < P.types.size) → DataW.TrodAll enc P W 0 (fun _ => true) true ts vs ds p → (∀ x ∈ p, x.block < W.heap.size) → (∀ x ∈ p, sp x.block = true) → DataW.TrodAll enc P W' 0 sp true ts vs ds p
  | [], vs, ds, p, _, h, _, _ => by
    obtain ⟨rfl, rfl, rfl⟩ := trodAll_nil h
    exact trodAll_mk0
  | t :: ts, vs, ds, p, hr, h, hlt, hsp => by
    obtain ⟨v, vs', d, ds', a, b, rfl, rfl, rfl, h1, h2⟩ := trodAll_cons h
    refine ⟨a, b, ?_, trodAll_stays hl hb sp ts vs' ds' b (fun t ht => hr t (by simp [ht])) h2 (fun x hx => hlt x (by simp [hx])) (fun x hx => hsp x (by simp [hx])), rfl⟩
    exact WideElems.Trod_stays hl (hr t (by simp)).1 (hr t (by simp)).2 h1 (fun x hx => hb.same (hlt x (by simp [hx]))) (fun x hx => hsp x (by simp [hx]))

/-- From a law of the small code to the row's contract. -/
theorem law_contract {fn : Func} {f : FuncId} {C : CallF} {s : ChangeSpec} {pks : List (Bool × List CK)} {bt : TypeId} (hl : laidOutB P = true) (hC : CallOK P C) (hvars : s.vars = [])
    (hres : fn.resultTypes = #[bt]) (hbt : P.underlying bt = some .bool)
    (hs : ∀ (H : Type) (ds : List (DataW H)), ds.length = pks.length → (s.fn H ds).results = [.lit (.bool true)] ∧ (s.fn H ds).args = ds ∧ (s.fn H ds).vars = [])
    (hkinds : shapesOf P fn.params.toList = pks.map some) (hok : pks.all shapeOk = true) (hread : ∀ t ∈ fn.params.toList, P.readableRec t = true ∧ t < P.types.size)
    {W : World} {base : Nat} {args : Array Value} {ds gs : List (DataW H)} {before : List MemPlace}
    (hlaw : ∀ as, ArgsHave pks as → ∃ m, C f as [] = some (.bool true, m))
    (hval : ∀ (j : Nat) t v, fn.params[j]? = some t → args[j]? = some v → Value.okWide P W .any base t v)
    (hW : DataW.Whole enc P fn.params.toList s.vars false W args.toList ds gs before) (hgl : GlobOK P W) :
    Calls P f args W fun e W' => ∃ v, e = .returned v ∧ s.post enc P fn false true false false W args v W' := by
  have hW' := hW
  obtain ⟨p, q, hA, hV, rfl, hfz, hnd⟩ := hW
  rw [hvars] at hV
  obtain ⟨rfl, rfl⟩ := trodVars_none hV
  simp only [List.append_nil] at hW' hfz
  obtain ⟨as, h1, h2, h3⟩ := args_rep fn.params.toList args.toList ds p pks base hA hkinds hok (fun j t v ht hv => hval j t v (by simpa using ht) (by simpa using hv))
  obtain ⟨m, hm⟩ := hlaw as h1
  have hdl : ds.length = pks.length := by
    have := (trodAll_length hA).2
    rw [this, ← List.length_map (f := some) (as := pks), ← hkinds]
    simp [shapesOf]
  refine ((hC f as [] _ _ hm).2.2 allExt W args (by simpa using h2) (init_inv hgl h2 h3) rfl).mono fun e W' hp => ?_
  obtain ⟨u, G', rfl, hinv⟩ := hp
  have hu : u = .bool true := (hinv.tmp 0).bool_inv
  subst hu
  have hb : Below W.heap.size W W' := ⟨hinv.os, hinv.tape, hinv.output, hinv.size, fun k hk => (hinv.ext k hk rfl).1⟩
  obtain ⟨r1, r2, r3⟩ := hs H ds hdl
  have hlt : ∀ x ∈ p, x.block < W.heap.size := fun x hx => by simpa using hW'.lt x hx
  refine ⟨_, rfl, ds, [], p, [], p, [], hW', ?_, ?_, ?_, World.keptBut_mono (fun x hx => hx.elim) (hb.frame fun _ => False), fun h => by cases h⟩
  · rw [List.append_nil, r1, hres]
    exact trodAll_mk1 (shut_bool hbt true)
  · rw [List.append_nil, r2]
    exact trodAll_stays hl hb _ _ _ _ _ hread hA hlt (fun x hx => by simpa using hlt x hx)
  · rw [List.append_nil, r3, hvars]
    rfl

end
end Go.Vm
