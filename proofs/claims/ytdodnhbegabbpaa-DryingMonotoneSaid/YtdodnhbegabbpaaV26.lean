/- A region that draws its order comes to what the text's order comes to. -/
import Derived.Test.YtdodnhbegabbpaaV25
import Derived.Test.YtdodnhbegabbpaaV21
namespace Go.Vm

section
variable {s s1 s2 : St} {t : Nat} {u : AV} {C : CallF}

theorem sets_put (es : List (Nat × AV)) (d : Option Nat) (v : AV) (s : St) : (s.sets es).put d v = s.sets (es ++ d.toList.map fun d => (d, v)) := by
  cases d with
  | none => simp [St.put]
  | some d => simp [St.put, St.sets]

/-- A quiet operation asks the slots that it names, and writes slots alone. -/
theorem quiet_one {i : VI} (hq : quiet i.op = true) {s s' : St} (h : one C i s = some s') :
    ∃ ds : List (Nat × AV), (∀ p ∈ ds, p.1 ∈ mods i) ∧ s' = s.sets ds ∧ ∀ s2, Agree (slots i) s s2 → one C i s2 = some (s2.sets ds) := by
  have hstep : ∀ {s s' : St}, step C i s = some s' → ∃ ds : List (Nat × AV), (∀ p ∈ ds, p.1 ∈ mods i) ∧ s' = s.sets ds ∧ ∀ s2, Agree (slots i) s s2 → step C i s2 = some (s2.sets ds) := by
    intro s s' h
    by_cases hc : ∀ f args, i.op ≠ .call f args ∧ i.op ≠ .callP f args
    · rw [step_exec hc] at h
      split at h
      · rename_i v s1 he
        simp only [Option.some.injEq] at h
        obtain ⟨es, h1, h2, h3⟩ := quiet_exec hq (fun f args => (hc f args).2) he
        refine ⟨es ++ i.dst.toList.map fun d => (d, v), ?_, by rw [← h, h2, sets_put], fun s2 ha => ?_⟩
        · intro p hp
          rcases List.mem_append.1 hp with hp | hp
          · exact List.mem_append.2 (.inr (h1 p hp))
          · obtain ⟨d, hd, rfl⟩ := List.mem_map.1 hp
            exact List.mem_append.2 (.inl hd)
        · rw [step_exec hc, h3 s2 (fun t ht => ha t (by simp only [slots, List.mem_append]; exact .inr ht))]
          exact congrArg some (sets_put es i.dst v s2)
      · simp at h
    · have hop : ∃ f args, i.op = .callP f args := by
        refine Classical.byContradiction fun hn => hc fun f args => ⟨fun e => ?_, fun e => hn ⟨f, args, e⟩⟩
        rw [e] at hq
        simp [quiet, isPure] at hq
      obtain ⟨f, args, hop⟩ := hop
      unfold step at h
      rw [hop] at h
      simp only at h
      split at h
      · rename_i g caps hf
        split at h
        · rename_i hn
          split at h
          · rename_i v hCv
            simp only [Option.some.injEq] at h
            refine ⟨i.dst.toList.map fun d => (d, v), ?_, ?_, fun s2 ha => ?_⟩
            · intro p hp
              obtain ⟨d, hd, rfl⟩ := List.mem_map.1 hp
              exact List.mem_append.2 (.inl hd)
            · rw [← h]; exact sets_put [] i.dst v s
            · have hsub : ∀ n ∈ tmpsO f ++ tmpsL args, n ∈ slots i := fun n hn => by
                simp only [slots, List.mem_append]
                right
                rw [hop]
                exact hn
              have ef : s2.ev f = s.ev f := ha.ev fun n hn => hsub n (List.mem_append.2 (.inl hn))
              have ex : ∀ x ∈ args, s2.ev x = s.ev x := fun x hx => ha.ev fun n hn => hsub n (List.mem_append.2 (.inr (List.mem_flatMap.2 ⟨x, hx, hn⟩)))
              have e2 : (args.all fun x => (s2.ev x).nl) = (args.all fun x => (s.ev x).nl) := by
                rw [Bool.eq_iff_iff]
                simp only [List.all_eq_true]
                constructor <;> intro k x hx'
                · rw [← ex x hx']; exact k x hx'
                · rw [ex x hx']; exact k x hx'
              have e3 : (args.map fun x => (s2.ev x).view) = (args.map fun x => (s.ev x).view) := List.map_congr_left fun x hx' => by rw [ex x hx']
              unfold step
              rw [hop]
              simp only [ef, hf, e2, hn, if_true, e3, hCv]
              exact congrArg some (sets_put [] i.dst v s2)
          · simp at h
        · simp at h
      · simp at h
  unfold one at h
  cases hg : i.guard with
  | none =>
    rw [hg] at h
    obtain ⟨ds, h1, h2, h3⟩ := hstep h
    exact ⟨ds, h1, h2, fun s2 ha => by unfold one; rw [hg]; exact h3 s2 ha⟩
  | some g =>
    obtain ⟨j, want⟩ := g
    rw [hg] at h
    simp only at h
    have hj : j ∈ slots i := by simp [slots, hg]
    split at h
    · rename_i b hb
      split at h
      · rename_i hbw
        obtain ⟨ds, h1, h2, h3⟩ := hstep h
        refine ⟨ds, h1, h2, fun s2 ha => ?_⟩
        unfold one
        rw [hg]
        simp only [show s2.get j = s.get j from ha j hj, hb, hbw, if_true]
        exact h3 s2 ha
      · rename_i hbw
        simp only [Option.some.injEq] at h
        refine ⟨i.dst.toList.map fun d => (d, .tup []), ?_, by rw [← h]; exact sets_put [] i.dst _ s, fun s2 ha => ?_⟩
        · intro p hp
          obtain ⟨d, hd, rfl⟩ := List.mem_map.1 hp
          exact List.mem_append.2 (.inl hd)
        · unfold one
          rw [hg]
          simp only [show s2.get j = s.get j from ha j hj, hb, hbw, if_false]
          exact congrArg some (sets_put [] i.dst _ s2)
    · simp at h

/-- A load: it asks the objects, too. -/
theorem load_one {i : VI} (hq : isLoad i.op = true) {s s' : St} (h : one C i s = some s') :
    ∃ ds : List (Nat × AV), (∀ p ∈ ds, p.1 ∈ mods i) ∧ s' = s.sets ds ∧ ∀ s2, Agree (slots i) s s2 → (∀ x o, s.obj x = some o → s2.obj x = some o) → one C i s2 = some (s2.sets ds) := by
  cases hop : i.op with
  | load agg a =>
    have hc : ∀ f args, i.op ≠ .call f args ∧ i.op ≠ .callP f args := fun f args => by rw [hop]; simp
    have hsub : ∀ n ∈ tmpsO a, n ∈ slots i := fun n hn => by simp only [slots, List.mem_append]; right; rw [hop]; exact hn
    have hstep : ∀ {s s' : St}, step C i s = some s' → ∃ ds : List (Nat × AV), (∀ p ∈ ds, p.1 ∈ mods i) ∧ s' = s.sets ds ∧ ∀ s2, Agree (slots i) s s2 → (∀ x o, s.obj x = some o → s2.obj x = some o) → step C i s2 = some (s2.sets ds) := by
      intro s s' h
      rw [step_exec hc, hop] at h
      split at h
      · rename_i v s1 he
        simp only [Option.some.injEq] at h
        have key : s1 = s ∧ ∀ s2, Agree (slots i) s s2 → (∀ x o, s.obj x = some o → s2.obj x = some o) → exec (i.dst.getD 0) (.load agg a) s2 = some (v, s2) := by
          simp only [exec] at he ⊢
          split at he
          · rename_i cs o hv
            split at he
            · rename_i r hp
              simp only [Option.some.injEq, Prod.mk.injEq] at he
              obtain ⟨rfl, rfl⟩ := he
              refine ⟨rfl, fun s2 ha ho => ?_⟩
              rw [ha.ev hsub, hv]
              simp only [hp]
            · simp at he
          · rename_i ix o hv
            split at he
            · rename_i cs hcs
              split at he
              · rename_i r hp
                simp only [Option.some.injEq, Prod.mk.injEq] at he
                obtain ⟨rfl, rfl⟩ := he
                refine ⟨rfl, fun s2 ha ho => ?_⟩
                rw [ha.ev hsub, hv]
                have : s2.obj ix = s.obj ix := by
                  cases hobj : s.obj ix with
                  | none => rw [hobj] at hcs; simp [objCells] at hcs
                  | some ob => exact ho ix ob hobj
                simp only [this, hcs, hp]
              · simp at he
            · simp at he
          · simp at he
        obtain ⟨rfl, k2⟩ := key
        refine ⟨i.dst.toList.map fun d => (d, v), ?_, by rw [← h]; exact sets_put [] i.dst v s1, fun s2 ha ho => ?_⟩
        · intro p hp
          obtain ⟨d, hd, rfl⟩ := List.mem_map.1 hp
          exact List.mem_append.2 (.inl hd)
        · rw [step_exec hc, hop, k2 s2 ha ho]
          exact congrArg some (sets_put [] i.dst v s2)
      · simp at h
    unfold one at h
    cases hg : i.guard with
    | none =>
      rw [hg] at h
      obtain ⟨ds, h1, h2, h3⟩ := hstep h
      exact ⟨ds, h1, h2, fun s2 ha ho => by unfold one; rw [hg]; exact h3 s2 ha ho⟩
    | some g =>
      obtain ⟨j, want⟩ := g
      rw [hg] at h
      simp only at h
      have hj : j ∈ slots i := by simp [slots, hg]
      split at h
      · rename_i b hb
        split at h
        · rename_i hbw
          obtain ⟨ds, h1, h2, h3⟩ := hstep h
          refine ⟨ds, h1, h2, fun s2 ha ho => ?_⟩
          unfold one
          rw [hg]
          simp only [show s2.get j = s.get j from ha j hj, hb, hbw, if_true]
          exact h3 s2 ha ho
        · rename_i hbw
          simp only [Option.some.injEq] at h
          refine ⟨i.dst.toList.map fun d => (d, .tup []), ?_, by rw [← h]; exact sets_put [] i.dst _ s, fun s2 ha ho => ?_⟩
          · intro p hp
            obtain ⟨d, hd, rfl⟩ := List.mem_map.1 hp
            exact List.mem_append.2 (.inl hd)
          · unfold one
            rw [hg]
            simp only [show s2.get j = s.get j from ha j hj, hb, hbw, if_false]
            exact congrArg some (sets_put [] i.dst _ s2)
      · simp at h
  | _ => rw [hop] at hq; simp [isLoad] at hq

theorem put_obj (s : St) (d : Option Nat) (v : AV) (x : Ix) : (s.put d v).obj x = s.obj x := by
  cases d with
  | none => rfl
  | some d => exact setO_obj s x

theorem addLoc_obj (s : St) (d : Nat) (lo : LObj) (x : Ix) (o : LObj) (h : s.obj x = some o) : ({ s with loc := fun j => if j = d then s.loc d ++ [lo] else s.loc j } : St).obj x = some o := by
  cases x with
  | mem i => exact h
  | loc t k =>
    simp only [St.obj] at h ⊢
    split
    · rename_i e; subst e
      obtain ⟨hk, _⟩ := List.getElem?_eq_some_iff.1 h
      rw [List.getElem?_append_left hk]; exact h
    · exact h

/-- Objects that are there stay. -/
theorem keeps_one {i : VI} (hk : keepsObj i.op = true) {s s' : St} (h : one C i s = some s') : ∀ x o, s.obj x = some o → s'.obj x = some o := by
  have hc : ∀ f args, i.op ≠ .call f args ∧ i.op ≠ .callP f args := fun f args => by
    constructor <;> (intro e; rw [e] at hk; simp [keepsObj] at hk)
  have hstep : ∀ {s s' : St}, step C i s = some s' → ∀ x o, s.obj x = some o → s'.obj x = some o := by
    intro s s' h x o ho
    rw [step_exec hc] at h
    split at h
    · rename_i v s1 he
      simp only [Option.some.injEq] at h
      rw [← h, put_obj]
      cases hop : i.op with
      | load agg a =>
        rw [hop] at he
        simp only [exec] at he
        split at he
        · split at he <;> simp at he
          rw [← he.2]; exact ho
        · split at he
          · split at he <;> simp at he
            rw [← he.2]; exact ho
          · simp at he
        · simp at he
      | alloc hp cs =>
        rw [hop] at he hk
        cases hp with
        | true => simp [keepsObj] at hk
        | false =>
          simp only [exec, Bool.false_eq_true, if_false, Option.some.injEq, Prod.mk.injEq] at he
          rw [← he.2]; exact addLoc_obj s _ _ x o ho
      | box hp y =>
        rw [hop] at he hk
        cases hp with
        | true => simp [keepsObj] at hk
        | false =>
          simp only [exec, Bool.false_eq_true, if_false] at he
          split at he
          · simp only [Option.some.injEq, Prod.mk.injEq] at he
            rw [← he.2]; exact addLoc_obj s _ _ x o ho
          · simp at he
      | _ => rw [hop] at hk; simp [keepsObj] at hk
    · simp at h
  unfold one at h
  split at h
  · exact hstep h
  · split at h
    · split at h
      · exact hstep h
      · simp only [Option.some.injEq] at h
        intro x o ho
        rw [← h, put_obj]; exact ho
    · simp at h

/-- May i go ahead of j, which stands before it in the text? -/
def okPair (j i : VI) : Bool :=
  ((mods j).all fun t => !(slots i).contains t) && ((mods i).all fun t => !(slots j).contains t) &&
  (quiet i.op || quiet j.op || (isLoad j.op && keepsObj i.op))

theorem swap {j i : VI} (hok : okPair j i = true) {s s1 s2 : St} (h1 : one C j s = some s1) (h2 : one C i s1 = some s2) : ∃ s1', one C i s = some s1' ∧ one C j s1' = some s2 := by
  simp only [okPair, Bool.and_eq_true, Bool.or_eq_true, List.all_eq_true, Bool.not_eq_true', List.contains_eq_mem, decide_eq_false_iff_not] at hok
  obtain ⟨⟨hji, hij⟩, hk⟩ := hok
  have ag1 : Agree (slots i) s1 s := fun t ht => (one_mods h1 fun hm => hji t hm ht).symm
  rcases hk with (hqi | hqj) | ⟨hlj, hki⟩
  · obtain ⟨ds, k1, k2, k3⟩ := quiet_one hqi h2
    refine ⟨_, k3 s ag1, ?_⟩
    rw [one_sets ds s fun p hp => hij _ (k1 p hp), h1, k2]
    rfl
  · obtain ⟨ds, k1, k2, k3⟩ := quiet_one hqj h1
    subst k2
    rw [one_sets ds s fun p hp => hji _ (k1 p hp)] at h2
    cases hi : one C i s with
    | none => rw [hi] at h2; simp at h2
    | some s1' =>
      rw [hi] at h2
      simp only [Option.map_some, Option.some.injEq] at h2
      refine ⟨s1', rfl, ?_⟩
      rw [k3 s1' fun t ht => one_mods hi fun hm => hij t hm ht, h2]
  · obtain ⟨ds, k1, k2, k3⟩ := load_one hlj h1
    subst k2
    rw [one_sets ds s fun p hp => hji _ (k1 p hp)] at h2
    cases hi : one C i s with
    | none => rw [hi] at h2; simp at h2
    | some s1' =>
      rw [hi] at h2
      simp only [Option.map_some, Option.some.injEq] at h2
      refine ⟨s1', rfl, ?_⟩
      rw [k3 s1' (fun t ht => one_mods hi fun hm => hij t hm ht) (keeps_one hki hi), h2]

theorem bubble {i : VI} : ∀ (l1 l2 : List VI) (s s' : St), (∀ j ∈ l1, okPair j i = true) → runOps C (l1 ++ i :: l2) s = some s' → runOps C (i :: (l1 ++ l2)) s = some s'
  | [], l2, s, s', _, h => h
  | j :: l1, l2, s, s', hok, h => by
    rw [List.cons_append, runOps_cons] at h
    split at h
    · rename_i s1 h1
      have ih := bubble l1 l2 s1 s' (fun k hk => hok k (by simp [hk])) h
      rw [runOps_cons] at ih
      split at ih
      · rename_i s2 h2
        obtain ⟨s1', e1, e2⟩ := swap (hok j (by simp)) h1 h2
        rw [runOps_cons, e1]
        simp only [List.cons_append]
        rw [runOps_cons, e2]
        exact ih
      · simp at ih
    · simp at h

end
end Go.Vm
