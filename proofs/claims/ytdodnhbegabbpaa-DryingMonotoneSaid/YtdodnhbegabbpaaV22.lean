/- Functions. -/
import Derived.Test.YtdodnhbegabbpaaV21
namespace Go.Vm

def takesOf : Code → List Nat
  | .region _ ops _ => ops.toList.filterMap fun o => match o.op with
    | .call c => match c.callee, c.args.toList with
      | .builtin .append, .tmp t :: _ => some t
      | _, _ => none
    | _ => none
  | .seq x y => takesOf x ++ takesOf y
  | .cond _ x y => takesOf x ++ takesOf y
  | .block _ x => takesOf x
  | .loop x => takesOf x
  | _ => []

def trRes (P : Program) : List ResultVar → Option (List VRes)
  | [] => some []
  | .tmp t :: rest => match trRes P rest with
    | some r => some (.tmp t :: r)
    | none => none
  | .cell a t :: rest => match aggOf P t, trRes P rest with
    | some agg, some r => some (.cell a agg :: r)
    | _, _ => none

def trF (P : Program) (heap eff : FuncId → List Nat) (ok : Array Oper → List VI → Bool) (f : FuncId) : Option VF :=
  match P.funcs[f]? with
  | some fn => match fn.body with
    | some c =>
      if fn.params.size + fn.nfree ≤ fn.ntmps ∧ (fn.name == "runtime.NumGoroutine") = false then
        match trC P (fun d => (heap f).contains d) (fun d => (takesOf c).contains d) (fun d => (eff f).contains d) fn.ntmps ok c, trRes P fn.results.toList with
        | some vc, some rs => some { nparams := fn.params.size + fn.nfree, results := rs, body := vc }
        | _, _ => none
      else none
    | none => none
  | none => none

def resSem (tmps : Array Value) : ResultVar → Sem Value
  | .tmp t => pure (tmps.getD t undef)
  | .cell x t => do loadVar t (← asAddr (tmps.getD x undef))

theorem results_eq (fn : Func) (tmps : Array Value) : results fn tmps = (fn.results.mapM (resSem tmps) >>= fun vs =>
    pure (if h : vs.size = 1 then vs[0] else .tuple vs)) := by
  unfold results
  congr 1

section
variable {P : Program} {C : CallF} {G0 : Gh} {w0 : World} {n : Nat} {s : St} {a : Act} {w : World} {G : Gh}

theorem resOf_sound (hI : Inv G0 w0 G w s (fun t => a.tmps.getD t undef)) {r : ResultVar} {r' : VRes} {v : AV} (ht : trRes P [r] = some [r']) (hr : resOf s r' = some v) :
    ∃ u, (resSem a.tmps r).run P w = .ok u w ∧ Rep G w v u ∧ notOwn v := by
  cases r with
  | tmp t =>
    simp [trRes] at ht
    subst ht
    simp only [resOf] at hr
    split at hr
    · rename_i hn
      simp only [Option.some.injEq] at hr; subst hr
      exact ⟨_, rfl, ((hI.tmp t).nl hn).view, notOwn_view _⟩
    · simp at hr
  | cell x t =>
    simp only [trRes] at ht
    split at ht
    · rename_i agg r ha hr'
      simp only [Option.some.injEq] at ht hr'
      subst hr'
      simp only [List.cons.injEq, and_true] at ht
      subst ht
      simp only [resOf] at hr
      split at hr
      · rename_i ix off hv
        have hrep := hI.tmp x
        rw [show s.tmp x = _ from hv] at hrep
        obtain ⟨b, hb, e1⟩ := hrep.ptr_inv
        split at hr
        · rename_i cs hcs
          unfold objCells at hcs
          split at hcs
          · rename_i fz cs' hobj
            simp at hcs; subst hcs
            obtain ⟨b', hb', _, hat⟩ := hI.obj _ _ hobj
            rw [hb] at hb'
            simp only [Option.some.injEq] at hb'
            subst hb'
            have hcells : ∃ vals : Nat → Value, ∀ (j : Nat) (h : j < cs'.length), w.cell? ⟨b, j, none⟩ = some (vals j) ∧ Rep G w cs'[j] (vals j) := by
              cases fz
              · obtain ⟨_, arr, T, h2, h3, h4⟩ := hat
                refine ⟨fun j => arr.getD j undef, fun j hj => ?_⟩
                have hj2 : j < arr.size := by omega
                have := (h4 j hj hj2).1
                exact ⟨by simp [World.cell?, h2, hj2], by simpa [hj2] using this⟩
              · obtain ⟨vals, h4⟩ := hat
                exact ⟨vals, fun j hj => (h4 j hj).2⟩
            obtain ⟨vals, c1⟩ := hcells
            obtain ⟨u, k1, k2, k3⟩ := load_cells (P := P) (G := G) (w := w) (b := b) (o := 0) vals ha hr (fun j hj => by rw [Nat.zero_add]; exact (c1 j hj).1) (fun j hj => (c1 j hj).2)
            rw [Nat.zero_add] at k1
            refine ⟨u, ?_, k2, k3⟩
            have e1' : a.tmps.getD x undef = .pointer (some ⟨b, off, none⟩) := e1
            simp only [resSem, Sem.run_bind, e1', asAddr, Sem.run_pure, Result.andThen_ok, k1]
          · simp at hcs
        · simp at hr
      · simp at hr
    · simp at ht

theorem trRes_cons {r : ResultVar} {rest : List ResultVar} {rs : List VRes} (h : trRes P (r :: rest) = some rs) : ∃ r' rs', trRes P [r] = some [r'] ∧ trRes P rest = some rs' ∧ rs = r' :: rs' := by
  cases r with
  | tmp t =>
    simp only [trRes] at h
    split at h
    · rename_i r hr
      simp only [Option.some.injEq] at h
      exact ⟨_, _, rfl, hr, h.symm⟩
    · simp at h
  | cell x t =>
    simp only [trRes] at h
    split at h
    · rename_i agg r ha hr
      simp only [Option.some.injEq] at h
      exact ⟨.cell x agg, _, by simp [trRes, ha], hr, h.symm⟩
    · simp at h

theorem resList_sound (hI : Inv G0 w0 G w s (fun t => a.tmps.getD t undef)) : ∀ (rs : List ResultVar) (rs' : List VRes) (vs : List AV), trRes P rs = some rs' → resList s rs' = some vs →
    ∃ us : List Value, (rs.mapM (resSem a.tmps)).run P w = .ok us w ∧ RepL G w vs us ∧ ∀ v ∈ vs, notOwn v
  | [], rs', vs, ht, hr => by
    simp [trRes] at ht; subst ht
    simp [resList] at hr; subst hr
    exact ⟨[], by simp, ⟨rfl, fun i a v h => by simp at h⟩, by simp⟩
  | r :: rest, rs', vs, ht, hr => by
    obtain ⟨r', rs1, h1, h2, rfl⟩ := trRes_cons ht
    simp only [resList] at hr
    split at hr
    · rename_i v vs1 hv hvs
      simp only [Option.some.injEq] at hr; subst hr
      obtain ⟨u, k1, k2, k3⟩ := resOf_sound (P := P) hI h1 hv
      obtain ⟨us, j1, j2, j3⟩ := resList_sound hI rest rs1 vs1 h2 hvs
      refine ⟨u :: us, ?_, ⟨by simp [j2.1], fun i a v' ha hv' => ?_⟩, ?_⟩
      · simp only [List.mapM_cons, Sem.run_bind, k1, Result.andThen_ok, j1, Sem.run_pure]
      · cases i with
        | zero => simp at ha hv'; subst ha; subst hv'; exact k2
        | succ i => exact j2.2 i a v' (by simpa using ha) (by simpa using hv')
      · intro x hx
        rcases List.mem_cons.1 hx with rfl | hx
        · exact k3
        · exact j3 x hx
    · simp at hr

theorem result_sound (hI : Inv G0 w0 G w s (fun t => a.tmps.getD t undef)) {fn : Func} {rs : List VRes} {v : AV} (ht : trRes P fn.results.toList = some rs) (hr : result s rs = some v) :
    ∃ u, (results fn a.tmps).run P w = .ok u w ∧ Rep G w v u ∧ notOwn v := by
  have hlist : ∀ vs, resList s rs = some vs → ∃ us : List Value, (fn.results.mapM (resSem a.tmps)).run P w = .ok us.toArray w ∧ RepL G w vs us ∧ ∀ v ∈ vs, notOwn v := by
    intro vs h
    obtain ⟨us, k1, k2, k3⟩ := resList_sound hI fn.results.toList rs vs ht h
    refine ⟨us, ?_, k2, k3⟩
    rw [Array.mapM_eq_mapM_toList]
    simp only [Sem.run_map, k1, Result.andThen_ok]
  unfold result at hr
  split at hr
  · rename_i v' hv
    simp only [Option.some.injEq] at hr; subst hr
    obtain ⟨us, k1, k2, k3⟩ := hlist _ hv
    have hl := k2.1
    match us, hl, k1, k2 with
    | [u], _, k1, k2 =>
      refine ⟨u, ?_, k2.2 0 _ _ rfl rfl, k3 _ (by simp)⟩
      rw [results_eq]
      simp only [Sem.run_bind]
      rw [k1]
      simp
  · rename_i vs hne hvs
    simp only [Option.some.injEq] at hr; subst hr
    obtain ⟨us, k1, k2, k3⟩ := hlist _ hvs
    have hl : us.length ≠ 1 := by
      intro e
      rw [← k2.1] at e
      match vs, e with
      | [v], _ => exact hne v rfl
    refine ⟨.tuple us.toArray, ?_, .tup vs us.toArray (by simpa using k2.1) (fun i h1 h2 => by
      have := k2.2 i _ _ (List.getElem?_eq_getElem h1) (List.getElem?_eq_getElem (by simpa using h2))
      simpa using this), trivial⟩
    rw [results_eq]
    simp only [Sem.run_bind]
    rw [k1]
    simp [hl]
  · simp at hr

/-- What a call leaves. -/
theorem Inv.toPost (hI : Inv G0 w0 G w s (fun t => a.tmps.getD t undef)) {v : AV} {u : Value} (hr : Rep G w v u) (hn : notOwn v) :
    ∃ G', Inv G0 w0 G' w (resSt v s.mem) (fun _ => u) := by
  let G' : Gh := { G with lb := fun _ _ => none }
  have l : Le G w G' w := ⟨fun _ _ _ h h' => ⟨h, h'⟩, fun _ _ e => e⟩
  refine ⟨G', { os := hI.os, tape := hI.tape, output := hI.output, size := hI.size, tmp := fun t => ?_, own := fun t => ?_, obj := fun x o e => ?_, ext := hI.ext, le := hI.le.trans l, mlen := hI.mlen, llen := fun _ _ _ => rfl }⟩
  · show RepT G' w (if t = 0 then v else .undef) u
    split
    · exact .of (hr.mono l)
    · exact .of (.undef _)
  · show OwnAt G' w _ (if t = 0 then v else .undef) u
    split
    · exact OwnAt.of_notOwn hn
    · exact OwnAt.of_notOwn trivial
  · cases x with
    | loc t k => simp [St.obj, resSt] at e
    | mem i =>
      obtain ⟨b, h1, h2, h3⟩ := hI.obj (.mem i) o e
      exact ⟨b, h1, h2, h3.keep l (Nat.le_refl _) (fun _ => ⟨rfl, rfl⟩) fun _ _ _ _ _ _ => ⟨rfl, fun k h1 h2 => ⟨h1, h2⟩⟩⟩

theorem callN_ok {heap eff : FuncId → List Nat} {ok : Array Oper → List VI → Bool} {T : FuncId → Option VF} (hT : ∀ f vf, T f = some vf → trF P heap eff ok f = some vf)
    (hF : ∀ m, FrameOK (callN T m)) (hD : ∀ C, CallOK P C → FrameOK C → ∀ n heap takes eff, DrawOK P C n heap takes eff ok) : ∀ m, CallOK P (callN T m)
  | 0 => by intro f args mem v m' h; simp [callN] at h
  | m + 1 => by
    have ih := callN_ok hT hF hD m
    intro f args mem v m' h
    simp only [callN] at h
    split at h
    · simp at h
    · rename_i vf hvf
      have htr := hT f vf hvf
      unfold trF at htr
      split at htr
      · rename_i fn hfn
        split at htr
        · rename_i c hbody
          split at htr
          · rename_i hcond
            split at htr
            · rename_i vc rs hvc hrs
              simp only [Option.some.injEq] at htr
              subst htr
              split at h
              · rename_i hlen
                -- one exit for both ways
                have fin : ∀ (e : VExit) (s : St), run (callN T m) m vc (St.init args mem) = some (e, s) → (e = .normal ∨ e = .ret) → result s rs = some v → m' = s.mem →
                    notOwn v ∧ HasBody P f ∧ ∀ (G : Gh) (w : World) (vs : Array Value), args.length = vs.size → Inv G w G w (St.init args mem) (fun t => vs.getD t undef) → G.lb = (fun _ _ => none) → Calls P f vs w (Post G w v m') := by
                  intro e s hrun he hres hm
                  have hno : notOwn v := by
                    unfold result at hres
                    have hv : ∀ l vs, resList s l = some vs → ∀ v ∈ vs, notOwn v := by
                      intro l
                      induction l with
                      | nil => intro vs h; simp [resList] at h; subst h; simp
                      | cons r l ih =>
                        intro vs h
                        simp only [resList] at h
                        split at h
                        · rename_i v1 vs1 h1 h2
                          simp only [Option.some.injEq] at h; subst h
                          intro x hx
                          rcases List.mem_cons.1 hx with rfl | hx
                          · cases r with
                            | tmp t =>
                              simp only [resOf] at h1
                              split at h1
                              · simp only [Option.some.injEq] at h1; subst h1; exact notOwn_view _
                              · simp at h1
                            | cell t agg =>
                              simp only [resOf] at h1
                              split at h1
                              · split at h1
                                · cases agg with
                                  | none =>
                                    simp only [part?] at h1
                                    split at h1
                                    · simp only [Option.some.injEq] at h1; subst h1; exact notOwn_view _
                                    · simp at h1
                                  | some sz =>
                                    simp only [part?] at h1
                                    split at h1
                                    · simp only [Option.some.injEq] at h1; subst h1; trivial
                                    · simp at h1
                                · simp at h1
                              · simp at h1
                          · exact ih _ h2 x hx
                        · simp at h
                    split at hres
                    · rename_i v' hv'
                      simp only [Option.some.injEq] at hres; subst hres
                      exact hv _ _ hv' _ (by simp)
                    · simp only [Option.some.injEq] at hres; subst hres; trivial
                    · simp at hres
                  refine ⟨hno, ⟨fn, c, hfn, hbody, hcond.2⟩, fun G w vs hl hpre hlb => ?_⟩
                  subst hm
                  have hvs : vs.size ≤ fn.ntmps := by rw [← hl, hlen]; exact hcond.1
                  have hget : (fun t => (vs ++ Array.replicate (fn.ntmps - vs.size) undef).getD t undef) = fun t => vs.getD t undef := by
                    funext t
                    simp only [Array.getD_eq_getD_getElem?, Array.getElem?_append]
                    split
                    · rfl
                    · rename_i hh
                      rw [Array.getElem?_eq_none (by omega : vs.size ≤ t)]
                      simp only [Array.getElem?_replicate]
                      split <;> rfl
                  have hst : StOK G w fn.ntmps (St.init args mem) { tmps := vs ++ Array.replicate (fn.ntmps - vs.size) undef, defers := [] } w :=
                    ⟨rfl, by simp; omega, G, by rw [hget]; exact hpre⟩
                  refine calls_of_wp hfn hbody (run_sound ih (hF m) (hD _ ih (hF m) _ _ _ _) m c vc _ _ s _ w e hvc hrun hst fun a' w' hI => ?_)
                  obtain ⟨h0, hn, G1, hinv⟩ := hI
                  obtain ⟨u, k1, k2, k3⟩ := result_sound hinv hrs hres
                  obtain ⟨G2, hpost⟩ := hinv.toPost k2 k3
                  have : bodyPost P fn (Post G w v s.mem) (exitOf e) a' w' := by
                    rcases he with rfl | rfl <;> exact ⟨h0, u, k1, u, G2, rfl, hpost⟩
                  exact this
                split at h
                · rename_i s hrun
                  split at h
                  · rename_i v' hres
                    simp only [Option.some.injEq, Prod.mk.injEq] at h
                    obtain ⟨rfl, rfl⟩ := h
                    exact fin _ _ hrun (.inl rfl) hres rfl
                  · simp at h
                · rename_i s hrun
                  split at h
                  · rename_i v' hres
                    simp only [Option.some.injEq, Prod.mk.injEq] at h
                    obtain ⟨rfl, rfl⟩ := h
                    exact fin _ _ hrun (.inr rfl) hres rfl
                  · simp at h
                · simp at h
              · simp at h
            · simp at htr
          · simp at htr
        · simp at htr
      · simp at htr

end
end Go.Vm
