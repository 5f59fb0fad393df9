/- Operations in a region: one behind the other. -/
import Derived.Test.YtdodnhbegabbpaaV19
namespace Go.Vm

/-- eff: the slots whose calls look at shared memory (number 0 stands for calls without a value). -/
def trCall (eff : Nat → Bool) (o : Oper) : Option VOp :=
  match o.op with
  | .call c => match c.callee with
    | .value f => match trO f, trList c.args.toList with
      | some f, some args => if eff (o.dst.getD 0) then some (.call f args) else some (.callP f args)
      | _, _ => none
    | _ => none
  | _ => none

def trGuard (ops : Array Oper) : Option (Nat × Bool) → Option (Option (Nat × Bool))
  | none => some none
  | some (j, want) => match (ops[j]?).bind (·.dst) with
    | some d => some (some (d, want))
    | none => none

def trAny (P : Program) (heap takes eff : Nat → Bool) (o : Oper) : Option VOp :=
  match trCall eff o with
  | some v => some v
  | none => trOp P heap takes o

def dstOk (n : Nat) : Option Nat → Bool
  | some d => decide (d < n)
  | none => true

/-- One operation, with its place and its guard. n: how many slots there are. -/
def trI (P : Program) (heap takes eff : Nat → Bool) (n : Nat) (ops : Array Oper) (o : Oper) : Option VI :=
  if dstOk n o.dst then
    match trAny P heap takes eff o, trGuard ops o.guard with
    | some v, some g => some { dst := o.dst, op := v, guard := g }
    | _, _ => none
  else none

def trIs (P : Program) (heap takes eff : Nat → Bool) (n : Nat) (ops : Array Oper) : List Oper → Option (List VI)
  | [] => some []
  | o :: rest => match trI P heap takes eff n ops o, trIs P heap takes eff n ops rest with
    | some i, some is => some (i :: is)
    | _, _ => none

/-- The frame stands for the state. -/
def StOK (G0 : Gh) (w0 : World) (n : Nat) (s : St) (a : Act) (w : World) : Prop :=
  a.defers = [] ∧ a.tmps.size = n ∧ ∃ G, Inv G0 w0 G w s (fun t => a.tmps.getD t undef)

section
variable {P : Program} {C : CallF} {G0 : Gh} {w0 : World} {n : Nat} {s : St} {a : Act} {w : World} {Q : Exit → Act → World → Prop}

theorem upd_put {a : Act} {d : Nat} {v : Value} (hd : d < a.tmps.size) : (fun t => (a.put (some d) v).tmps.getD t undef) = upd (fun t => a.tmps.getD t undef) d v := by
  funext t
  simp only [Act.put, upd, Array.getD_eq_getD_getElem?]
  by_cases e : t = d
  · subst e; simp [hd]
  · rw [if_neg e, Array.getElem?_setIfInBounds_ne (Ne.symm e)]

theorem StOK.put {dst : Option Nat} (hd : ∀ d, dst = some d → d < n) {av : AV} {v : Value} (h0 : a.defers = []) (hn : a.tmps.size = n) {G : Gh} (hI : Inv G0 w0 G w s (fun t => a.tmps.getD t undef)) (hr : RepT G w av v)
    (ho : OwnAt G w (.slot (dst.getD 0)) av v) : StOK G0 w0 n (s.put dst av) (a.put dst v) w := by
  cases dst with
  | none => exact ⟨h0, hn, G, hI⟩
  | some d =>
    refine ⟨h0, by simpa [Act.put] using hn, G, ?_⟩
    rw [upd_put (by rw [hn]; exact hd d rfl)]
    exact hI.put hr ho

theorem eval_tmp (a : Act) (t : Nat) : a.eval (.tmp t) = a.tmps.getD t undef := rfl

theorem map_ev_len {l : List VO} {f : VO → AV} : (l.map f).length = l.length := by simp

theorem call_enter {o : Oper} {c : Call} {f : Operand} {g : FuncId} {caps : Array Value} (ho : o.op = .call c) (hc : c.callee = .value f) (hf : a.eval f = .func (.func g) #[] caps) (hb : HasBody P g) :
    (execOp a.eval o).run P w = .ok (.enter g (c.args.map a.eval ++ caps)) w := by
  obtain ⟨fn, cd, h1, h2, h3⟩ := hb
  have h3' : ¬ fn.name = "runtime.NumGoroutine" := by simpa using h3
  simp [execOp, ho, resolve, hc, hf, Deferred.ofValue, invoke, callFunc, h1, h2, h3']

theorem trPure_nocallP {o : Oper} {v : VOp} (h : trPureAll P o = some v) : ∀ f args, v ≠ .callP f args := by
  rintro f args rfl
  unfold trPureAll trPure trBin trNil at h
  repeat' (first | split at h)
  all_goals (first | (simp at h; done) | (cases ‹BinOp› <;> simp at h))

theorem trOp_nocall {heap takes : Nat → Bool} {o : Oper} {v : VOp} (hv : trOp P heap takes o = some v) : ∀ f args, v ≠ .call f args ∧ v ≠ .callP f args := by
  have hA : ∀ r c, trAppend P r c = some v → ∀ f args, v ≠ .call f args ∧ v ≠ .callP f args := by
    intro r c h f args
    unfold trAppend at h
    repeat' (first | split at h)
    all_goals first
      | (simp at h; done)
      | (simp at h; subst h; simp)
  have hM : ∀ hp t l c, trMksl P hp t l c = some v → ∀ f args, v ≠ .call f args ∧ v ≠ .callP f args := by
    intro hp t l c h f args
    unfold trMksl at h
    repeat' (first | split at h)
    all_goals first
      | (simp at h; done)
      | (simp at h; subst h; simp)
  have hPu : trPureAll P o = some v → ∀ f args, v ≠ .call f args ∧ v ≠ .callP f args := by
    intro h f args
    refine ⟨?_, trPure_nocallP h f args⟩
    rintro rfl
    have := trPureAll_pure h
    simp [isPure] at this
  unfold trOp at hv
  repeat' (first | split at hv)
  all_goals first
    | (simp at hv; done)
    | exact hPu hv
    | exact hA _ _ hv
    | exact hM _ _ _ _ hv
    | (simp at hv; subst hv; intro f args; simp; done)

theorem step_sound (hC : CallOK P C) (hF : FrameOK C) {heap takes eff : Nat → Bool} {ops : Array Oper} {o : Oper} {i : VI} {s' : St} (hI : StOK G0 w0 n s a w) (h : trI P heap takes eff n ops o = some i) (hx : step C i s = some s')
    {K : Act → World → Prop} (hK : ∀ a' w', StOK G0 w0 n s' a' w' → K a' w') : o.wp P a w K Q := by
  obtain ⟨hd0, hn, G, hinv⟩ := hI
  unfold trI at h
  split at h
  · rename_i hdst
    split at h
    · rename_i v g hv hg
      simp only [Option.some.injEq] at h
      subst h
      have hdst' : ∀ d, o.dst = some d → d < n := by
        intro d e
        rw [e] at hdst
        simpa [dstOk] using hdst
      have hT : ∀ t, a.eval (.tmp t) = (fun t => a.tmps.getD t undef) t := fun _ => rfl
      have hcst : EvConst a.eval := fun _ => rfl
      have hfn : ∀ f, a.eval (.func f) = .func (.func f) #[] #[] := fun _ => rfl
      have he := okEv_of' hinv hT hcst hfn
      -- all but calls
      have plain : ∀ av s1, exec (o.dst.getD 0) v s = some (av, s1) → trOp P heap takes o = some v → s' = s1.put o.dst av → o.wp P a w K Q := by
        intro av s1 hex htr hs'
        obtain ⟨u, w', G', hrun, hinv', hr, hown⟩ := exec_sound (P := P) (d := o.dst.getD 0) hinv htr hex hT hcst hfn
        have hfin := hK _ _ (hs' ▸ StOK.put (dst := o.dst) hdst' hd0 hn hinv' hr hown)
        rcases hrun with hrun | ⟨hrun, rfl⟩
        · unfold Oper.wp; rw [hrun]; exact hfin
        · unfold Oper.wp; rw [hrun]; exact hfin
      unfold trAny at hv
      split at hv
      · rename_i vop hcall
        simp only [Option.some.injEq] at hv; subst hv
        unfold trCall at hcall
        split at hcall
        · rename_i c ho
          split at hcall
          · rename_i f hcal
            split at hcall
            · rename_i f' args' hf' hargs'
              have call : ∀ gid caps rv m, s.ev f' = .fn (.func gid) caps → (args'.all fun x => (s.ev x).nl) = true → C gid ((args'.map fun x => (s.ev x).view) ++ caps.map AV.view) s.mem = some (rv, m) →
                  s' = ({ s with mem := m } : St).put o.dst rv → o.wp P a w K Q := by
                intro gid caps rv m hfv hnl hCx hs'
                subst hs'
                have hrf := he _ _ hf'
                rw [hfv] at hrf
                obtain ⟨cvs, ecv, hcl, hcr⟩ := hrf.fn_inv
                obtain ⟨hal, har⟩ := trList_ok he hargs'
                obtain ⟨hno', hbody, hcalls⟩ := hC _ _ _ _ _ hCx
                have hrun := call_enter (P := P) (w := w) ho hcal ecv hbody
                unfold Oper.wp
                rw [hrun, Oper.upon_enter]
                -- the arguments
                have hlen : ((args'.map fun x => (s.ev x).view) ++ caps.map AV.view).length = (c.args.map a.eval ++ cvs).size := by
                  simp only [List.length_append, List.length_map, Array.size_append, Array.size_map]
                  have : c.args.size = c.args.toList.length := by simp
                  omega
                have hrep : RepL G w ((args'.map fun x => (s.ev x).view) ++ caps.map AV.view) (c.args.map a.eval ++ cvs).toList := by
                  rw [Array.toList_append]
                  refine RepL.append ⟨by simp [hal], fun j x y hj hy => ?_⟩ (RepL.of_array hcl hcr).view
                  simp only [List.getElem?_map, Option.map_eq_some_iff] at hj
                  obtain ⟨x', hx', rfl⟩ := hj
                  simp only [Array.toList_map, List.getElem?_map, Option.map_eq_some_iff] at hy
                  obtain ⟨y', hy', rfl⟩ := hy
                  obtain ⟨k1, rfl⟩ := List.getElem?_eq_some_iff.1 hx'
                  obtain ⟨k2, rfl⟩ := List.getElem?_eq_some_iff.1 hy'
                  have hn1 := List.all_eq_true.1 hnl _ (List.getElem_mem k1)
                  exact ((har j k1 k2).nl hn1).view
                have hno : ∀ x ∈ (args'.map fun x => (s.ev x).view) ++ caps.map AV.view, notOwn x := by
                  intro x hx
                  rcases List.mem_append.1 hx with h | h
                  · obtain ⟨y, _, rfl⟩ := List.mem_map.1 h; exact notOwn_view _
                  · obtain ⟨y, _, rfl⟩ := List.mem_map.1 h; exact notOwn_view _
                have hpre := hinv.toCallee _ (c.args.map a.eval ++ cvs) hlen hrep.to_array.2 hno
                refine (hcalls G.callee w _ hlen hpre rfl).mono fun e w' hp => ?_
                obtain ⟨u, G', rfl, hpost⟩ := hp
                obtain ⟨Gn, i1, r1⟩ := hinv.fromCallee hpost
                have hown : OwnAt Gn w' (.slot (o.dst.getD 0)) rv u := OwnAt.of_notOwn hno'
                exact hK _ _ (StOK.put (dst := o.dst) hdst' hd0 hn i1 r1 hown)
              split at hcall
              · simp only [Option.some.injEq] at hcall; subst hcall
                simp only [step] at hx
                split at hx
                · rename_i gid caps hfv
                  split at hx
                  · rename_i hnl
                    split at hx
                    · rename_i rv m hCx
                      simp only [Option.some.injEq] at hx
                      exact call gid caps rv m hfv hnl hCx hx.symm
                    · simp at hx
                  · simp at hx
                · simp at hx
              · simp only [Option.some.injEq] at hcall; subst hcall
                simp only [step] at hx
                split at hx
                · rename_i gid caps hfv
                  split at hx
                  · rename_i hnl
                    split at hx
                    · rename_i rv hCx
                      simp only [Option.some.injEq] at hx
                      exact call gid caps rv s.mem hfv hnl (hF _ _ _ _ hCx) hx.symm
                    · simp at hx
                  · simp at hx
                · simp at hx
            · simp at hcall
          · simp at hcall
        · simp at hcall
      · rename_i hnc
        have hncall := trOp_nocall hv
        have hx' : (match exec (o.dst.getD 0) v s with | some (v, s') => some (s'.put o.dst v) | none => none) = some s' := by
          cases v <;> first | exact hx | exact absurd rfl (hncall _ _).1 | exact absurd rfl (hncall _ _).2
        split at hx'
        · rename_i av s1 hex
          simp only [Option.some.injEq] at hx'
          exact plain av s1 hex hv hx'.symm
        · simp at hx'
    · simp at h
  · simp at h

end
end Go.Vm
