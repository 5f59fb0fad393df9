/- Regions in the text's order, and control. -/
import Derived.Test.YtdodnhbegabbpaaV20
import Derived.Orders
namespace Go.Vm

theorem runOps_cons (C : CallF) (i : VI) (rest : List VI) (s : St) : runOps C (i :: rest) s = match one C i s with
    | some s' => runOps C rest s'
    | none => none := rfl

section
variable {P : Program} {C : CallF} {G0 : Gh} {w0 : World} {n : Nat} {Q : Exit → Act → World → Prop}

theorem trI_parts {heap takes eff : Nat → Bool} {ops : Array Oper} {o : Oper} {i : VI} (h : trI P heap takes eff n ops o = some i) : i.dst = o.dst ∧ trGuard ops o.guard = some i.guard ∧ ∀ d, o.dst = some d → d < n := by
  unfold trI at h
  split at h
  · rename_i hd
    split at h
    · rename_i v g hv hg
      simp only [Option.some.injEq] at h; subst h
      exact ⟨rfl, hg, fun d e => by rw [e] at hd; simpa [dstOk] using hd⟩
    · simp at h
  · simp at h

theorem one_sound (hC : CallOK P C) (hF : FrameOK C) {heap takes eff : Nat → Bool} {ops : Array Oper} {o : Oper} {i : VI} {s s' : St} {a : Act} {w : World} {k : Nat} (hI : StOK G0 w0 n s a w) (ho : ops[k]? = some o) (h : trI P heap takes eff n ops o = some i)
    (hx : one C i s = some s') {K : Act → World → Prop} (hK : ∀ a' w', StOK G0 w0 n s' a' w' → K a' w') : wpOp P ops Q k K a w := by
  obtain ⟨hd, hg, hdn⟩ := trI_parts h
  unfold wpOp
  simp only [ho]
  unfold one at hx
  cases hguard : o.guard with
  | none =>
    rw [hguard] at hg
    simp only [trGuard, Option.some.injEq] at hg
    rw [← hg] at hx
    have hw : Region.wanted o (yielded ops a.tmps) = true := by simp [Region.wanted, hguard]
    rw [if_pos hw]
    exact .inl (step_sound hC hF hI h hx hK)
  | some g =>
    obtain ⟨j, want⟩ := g
    rw [hguard] at hg
    simp only [trGuard] at hg
    split at hg
    · rename_i dj hdj
      simp only [Option.some.injEq] at hg
      rw [← hg] at hx
      simp only at hx
      split at hx
      · rename_i b hb
        obtain ⟨h0, hn, G, hinv⟩ := hI
        have hrep := hinv.tmp dj
        have hwant : Region.wanted o (yielded ops a.tmps) = (b == want) := by
          unfold guardB at hb
          split at hb
          · rename_i b' hb'
            simp only [Option.some.injEq] at hb
            subst hb
            rw [show s.tmp dj = _ from hb'] at hrep
            have hval := hrep.bool_inv
            have hy : yielded ops a.tmps j = some b' := by
              unfold yielded
              rw [hdj]
              simp only [Option.bind_some]
              simp only [Array.getD_eq_getD_getElem?] at hval
              cases hq : a.tmps[dj]? with
              | none => rw [hq] at hval; simp [undef] at hval
              | some q => rw [hq] at hval; simp at hval; subst hval; rfl
            simp only [Region.wanted, hguard, hy]
            cases b' <;> cases want <;> rfl
          · rename_i hb'
            simp only [Option.some.injEq] at hb
            subst hb
            rw [show s.tmp dj = _ from hb'] at hrep
            obtain ⟨vs, hval, _⟩ := hrep.tup_inv
            have hy : yielded ops a.tmps j = none := by
              unfold yielded
              rw [hdj]
              simp only [Option.bind_some]
              simp only [Array.getD_eq_getD_getElem?] at hval
              cases hq : a.tmps[dj]? with
              | none => rfl
              | some q => rw [hq] at hval; simp at hval; subst hval; rfl
            simp only [Region.wanted, hguard, hy]
            cases want <;> rfl
          · simp at hb
        split at hx
        · rename_i hbw
          subst hbw
          rw [if_pos (by rw [hwant]; simp)]
          exact .inl (step_sound hC hF ⟨h0, hn, G, hinv⟩ h hx hK)
        · rename_i hbw
          rw [if_neg (by rw [hwant]; simpa using hbw)]
          simp only [Option.some.injEq] at hx
          subst hx
          refine hK _ _ ?_
          rw [hd]
          exact StOK.put hdn h0 hn hinv (.of (.tup [] #[] rfl (fun i h1 h2 => absurd h1 (by simp)))) (OwnAt.of_notOwn trivial)
      · simp at hx
    · simp at hg

theorem trIs_get {heap takes eff : Nat → Bool} {ops : Array Oper} : ∀ {os : List Oper} {is : List VI}, trIs P heap takes eff n ops os = some is → is.length = os.length ∧ ∀ (k : Nat) (o : Oper) (i : VI), os[k]? = some o → is[k]? = some i → trI P heap takes eff n ops o = some i
  | [], is, h => by simp [trIs] at h; subst h; exact ⟨rfl, fun k o i h => by simp at h⟩
  | o :: os, is, h => by
    simp only [trIs] at h
    split at h
    · rename_i i is' hi his
      simp only [Option.some.injEq] at h; subst h
      obtain ⟨h1, h2⟩ := trIs_get his
      refine ⟨by simp [h1], fun k o' i' ho hi' => ?_⟩
      cases k with
      | zero => simp at ho hi'; subst ho; subst hi'; exact hi
      | succ k => exact h2 k o' i' (by simpa using ho) (by simpa using hi')
    · simp at h

theorem ops_sound (hC : CallOK P C) (hF : FrameOK C) {heap takes eff : Nat → Bool} {ops : Array Oper} {is : List VI} (ht : trIs P heap takes eff n ops ops.toList = some is) : ∀ (l : List Nat) (s s' : St) (a : Act) (w : World),
    runOps C (l.filterMap (is[·]?)) s = some s' → StOK G0 w0 n s a w → (∀ a' w', StOK G0 w0 n s' a' w' → Q .normal a' w') → wpOps P ops Q l a w
  | [], s, s', a, w, h, hI, hQ => by
    simp [runOps] at h; subst h
    exact hQ a w hI
  | k :: l, s, s', a, w, h, hI, hQ => by
    obtain ⟨hlen, hget⟩ := trIs_get ht
    rw [wpOps_cons]
    cases ho : ops[k]? with
    | none =>
      have : is[k]? = none := by
        rw [List.getElem?_eq_none_iff, hlen]
        simpa using ho
      simp only [List.filterMap_cons, this] at h
      unfold wpOp
      simp only [ho]
      exact ops_sound hC hF ht l s s' a w h hI hQ
    | some o =>
      have hk : k < is.length := by
        rw [hlen]
        have := (Array.getElem?_eq_some_iff.1 ho).1
        simpa using this
      simp only [List.filterMap_cons, List.getElem?_eq_getElem hk] at h
      rw [runOps_cons] at h
      split at h
      · rename_i s1 h1
        have htr := hget k o is[k] (by simpa using ho) (List.getElem?_eq_getElem hk)
        exact one_sound hC hF hI ho htr h1 fun a' w' hI' => ops_sound hC hF ht l s1 s' a' w' h hI' hQ
      · simp at h

theorem filterMap_range {α : Type} : ∀ (is : List α), (List.range is.length).filterMap (is[·]?) = is := by
  intro is
  induction is with
  | nil => rfl
  | cons i is ih =>
    rw [List.length_cons, List.range_succ_eq_map, List.filterMap_cons]
    simp only [List.getElem?_cons_zero, List.filterMap_map]
    congr 1

/-! ### control -/

/-- The model's code as the small code. ok: may the operations of a region that draws its order be taken in the text's order? -/
def trC (P : Program) (heap takes eff : Nat → Bool) (n : Nat) (ok : Array Oper → List VI → Bool) : Code → Option VC
  | .skip => some .skip
  | .region _ ops draw => match trIs P heap takes eff n ops ops.toList with
    | some is => if !draw || ok ops is then some (.region is) else none
    | none => none
  | .seq x y => match trC P heap takes eff n ok x, trC P heap takes eff n ok y with
    | some x, some y => some (.seq x y)
    | _, _ => none
  | .cond c x y => match trO c, trC P heap takes eff n ok x, trC P heap takes eff n ok y with
    | some c, some x, some y => some (.cond c x y)
    | _, _, _ => none
  | .block id x => match trC P heap takes eff n ok x with
    | some x => some (.block id x)
    | none => none
  | .loop x => match trC P heap takes eff n ok x with
    | some x => some (.loop x)
    | none => none
  | .exit id => some (.exit id)
  | .ret => some .ret
  | _ => none

def exitOf : VExit → Exit
  | .normal => .normal
  | .exit id => .exit id
  | .ret => .ret

/-- What a region that draws must satisfy. -/
def DrawOK (P : Program) (C : CallF) (n : Nat) (heap takes eff : Nat → Bool) (ok : Array Oper → List VI → Bool) : Prop :=
  ∀ (ops : Array Oper) (is : List VI) (id : Nat) (G0 : Gh) (w0 : World) (s s' : St) (a : Act) (w : World) (Q : Exit → Act → World → Prop), trIs P heap takes eff n ops ops.toList = some is → ok ops is = true → runOps C is s = some s' → StOK G0 w0 n s a w →
    (∀ a' w', StOK G0 w0 n s' a' w' → Q .normal a' w') → (Code.region id ops true).wp P Q a w

theorem eval_sound {s : St} {a : Act} {w : World} (hI : StOK G0 w0 n s a w) {c : Operand} {c' : VO} (hc : trO c = some c') {b : Bool} (hb : s.ev c' = .bool b) : a.eval c = .bool b := by
  obtain ⟨_, _, G, hinv⟩ := hI
  have := okEv_of hinv _ _ hc
  rw [hb] at this
  exact this.bool_inv

theorem run_sound (hC : CallOK P C) (hF : FrameOK C) {heap takes eff : Nat → Bool} {ok : Array Oper → List VI → Bool} (hD : DrawOK P C n heap takes eff ok) (m : Nat) : ∀ (c : Code) (vc : VC) (Q : Exit → Act → World → Prop) (s s' : St) (a : Act) (w : World) (e : VExit), trC P heap takes eff n ok c = some vc →
    run C m vc s = some (e, s') → StOK G0 w0 n s a w → (∀ a' w', StOK G0 w0 n s' a' w' → Q (exitOf e) a' w') → c.wp P Q a w := by
  intro c
  induction c with
  | skip =>
    intro vc Q s s' a w e ht hr hI hQ
    simp [trC] at ht; subst ht
    simp only [run, Option.some.injEq, Prod.mk.injEq] at hr
    obtain ⟨rfl, rfl⟩ := hr
    exact wp_skip (hQ a w hI)
  | region id ops draw =>
    intro vc Q s s' a w e ht hr hI hQ
    simp only [trC] at ht
    split at ht
    · rename_i is his
      split at ht
      · rename_i hok
        simp only [Option.some.injEq] at ht; subst ht
        simp only [run] at hr
        split at hr
        · rename_i s1 h1
          simp only [Option.some.injEq, Prod.mk.injEq] at hr
          obtain ⟨rfl, rfl⟩ := hr
          cases draw with
          | false =>
            refine wp_region (ops_sound hC hF his _ s s1 a w ?_ hI hQ)
            have hlen := (trIs_get his).1
            have e : ops.size = is.length := by rw [hlen]; simp
            rw [e, filterMap_range]
            exact h1
          | true => exact hD ops is id _ _ s s1 a w Q his (by simpa using hok) h1 hI hQ
        · simp at hr
      · simp at ht
    · simp at ht
  | seq x y ihx ihy =>
    intro vc Q s s' a w e ht hr hI hQ
    simp only [trC] at ht
    split at ht
    · rename_i vx vy hx hy
      simp only [Option.some.injEq] at ht; subst ht
      simp only [run] at hr
      split at hr
      · rename_i s1 h1
        refine wp_seq (ihx vx _ s s1 a w .normal hx h1 hI fun a1 w1 hI1 => ?_)
        exact ihy vy _ s1 s' a1 w1 e hy hr hI1 hQ
      · rename_i hne
        refine wp_seq (ihx vx _ s s' a w e hx hr hI fun a1 w1 hI1 => ?_)
        have := hQ a1 w1 hI1
        cases e with
        | normal => exact absurd hr (hne s')
        | exit id => exact this
        | ret => exact this
    · simp at ht
  | cond c x y ihx ihy =>
    intro vc Q s s' a w e ht hr hI hQ
    simp only [trC] at ht
    split at ht
    · rename_i c' vx vy hc hx hy
      simp only [Option.some.injEq] at ht; subst ht
      simp only [run] at hr
      split at hr
      · rename_i hb
        exact wp_cond_true (eval_sound hI hc hb) (ihx vx _ s s' a w e hx hr hI hQ)
      · rename_i hb
        exact wp_cond_false (eval_sound hI hc hb) (ihy vy _ s s' a w e hy hr hI hQ)
      · simp at hr
    · simp at ht
  | block id x ih =>
    intro vc Q s s' a w e ht hr hI hQ
    simp only [trC] at ht
    split at ht
    · rename_i vx hx
      simp only [Option.some.injEq] at ht; subst ht
      simp only [run] at hr
      split at hr
      · rename_i i s1 h1
        split at hr
        · rename_i hi
          subst hi
          simp only [Option.some.injEq, Prod.mk.injEq] at hr
          obtain ⟨rfl, rfl⟩ := hr
          refine wp_block (ih vx _ s s1 a w _ hx h1 hI fun a1 w1 hI1 => ?_)
          simp only [exitOf, Exit.inBlock, if_true]
          exact hQ a1 w1 hI1
        · rename_i hi
          simp only [Option.some.injEq, Prod.mk.injEq] at hr
          obtain ⟨rfl, rfl⟩ := hr
          refine wp_block (ih vx _ s s1 a w _ hx h1 hI fun a1 w1 hI1 => ?_)
          simp only [exitOf, Exit.inBlock, if_neg hi]
          exact hQ a1 w1 hI1
      · rename_i hne
        refine wp_block (ih vx _ s s' a w e hx hr hI fun a1 w1 hI1 => ?_)
        have := hQ a1 w1 hI1
        cases e with
        | normal => exact this
        | exit i => exact absurd hr (hne i s')
        | ret => exact this
    · simp at ht
  | loop x ih =>
    intro vc Q s s' a w e ht hr hI hQ
    simp only [trC] at ht
    split at ht
    · rename_i vx hx
      simp only [Option.some.injEq] at ht; subst ht
      simp only [run] at hr
      have key : ∀ (k : Nat) (s : St) (a : Act) (w : World), loopN (run C m vx) k s = some (e, s') → StOK G0 w0 n s a w → ∀ (b : Frame) (kk : List Item) (cs : List Frame),
          ∃ e a' w', Q e a' w' ∧ Arrives P (lone (b.at a (.code x :: .inLoop x :: kk)) cs w) b kk cs e a' w' := by
        intro k
        induction k with
        | zero => intro s a w h; simp [loopN] at h
        | succ k ihk =>
          intro s a w h hI b kk cs
          simp only [loopN] at h
          split at h
          · rename_i s1 h1
            obtain ⟨e1, a1, w1, hq, harr⟩ := ih vx (fun e a' w' => e = .normal ∧ StOK G0 w0 n s1 a' w') s s1 a w .normal hx h1 hI (fun a1 w1 hI1 => ⟨rfl, hI1⟩) b (.inLoop x :: kk) cs
            obtain ⟨rfl, hI1⟩ := hq
            obtain ⟨e2, a2, w2, hq2, harr2⟩ := ihk s1 a1 w1 h hI1 b kk cs
            exact ⟨e2, a2, w2, hq2, .of_steps (Steps.trans harr (.one step_inLoop)) harr2⟩
          · rename_i hne
            obtain ⟨e1, a1, w1, hq, harr⟩ := ih vx (fun e' a' w' => e' = exitOf e ∧ Q e' a' w') s s' a w e hx h hI (fun a1 w1 hI1 => ⟨rfl, hQ a1 w1 hI1⟩) b (.inLoop x :: kk) cs
            obtain ⟨rfl, hq⟩ := hq
            refine ⟨_, a1, w1, hq, ?_⟩
            cases e with
            | normal => exact absurd h (hne s')
            | exit id => exact .pass (x := .inLoop x) rfl (fun _ _ => .inl (by simp [exitOf])) harr
            | ret => exact .pass (x := .inLoop x) rfl (fun _ _ => .inl (by simp [exitOf])) harr
      intro b kk cs
      obtain ⟨e1, a1, w1, hq, harr⟩ := key m s a w hr hI b kk cs
      exact ⟨e1, a1, w1, hq, .of_steps (.one step_loop) harr⟩
    · simp at ht
  | exit id =>
    intro vc Q s s' a w e ht hr hI hQ
    simp [trC] at ht; subst ht
    simp only [run, Option.some.injEq, Prod.mk.injEq] at hr
    obtain ⟨rfl, rfl⟩ := hr
    exact wp_exit (hQ a w hI)
  | ret =>
    intro vc Q s s' a w e ht hr hI hQ
    simp [trC] at ht; subst ht
    simp only [run, Option.some.injEq, Prod.mk.injEq] at hr
    obtain ⟨rfl, rfl⟩ := hr
    exact wp_ret (hQ a w hI)
  | _ => intro vc Q s s' a w e ht; simp [trC] at ht

end
end Go.Vm
