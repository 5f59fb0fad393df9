/- A small machine and its soundness, part VF. -/
import Derived.Test.YtmlfcgmiaapffaaGreatDoorVE
/- Running without counting: what the small code answers if it is given steps enough. -/
namespace Go.Vm

def CLe (C C' : CallF) : Prop := ∀ f args m r, C f args m = some r → C' f args m = some r

section
variable {C C' : CallF}

theorem step_le (h : CLe C C') {i : VI} {s s' : St} (hs : step C i s = some s') : step C' i s = some s' := by
  unfold step at hs ⊢
  split at hs
  · split at hs
    · split at hs
      · rename_i hn
        split at hs
        · rename_i hc
          rw [if_pos hn, h _ _ _ _ hc]; exact hs
        · simp at hs
      · simp at hs
    · simp at hs
  · split at hs
    · split at hs
      · rename_i hn
        split at hs
        · rename_i hc
          rw [if_pos hn, h _ _ _ _ hc]; exact hs
        · simp at hs
      · simp at hs
    · simp at hs
  · split at hs
    · split at hs
      · rename_i hn
        split at hs
        · rename_i hc
          rw [if_pos hn, h _ _ _ _ hc]; exact hs
        · simp at hs
      · simp at hs
    · simp at hs
  · split at hs
    · split at hs
      · rename_i hn
        split at hs
        · rename_i hc
          rw [if_pos hn, h _ _ _ _ hc]; exact hs
        · simp at hs
      · simp at hs
    · simp at hs
  · exact hs

theorem one_le (h : CLe C C') {i : VI} {s s' : St} (hs : one C i s = some s') : one C' i s = some s' := by
  unfold one at hs ⊢
  split at hs
  · exact step_le h hs
  · split at hs
    · split at hs
      · rename_i hb
        simp only [hb, if_true]
        exact step_le h hs
      · rename_i hb
        simp only [hb, if_false]
        exact hs
    · simp at hs

theorem runOps_le (h : CLe C C') : ∀ (is : List VI) (s s' : St), runOps C is s = some s' → runOps C' is s = some s'
  | [], s, s', hs => hs
  | i :: is, s, s', hs => by
    rw [runOps_cons] at hs ⊢
    split at hs
    · rename_i s1 h1
      rw [one_le h h1]
      exact runOps_le h is s1 s' hs
    · simp at hs

theorem loopN_le {b b' : St → Option (VExit × St)} (hb : ∀ s r, b s = some r → b' s = some r) : ∀ (n m : Nat) (s : St) (r : VExit × St), n ≤ m → loopN b n s = some r → loopN b' m s = some r
  | 0, m, s, r, _, h => by simp [loopN] at h
  | n + 1, 0, s, r, hm, h => by omega
  | n + 1, m + 1, s, r, hm, h => by
    simp only [loopN] at h ⊢
    split at h
    · rename_i s1 h1
      rw [hb _ _ h1]
      exact loopN_le hb n m s1 r (by omega) h
    · rename_i hne
      rw [hb _ _ h]
      obtain ⟨e, s'⟩ := r
      cases e with
      | normal => exact absurd h (hne s')
      | exit i => rfl
      | ret => rfl

theorem run_le (h : CLe C C') {n m : Nat} (hn : n ≤ m) : ∀ (c : VC) (s : St) (r : VExit × St), run C n c s = some r → run C' m c s = some r := by
  intro c
  induction c with
  | skip => intro s r hr; exact hr
  | region is =>
    intro s r hr
    simp only [run] at hr ⊢
    split at hr
    · rename_i h1; rw [runOps_le h _ _ _ h1]; exact hr
    · simp at hr
  | drawn is ch =>
    intro s r hr
    simp only [run] at hr ⊢
    split at hr
    · rename_i h1; rw [runOps_le h _ _ _ h1]; exact hr
    · simp at hr
  | seq a b iha ihb =>
    intro s r hr
    simp only [run] at hr ⊢
    split at hr
    · rename_i s1 h1
      rw [iha _ _ h1]; exact ihb _ _ hr
    · rename_i hne
      rw [iha _ _ hr]
      obtain ⟨e, s'⟩ := r
      cases e with
      | normal => exact absurd hr (hne s')
      | exit i => rfl
      | ret => rfl
  | cond c a b iha ihb =>
    intro s r hr
    simp only [run] at hr ⊢
    split at hr
    · exact iha _ _ hr
    · exact ihb _ _ hr
    · simp at hr
  | block id b ih =>
    intro s r hr
    simp only [run] at hr ⊢
    split at hr
    · rename_i i s1 h1
      rw [ih _ _ h1]; exact hr
    · rename_i hne
      rw [ih _ _ hr]
      obtain ⟨e, s'⟩ := r
      cases e with
      | normal => rfl
      | exit i => exact absurd hr (hne i s')
      | ret => rfl
  | loop b ih => intro s r hr; exact loopN_le (fun s r => ih s r) n m s r hn hr
  | exit id => intro s r hr; exact hr
  | ret => intro s r hr; exact hr
  | native k p => intro s r hr; exact hr

theorem callN_le (T : FuncId → Option VF) : ∀ (k k' : Nat), k ≤ k' → CLe (callN T k) (callN T k')
  | 0, k', _ => fun f args m r h => by simp [callN] at h
  | k + 1, 0, h => by omega
  | k + 1, k' + 1, h => by
    intro f args m r hr
    have ih := callN_le T k k' (by omega)
    simp only [callN] at hr ⊢
    split at hr
    · simp at hr
    · split at hr
      · rename_i hl
        rw [if_pos hl]
        split at hr
        · rename_i s h1
          rw [run_le ih (by omega) _ _ _ h1]; exact hr
        · rename_i s h1
          rw [run_le ih (by omega) _ _ _ h1]; exact hr
        · simp at hr
      · simp at hr

end

/-- What a function answers, with steps enough. -/
noncomputable def callL (T : FuncId → Option VF) : CallF := fun f args m =>
  open Classical in if h : ∃ r k, callN T k f args m = some r then some (Classical.choose h) else none

theorem callL_of {T : FuncId → Option VF} {k : Nat} {f : FuncId} {args : List AV} {m : Mem} {r : AV × Mem} (h : callN T k f args m = some r) : callL T f args m = some r := by
  unfold callL
  have hex : ∃ r k, callN T k f args m = some r := ⟨r, k, h⟩
  rw [dif_pos hex]
  obtain ⟨k', h'⟩ := Classical.choose_spec hex
  have h1 := callN_le T k (max k k') (Nat.le_max_left _ _) _ _ _ _ h
  have h2 := callN_le T k' (max k k') (Nat.le_max_right _ _) _ _ _ _ h'
  rw [h1] at h2
  exact congrArg some (Option.some.inj h2).symm

theorem callL_native {T : FuncId → Option VF} {f : FuncId} {n k : Nat} {rs : List VRes} {args outs : List AV} {v : AV} (m : Mem) (hT : T f = some ⟨n, rs, .native k n⟩) (hl : args.length = n) (hn : natV k args = some outs)
    (hr : ∀ m, result (natSt outs m) rs = some v) : callL T f args m = some (v, m) := by
  refine callL_of (k := 1) ?_
  have hargs : (List.range n).map (St.init args m).get = args := by
    rw [← hl]
    apply List.ext_getElem (by simp)
    intro i h1 h2
    simp [St.get, St.init, List.getD, h2]
  simp only [callN, hT, hl, if_true, run, hargs, hn, hr]
  rfl

theorem callL_some {T : FuncId → Option VF} {f : FuncId} {args : List AV} {m : Mem} {r : AV × Mem} (h : callL T f args m = some r) : ∃ k, callN T k f args m = some r := by
  unfold callL at h
  split at h
  · rename_i hex
    obtain ⟨k, hk⟩ := Classical.choose_spec hex
    exact ⟨k, by rw [hk]; exact h⟩
  · simp at h

section
variable {T : FuncId → Option VF}

theorem step_fin {i : VI} {s s' : St} (hs : step (callL T) i s = some s') : ∃ k, step (callN T k) i s = some s' := by
  unfold step at hs
  split at hs
  · rename_i fo args ho
    split at hs
    · rename_i g caps hf
      split at hs
      · rename_i hn
        split at hs
        · rename_i hc
          obtain ⟨k, hk⟩ := callL_some hc
          exact ⟨k, by unfold step; simp only [ho, hf]; rw [if_pos hn, hk]; exact hs⟩
        · simp at hs
      · simp at hs
    · simp at hs
  · rename_i fo args ho
    split at hs
    · rename_i g caps hf
      split at hs
      · rename_i hn
        split at hs
        · rename_i hc
          obtain ⟨k, hk⟩ := callL_some hc
          exact ⟨k, by unfold step; simp only [ho, hf]; rw [if_pos hn, hk]; exact hs⟩
        · simp at hs
      · simp at hs
    · simp at hs
  · rename_i fo args ho
    split at hs
    · rename_i g caps hf
      split at hs
      · rename_i hn
        split at hs
        · rename_i hc
          obtain ⟨k, hk⟩ := callL_some hc
          exact ⟨k, by unfold step; simp only [ho, hf]; rw [if_pos hn, hk]; exact hs⟩
        · simp at hs
      · simp at hs
    · simp at hs
  · rename_i fo args ho
    split at hs
    · rename_i g caps hf
      split at hs
      · rename_i hn
        split at hs
        · rename_i hc
          obtain ⟨k, hk⟩ := callL_some hc
          exact ⟨k, by unfold step; simp only [ho, hf]; rw [if_pos hn, hk]; exact hs⟩
        · simp at hs
      · simp at hs
    · simp at hs
  · rename_i h1 h2 h3 h4
    refine ⟨0, ?_⟩
    unfold step
    split
    · rename_i ho; exact absurd ho (h1 _ _)
    · rename_i ho; exact absurd ho (h2 _ _)
    · rename_i ho; exact absurd ho (h3 _ _)
    · rename_i ho; exact absurd ho (h4 _ _)
    · exact hs

theorem one_fin {i : VI} {s s' : St} (hs : one (callL T) i s = some s') : ∃ k, one (callN T k) i s = some s' := by
  unfold one at hs
  split at hs
  · rename_i hg
    obtain ⟨k, hk⟩ := step_fin hs
    exact ⟨k, by unfold one; rw [hg]; exact hk⟩
  · rename_i j want hg
    split at hs
    · rename_i b hb
      split at hs
      · rename_i hbw
        obtain ⟨k, hk⟩ := step_fin hs
        exact ⟨k, by unfold one; simp only [hg, hb, hbw, if_true]; exact hk⟩
      · rename_i hbw
        exact ⟨0, by unfold one; simp only [hg, hb, hbw, if_false]; exact hs⟩
    · simp at hs

theorem runOps_fin : ∀ (is : List VI) (s s' : St), runOps (callL T) is s = some s' → ∃ k, runOps (callN T k) is s = some s'
  | [], s, s', h => ⟨0, h⟩
  | i :: is, s, s', h => by
    rw [runOps_cons] at h
    split at h
    · rename_i s1 h1
      obtain ⟨k1, e1⟩ := one_fin h1
      obtain ⟨k2, e2⟩ := runOps_fin is s1 s' h
      refine ⟨max k1 k2, ?_⟩
      rw [runOps_cons, one_le (callN_le T k1 _ (Nat.le_max_left _ _)) e1]
      exact runOps_le (callN_le T k2 _ (Nat.le_max_right _ _)) _ _ _ e2
    · simp at h

theorem loopN_fin {b : St → Option (VExit × St)} {b' : Nat → St → Option (VExit × St)} (hb : ∀ s r, b s = some r → ∃ k, b' k s = some r) (hm : ∀ k k', k ≤ k' → ∀ s r, b' k s = some r → b' k' s = some r) :
    ∀ (n : Nat) (s : St) (r : VExit × St), loopN b n s = some r → ∃ k, loopN (b' k) n s = some r
  | 0, s, r, h => by simp [loopN] at h
  | n + 1, s, r, h => by
    simp only [loopN] at h
    split at h
    · rename_i s1 h1
      obtain ⟨k1, e1⟩ := hb _ _ h1
      obtain ⟨k2, e2⟩ := loopN_fin hb hm n s1 r h
      refine ⟨max k1 k2, ?_⟩
      simp only [loopN]
      rw [hm k1 _ (Nat.le_max_left _ _) _ _ e1]
      exact loopN_le (hm k2 _ (Nat.le_max_right _ _)) n n s1 r (Nat.le_refl _) e2
    · rename_i hne
      obtain ⟨k1, e1⟩ := hb _ _ h
      refine ⟨k1, ?_⟩
      simp only [loopN]
      rw [e1]
      obtain ⟨e, s'⟩ := r
      cases e with
      | normal => exact absurd h (hne s')
      | exit i => rfl
      | ret => rfl

theorem run_fin (n : Nat) : ∀ (c : VC) (s : St) (r : VExit × St), run (callL T) n c s = some r → ∃ k, run (callN T k) n c s = some r := by
  intro c
  have mono : ∀ (c : VC) (k k' : Nat), k ≤ k' → ∀ s r, run (callN T k) n c s = some r → run (callN T k') n c s = some r := fun c k k' hk s r h => run_le (callN_le T k k' hk) (Nat.le_refl _) c s r h
  induction c with
  | skip => intro s r hr; exact ⟨0, hr⟩
  | region is =>
    intro s r hr
    simp only [run] at hr
    split at hr
    · rename_i h1
      obtain ⟨k, hk⟩ := runOps_fin _ _ _ h1
      exact ⟨k, by simp only [run, hk]; exact hr⟩
    · simp at hr
  | drawn is ch =>
    intro s r hr
    simp only [run] at hr
    split at hr
    · rename_i h1
      obtain ⟨k, hk⟩ := runOps_fin _ _ _ h1
      exact ⟨k, by simp only [run, hk]; exact hr⟩
    · simp at hr
  | seq a b iha ihb =>
    intro s r hr
    simp only [run] at hr
    split at hr
    · rename_i s1 h1
      obtain ⟨k1, e1⟩ := iha _ _ h1
      obtain ⟨k2, e2⟩ := ihb _ _ hr
      refine ⟨max k1 k2, ?_⟩
      simp only [run]
      rw [mono a k1 _ (Nat.le_max_left _ _) _ _ e1]
      exact mono b k2 _ (Nat.le_max_right _ _) _ _ e2
    · rename_i hne
      obtain ⟨k1, e1⟩ := iha _ _ hr
      refine ⟨k1, ?_⟩
      simp only [run]
      rw [e1]
      obtain ⟨e, s'⟩ := r
      cases e with
      | normal => exact absurd hr (hne s')
      | exit i => rfl
      | ret => rfl
  | cond c a b iha ihb =>
    intro s r hr
    simp only [run] at hr
    split at hr
    · rename_i hc
      obtain ⟨k, hk⟩ := iha _ _ hr
      exact ⟨k, by simp only [run, hc]; exact hk⟩
    · rename_i hc
      obtain ⟨k, hk⟩ := ihb _ _ hr
      exact ⟨k, by simp only [run, hc]; exact hk⟩
    · simp at hr
  | block id b ih =>
    intro s r hr
    simp only [run] at hr
    split at hr
    · rename_i i s1 h1
      obtain ⟨k, hk⟩ := ih _ _ h1
      exact ⟨k, by simp only [run, hk]; exact hr⟩
    · rename_i hne
      obtain ⟨k, hk⟩ := ih _ _ hr
      refine ⟨k, ?_⟩
      simp only [run]
      rw [hk]
      obtain ⟨e, s'⟩ := r
      cases e with
      | normal => rfl
      | exit i => exact absurd hr (hne i s')
      | ret => rfl
  | loop b ih => intro s r hr; exact loopN_fin (b' := fun k => run (callN T k) n b) (fun s r => ih s r) (fun k k' hk s r => mono b k k' hk s r) n s r hr
  | exit id => intro s r hr; exact ⟨0, hr⟩
  | ret => intro s r hr; exact ⟨0, hr⟩
  | native k p => intro s r hr; exact ⟨0, hr⟩

/-! ### what holds behind a piece of code -/

variable (T) in
def wp (c : VC) (s : St) (Q : VExit → St → Prop) : Prop := ∃ n e s', run (callL T) n c s = some (e, s') ∧ Q e s'

variable (T) in
def wpo (is : List VI) (s : St) (K : St → Prop) : Prop := ∃ s', runOps (callL T) is s = some s' ∧ K s'

theorem CLe.refl (C : CallF) : CLe C C := fun _ _ _ _ h => h

variable (T) in
def seqK (b : VC) (Q : VExit → St → Prop) : VExit → St → Prop
  | .normal, s => wp T b s Q
  | e, s => Q e s

variable (T) in
def loopK (b : VC) (Q : VExit → St → Prop) : VExit → St → Prop
  | .normal, s => wp T (.loop b) s Q
  | e, s => Q e s

def blockK (id : Nat) (Q : VExit → St → Prop) : VExit → St → Prop
  | .exit i, s => if i = id then Q .normal s else Q (.exit i) s
  | e, s => Q e s

variable (T) in
def condK (a b : VC) (s : St) (Q : VExit → St → Prop) : AV → Prop
  | .bool v => (v = true → wp T a s Q) ∧ (v = false → wp T b s Q)
  | _ => False

theorem wp_skip {s : St} {Q : VExit → St → Prop} : wp T .skip s Q = Q .normal s := by
  simp only [wp, run, Option.some.injEq, Prod.mk.injEq, eq_iff_iff]
  exact ⟨fun ⟨_, _, _, ⟨rfl, rfl⟩, h⟩ => h, fun h => ⟨0, _, _, ⟨rfl, rfl⟩, h⟩⟩

theorem wp_ret {s : St} {Q : VExit → St → Prop} : wp T .ret s Q = Q .ret s := by
  simp only [wp, run, Option.some.injEq, Prod.mk.injEq, eq_iff_iff]
  exact ⟨fun ⟨_, _, _, ⟨rfl, rfl⟩, h⟩ => h, fun h => ⟨0, _, _, ⟨rfl, rfl⟩, h⟩⟩

theorem wp_exit {s : St} {i : Nat} {Q : VExit → St → Prop} : wp T (.exit i) s Q = Q (.exit i) s := by
  simp only [wp, run, Option.some.injEq, Prod.mk.injEq, eq_iff_iff]
  exact ⟨fun ⟨_, _, _, ⟨rfl, rfl⟩, h⟩ => h, fun h => ⟨0, _, _, ⟨rfl, rfl⟩, h⟩⟩

theorem wp_region {s : St} {is : List VI} {Q : VExit → St → Prop} : wp T (.region is) s Q = wpo T is s (Q .normal) := by
  simp only [wp, wpo, run, eq_iff_iff]
  constructor
  · rintro ⟨n, e, s', h, hq⟩
    split at h
    · rename_i s1 h1
      simp only [Option.some.injEq, Prod.mk.injEq] at h
      obtain ⟨rfl, rfl⟩ := h
      exact ⟨_, h1, hq⟩
    · simp at h
  · rintro ⟨s', h, hq⟩
    exact ⟨0, .normal, s', by rw [h], hq⟩

theorem wp_drawn {s : St} {is : List VI} {ch : List (Bool × VO × VO)} {Q : VExit → St → Prop} : wp T (.drawn is ch) s Q = wpo T is s (fun s' => allApart s' ch = true ∧ Q .normal s') := by
  simp only [wp, wpo, run, eq_iff_iff]
  constructor
  · rintro ⟨n, e, s', h, hq⟩
    split at h
    · rename_i s1 h1
      split at h
      · rename_i hall
        simp only [Option.some.injEq, Prod.mk.injEq] at h
        obtain ⟨rfl, rfl⟩ := h
        exact ⟨_, h1, hall, hq⟩
      · simp at h
    · simp at h
  · rintro ⟨s', h, hall, hq⟩
    exact ⟨0, .normal, s', by rw [h]; simp only [hall, if_true], hq⟩

theorem wp_seq {s : St} {a b : VC} {Q : VExit → St → Prop} : wp T (.seq a b) s Q = wp T a s (seqK T b Q) := by
  simp only [wp, eq_iff_iff]
  constructor
  · rintro ⟨n, e, s', h, hq⟩
    simp only [run] at h
    split at h
    · rename_i s1 h1
      exact ⟨n, .normal, s1, h1, n, e, s', h, hq⟩
    · rename_i hne
      refine ⟨n, e, s', h, ?_⟩
      cases e with
      | normal => exact absurd h (hne s')
      | exit i => exact hq
      | ret => exact hq
  · rintro ⟨n, e, s1, h, hq⟩
    cases e with
    | normal =>
      obtain ⟨n2, e, s', h2, hq⟩ := hq
      refine ⟨max n n2, e, s', ?_, hq⟩
      simp only [run]
      rw [run_le (CLe.refl _) (Nat.le_max_left n n2) _ _ _ h]
      exact run_le (CLe.refl _) (Nat.le_max_right n n2) _ _ _ h2
    | exit i => exact ⟨n, _, s1, by simp only [run]; rw [h], hq⟩
    | ret => exact ⟨n, _, s1, by simp only [run]; rw [h], hq⟩

theorem wp_block {s : St} {id : Nat} {b : VC} {Q : VExit → St → Prop} : wp T (.block id b) s Q = wp T b s (blockK id Q) := by
  simp only [wp, eq_iff_iff]
  constructor
  · rintro ⟨n, e, s', h, hq⟩
    simp only [run] at h
    split at h
    · rename_i i s1 h1
      refine ⟨n, .exit i, s1, h1, ?_⟩
      simp only [blockK]
      split at h
      · rename_i hi
        simp only [Option.some.injEq, Prod.mk.injEq] at h
        obtain ⟨rfl, rfl⟩ := h
        rw [if_pos hi]; exact hq
      · rename_i hi
        simp only [Option.some.injEq, Prod.mk.injEq] at h
        obtain ⟨rfl, rfl⟩ := h
        rw [if_neg hi]; exact hq
    · rename_i hne
      refine ⟨n, e, s', h, ?_⟩
      cases e with
      | exit i => exact absurd h (hne i s')
      | normal => exact hq
      | ret => exact hq
  · rintro ⟨n, e, s1, h, hq⟩
    cases e with
    | exit i =>
      simp only [blockK] at hq
      split at hq
      · rename_i hi
        exact ⟨n, .normal, s1, by simp only [run]; rw [h]; simp only; rw [if_pos hi], hq⟩
      · rename_i hi
        exact ⟨n, .exit i, s1, by simp only [run]; rw [h]; simp only; rw [if_neg hi], hq⟩
    | normal => exact ⟨n, _, s1, by simp only [run]; rw [h], hq⟩
    | ret => exact ⟨n, _, s1, by simp only [run]; rw [h], hq⟩

theorem wp_cond {s : St} {c : VO} {a b : VC} {Q : VExit → St → Prop} : wp T (.cond c a b) s Q = condK T a b s Q (s.ev c) := by
  rw [eq_iff_iff]
  constructor
  · rintro ⟨n, e, s', h, hq⟩
    simp only [run] at h
    split at h
    · rename_i hc
      rw [hc]; exact ⟨fun _ => ⟨n, e, s', h, hq⟩, fun h => by simp at h⟩
    · rename_i hc
      rw [hc]; exact ⟨fun h => by simp at h, fun _ => ⟨n, e, s', h, hq⟩⟩
    · simp at h
  · intro h
    unfold condK at h
    split at h
    · rename_i v hc
      cases v with
      | true =>
        obtain ⟨n, e, s', h, hq⟩ := h.1 rfl
        exact ⟨n, e, s', by simp only [run]; rw [hc]; exact h, hq⟩
      | false =>
        obtain ⟨n, e, s', h, hq⟩ := h.2 rfl
        exact ⟨n, e, s', by simp only [run]; rw [hc]; exact h, hq⟩
    · exact h.elim

theorem wp_loop_step {s : St} {b : VC} {Q : VExit → St → Prop} (h : wp T b s (loopK T b Q)) : wp T (.loop b) s Q := by
  obtain ⟨n, e, s1, h, hq⟩ := h
  cases e with
  | normal =>
    obtain ⟨n2, e, s', h2, hq⟩ := hq
    refine ⟨max n n2 + 1, e, s', ?_, hq⟩
    simp only [run, loopN]
    rw [run_le (CLe.refl _) (Nat.le_trans (Nat.le_max_left n n2) (Nat.le_succ _)) _ _ _ h]
    exact loopN_le (fun s r => run_le (CLe.refl _) (Nat.le_trans (Nat.le_max_right n n2) (Nat.le_succ _)) b s r) n2 (max n n2) s1 _ (Nat.le_max_right _ _) h2
  | exit i => exact ⟨n + 1, _, s1, by simp only [run, loopN]; rw [run_le (CLe.refl _) (Nat.le_succ n) _ _ _ h], hq⟩
  | ret => exact ⟨n + 1, _, s1, by simp only [run, loopN]; rw [run_le (CLe.refl _) (Nat.le_succ n) _ _ _ h], hq⟩

theorem wp_mono {c : VC} {s : St} {Q Q' : VExit → St → Prop} (h : wp T c s Q) (hq : ∀ e s', Q e s' → Q' e s') : wp T c s Q' := by
  obtain ⟨n, e, s', h1, h2⟩ := h
  exact ⟨n, e, s', h1, hq _ _ h2⟩

/-- What a round of a loop leaves. -/
def roundK (I : St → Prop) (Q : VExit → St → Prop) : VExit → St → Prop
  | .normal, s => I s
  | e, s => Q e s

/-- A loop with a bound. -/
theorem wp_loop {b : VC} {Q : VExit → St → Prop} (I : Nat → St → Prop) (hstep : ∀ n s, I n s → wp T b s (roundK (fun s' => ∃ n', n' < n ∧ I n' s') Q)) : ∀ (n : Nat) (s : St), I n s → wp T (.loop b) s Q := by
  intro n
  induction n using Nat.strongRecOn with
  | ind n ih =>
    intro s hs
    refine wp_loop_step (wp_mono (hstep n s hs) fun e s' h => ?_)
    cases e with
    | normal => obtain ⟨n', h1, h2⟩ := h; exact ih n' h1 s' h2
    | exit i => exact h
    | ret => exact h

theorem wpo_nil {s : St} {K : St → Prop} : wpo T [] s K = K s := by
  simp only [wpo, runOps, Option.some.injEq, eq_iff_iff]
  exact ⟨fun ⟨_, rfl, h⟩ => h, fun h => ⟨_, rfl, h⟩⟩

variable (T) in
def oneK (is : List VI) (K : St → Prop) : Option St → Prop
  | some s => wpo T is s K
  | none => False

theorem wpo_cons {s : St} {i : VI} {is : List VI} {K : St → Prop} : wpo T (i :: is) s K = oneK T is K (one (callL T) i s) := by
  rw [eq_iff_iff]
  constructor
  · rintro ⟨s', h, hk⟩
    rw [runOps_cons] at h
    split at h
    · rename_i s1 h1
      rw [h1]; exact ⟨s', h, hk⟩
    · simp at h
  · intro h
    unfold oneK at h
    split at h
    · rename_i s1 h1
      obtain ⟨s', h, hk⟩ := h
      exact ⟨s', by rw [runOps_cons, h1]; exact h, hk⟩
    · exact h.elim

variable (T) in
def putK (d : Option Nat) (is : List VI) (K : St → Prop) : Option (AV × St) → Prop
  | some (v, s) => wpo T is (s.put d v) K
  | none => False

def isCall : VOp → Bool
  | .call _ _ => true
  | .callP _ _ => true
  | .callR _ _ => true
  | .callO _ _ => true
  | _ => false

/-- An operation without a guard that is no call. -/
theorem wpo_op {s : St} {d : Option Nat} {op : VOp} {is : List VI} {K : St → Prop} (h : isCall op = false) : wpo T (⟨d, op, none⟩ :: is) s K = putK T d is K (exec (d.getD 0) op s) := by
  rw [wpo_cons]
  have : one (callL T) ⟨d, op, none⟩ s = match exec (d.getD 0) op s with
      | some (v, s') => some (s'.put d v)
      | none => none := by
    unfold one
    simp only
    exact step_exec (noCall_of (by cases op <;> first | rfl | simp [isCall] at h)) s
  rw [this]
  cases exec (d.getD 0) op s <;> rfl

variable (T) in
/-- Behind a guard the guard's slot is known. -/
def guardV (i : VI) (j : Nat) (want : Bool) (is : List VI) (s : St) (K : St → Prop) : AV → Prop
  | .bool b => (b = want → wpo T (⟨i.dst, i.op, none⟩ :: is) (s.set j (.bool want)) K) ∧ (b = !want → wpo T is ((s.set j (.bool !want)).put i.dst (.tup [])) K)
  | .tup [] => wpo T is (s.put i.dst (.tup [])) K
  | _ => False

theorem wpo_guard {s : St} {d : Option Nat} {op : VOp} {j : Nat} {want : Bool} {is : List VI} {K : St → Prop} :
    wpo T (⟨d, op, some (j, want)⟩ :: is) s K = guardV T ⟨d, op, none⟩ j want is s K (s.get j) := by
  rw [wpo_cons, eq_iff_iff]
  have e : ∀ v : AV, s.get j = v → (oneK T is K (one (callL T) ⟨d, op, some (j, want)⟩ s) ↔ guardV T ⟨d, op, none⟩ j want is s K v) := by
    intro v hv
    unfold one
    simp only [hv]
    cases v with
    | bool b =>
      have hs : s.set j (.bool b) = s := by rw [← hv]; exact set_get s j
      simp only [guardB, guardV]
      by_cases hb : b = want
      · subst hb
        simp only [if_true, forall_const, hs, wpo_cons]
        refine ⟨fun h => ⟨h, fun hh => ?_⟩, fun h => h.1⟩
        cases b <;> simp at hh
      · have : b = !want := by cases b <;> cases want <;> simp_all
        subst this
        have hne : ¬ ((!want) = want) := hb
        simp only [hne, if_false, forall_const, hs, false_imp_iff, true_and]
        rfl
    | tup vs =>
      cases vs with
      | nil =>
        have hne : ¬ ((!want) = want) := by cases want <;> simp
        simp only [guardB, guardV, hne, if_false]
        rfl
      | cons _ _ => exact Iff.rfl
    | _ => exact Iff.rfl
  exact e _ rfl

/-- A call whose answer is known. -/
theorem wpo_call {s : St} {d : Option Nat} {f : VO} {args : List VO} {g : FuncId} {caps : List AV} {is : List VI} {K : St → Prop} {v : AV} {m : Mem} (hf : s.ev f = .fn (.func g) caps) (hn : (args.all fun x => (s.ev x).nl) = true)
    (hc : callL T g ((args.map fun x => (s.ev x).view) ++ caps.map AV.view) s.mem = some (v, m)) (hk : wpo T is (({ s with mem := m } : St).put d v) K) : wpo T (⟨d, .call f args, none⟩ :: is) s K := by
  rw [wpo_cons]
  have : one (callL T) ⟨d, .call f args, none⟩ s = some (({ s with mem := m } : St).put d v) := by
    unfold one step
    simp only [hf, hn, if_true, hc]
  rw [this]; exact hk

variable (T) in
/-- Where a call without shared memory goes on. -/
def callPK (d : Option Nat) (is : List VI) (s : St) (K : St → Prop) : Option (AV × Mem) → Prop
  | some (v, []) => wpo T is (s.put d v) K
  | _ => False

variable (T) in
def callK (d : Option Nat) (is : List VI) (s : St) (K : St → Prop) : Option (AV × Mem) → Prop
  | some (v, m) => wpo T is (({ s with mem := m } : St).put d v) K
  | _ => False

variable (T) in
def calleeP (d : Option Nat) (is : List VI) (s : St) (K : St → Prop) (args : List VO) : AV → Prop
  | .fn (.func g) caps => (args.all fun x => (s.ev x).nl) = true ∧ callPK T d is s K (callL T g ((args.map fun x => (s.ev x).view) ++ caps.map AV.view) [])
  | _ => False

variable (T) in
def callRK (d : Option Nat) (is : List VI) (s : St) (K : St → Prop) : Option (AV × Mem) → Prop
  | some (v, m) => m = s.mem ∧ wpo T is (s.put d v) K
  | none => False

variable (T) in
def calleeR (d : Option Nat) (is : List VI) (s : St) (K : St → Prop) (args : List VO) : AV → Prop
  | .fn (.func g) caps => (args.all fun x => (s.ev x).nl) = true ∧ callRK T d is s K (callL T g ((args.map fun x => (s.ev x).view) ++ caps.map AV.view) s.mem)
  | _ => False

variable (T) in
def calleeM (d : Option Nat) (is : List VI) (s : St) (K : St → Prop) (args : List VO) : AV → Prop
  | .fn (.func g) caps => (args.all fun x => (s.ev x).nl) = true ∧ callK T d is s K (callL T g ((args.map fun x => (s.ev x).view) ++ caps.map AV.view) s.mem)
  | _ => False

theorem wpo_callP {s : St} {d : Option Nat} {f : VO} {args : List VO} {is : List VI} {K : St → Prop} : wpo T (⟨d, .callP f args, none⟩ :: is) s K = calleeP T d is s K args (s.ev f) := by
  rw [wpo_cons, eq_iff_iff]
  have e : ∀ fv : AV, s.ev f = fv → (oneK T is K (one (callL T) ⟨d, .callP f args, none⟩ s) ↔ calleeP T d is s K args fv) := by
    intro fv hfv
    unfold one step
    simp only [hfv]
    cases fv with
    | fn fo caps =>
      cases fo with
      | func g =>
        simp only [calleeP]
        by_cases hn : (args.all fun x => (s.ev x).nl) = true
        · simp only [hn, if_true, true_and]
          generalize callL T g ((args.map fun x => (s.ev x).view) ++ caps.map AV.view) [] = r
          cases r with
          | none => exact Iff.rfl
          | some p =>
            obtain ⟨v, m⟩ := p
            cases m <;> exact Iff.rfl
        · rw [if_neg hn]
          exact ⟨fun h => h.elim, fun h => absurd h.1 hn⟩
      | _ => exact Iff.rfl
    | _ => exact Iff.rfl
  exact e _ rfl

theorem wpo_callM {s : St} {d : Option Nat} {f : VO} {args : List VO} {is : List VI} {K : St → Prop} : wpo T (⟨d, .call f args, none⟩ :: is) s K = calleeM T d is s K args (s.ev f) := by
  rw [wpo_cons, eq_iff_iff]
  have e : ∀ fv : AV, s.ev f = fv → (oneK T is K (one (callL T) ⟨d, .call f args, none⟩ s) ↔ calleeM T d is s K args fv) := by
    intro fv hfv
    unfold one step
    simp only [hfv]
    cases fv with
    | fn fo caps =>
      cases fo with
      | func g =>
        simp only [calleeM]
        by_cases hn : (args.all fun x => (s.ev x).nl) = true
        · simp only [hn, if_true, true_and]
          generalize callL T g ((args.map fun x => (s.ev x).view) ++ caps.map AV.view) s.mem = r
          cases r with
          | none => exact Iff.rfl
          | some p => exact Iff.rfl
        · rw [if_neg hn]
          exact ⟨fun h => h.elim, fun h => absurd h.1 hn⟩
      | _ => exact Iff.rfl
    | _ => exact Iff.rfl
  exact e _ rfl

variable (T) in
def calleeO (d : Option Nat) (is : List VI) (s : St) (K : St → Prop) (args : List VO) : AV → Prop
  | .fn (.func g) caps => (args.all fun x => (s.ev x).nl) = true ∧ callK T d is s K (callL T g ((args.map fun x => (s.ev x).pass) ++ caps.map AV.view) s.mem)
  | _ => False

theorem wpo_callO {s : St} {d : Option Nat} {f : VO} {args : List VO} {is : List VI} {K : St → Prop} : wpo T (⟨d, .callO f args, none⟩ :: is) s K = calleeO T d is s K args (s.ev f) := by
  rw [wpo_cons, eq_iff_iff]
  have e : ∀ fv : AV, s.ev f = fv → (oneK T is K (one (callL T) ⟨d, .callO f args, none⟩ s) ↔ calleeO T d is s K args fv) := by
    intro fv hfv
    unfold one step
    simp only [hfv]
    cases fv with
    | fn fo caps =>
      cases fo with
      | func g =>
        simp only [calleeO]
        by_cases hn : (args.all fun x => (s.ev x).nl) = true
        · simp only [hn, if_true, true_and]
          generalize callL T g ((args.map fun x => (s.ev x).pass) ++ caps.map AV.view) s.mem = r
          cases r with
          | none => exact Iff.rfl
          | some p => exact Iff.rfl
        · rw [if_neg hn]
          exact ⟨fun h => h.elim, fun h => absurd h.1 hn⟩
      | _ => exact Iff.rfl
    | _ => exact Iff.rfl
  exact e _ rfl

theorem wpo_callR {s : St} {d : Option Nat} {f : VO} {args : List VO} {is : List VI} {K : St → Prop} : wpo T (⟨d, .callR f args, none⟩ :: is) s K = calleeR T d is s K args (s.ev f) := by
  rw [wpo_cons, eq_iff_iff]
  have e : ∀ fv : AV, s.ev f = fv → (oneK T is K (one (callL T) ⟨d, .callR f args, none⟩ s) ↔ calleeR T d is s K args fv) := by
    intro fv hfv
    unfold one step
    simp only [hfv]
    cases fv with
    | fn fo caps =>
      cases fo with
      | func g =>
        simp only [calleeR]
        by_cases hn : (args.all fun x => (s.ev x).nl) = true
        · simp only [hn, if_true, true_and]
          generalize callL T g ((args.map fun x => (s.ev x).view) ++ caps.map AV.view) s.mem = r
          cases r with
          | none => exact Iff.rfl
          | some p =>
            simp only [callRK]
            by_cases hm : eqMem p.2 s.mem = true
            · rw [if_pos hm]
              exact ⟨fun h => ⟨eqMem_eq hm, h⟩, fun h => h.2⟩
            · rw [if_neg hm]
              exact ⟨fun h => h.elim, fun h => (hm (by rw [h.1]; exact eqMem_refl _)).elim⟩
        · rw [if_neg hn]
          exact ⟨fun h => h.elim, fun h => absurd h.1 hn⟩
      | _ => exact Iff.rfl
    | _ => exact Iff.rfl
  exact e _ rfl

/-- What a function's end must be. -/
def retK (rs : List VRes) (P : AV → Mem → Prop) : VExit → St → Prop
  | .exit _, _ => False
  | _, s => ∃ v, result s rs = some v ∧ P v s.mem

/-- A function's answer, out of its body. -/
theorem callL_body {f : FuncId} {vf : VF} {args : List AV} {m : Mem} {v : AV} {m' : Mem} (hT : T f = some vf) (hl : args.length = vf.nparams)
    (h : wp T vf.body (St.init args m) (retK vf.results fun u mu => u = v ∧ mu = m')) : callL T f args m = some (v, m') := by
  obtain ⟨n, e, s', h1, h2⟩ := h
  obtain ⟨k, h3⟩ := run_fin n _ _ _ h1
  have h4 := run_le (callN_le T k (max k n) (Nat.le_max_left _ _)) (Nat.le_max_right k n) _ _ _ h3
  refine callL_of (k := max k n + 1) ?_
  simp only [callN, hT, hl, if_true, h4]
  cases e with
  | exit i => exact h2.elim
  | normal => obtain ⟨u, h5, rfl, rfl⟩ := h2; simp only [h5]
  | ret => obtain ⟨u, h5, rfl, rfl⟩ := h2; simp only [h5]

end
end Go.Vm
/- Rules for running by simp: each operation says where it goes on. -/
namespace Go.Vm

section
variable {T : FuncId → Option VF} {s : St} {is : List VI} {K : St → Prop} {d : Option Nat}

@[simp] theorem sget_set (s : St) (a b : Nat) (v : AV) : (s.set a v).get b = if b = a then v else s.get b := rfl
@[simp] theorem sget_init (args : List AV) (m : Mem) (b : Nat) : (St.init args m).get b = args.getD b .undef := rfl
@[simp] theorem sev_t (s : St) (n : Nat) : s.ev (.t n) = s.get n := rfl
@[simp] theorem sev_k (s : St) (v : AV) : s.ev (.k v) = v := rfl
@[simp] theorem sput_some (s : St) (d : Nat) (v : AV) : s.put (some d) v = s.set d v := rfl
@[simp] theorem sput_none (s : St) (v : AV) : s.put none v = s := rfl
@[simp] theorem sget_addLoc (s : St) (d b : Nat) (o : LObj) : (addLoc s d o).get b = s.get b := rfl
@[simp] theorem sget_addMem (s : St) (b : Nat) (o : LObj) : (addMem s o).get b = s.get b := rfl
@[simp] theorem sget_setObj (s : St) (x : Ix) (o : LObj) (b : Nat) : (s.setObj x o).get b = s.get b := by cases x <;> rfl
@[simp] theorem sget_mem (s : St) (m : Mem) (b : Nat) : (s.withMem m).get b = s.get b := rfl
@[simp] theorem sloc_set (s : St) (a : Nat) (v : AV) : (s.set a v).loc = s.loc := rfl
@[simp] theorem sloc_mem (s : St) (m : Mem) : (s.withMem m).loc = s.loc := rfl
@[simp] theorem sloc_addMem (s : St) (o : LObj) : (addMem s o).loc = s.loc := rfl
@[simp] theorem sloc_addLoc (s : St) (d : Nat) (o : LObj) (t : Nat) : (addLoc s d o).loc t = if t = d then s.loc d ++ [o] else s.loc t := rfl
@[simp] theorem sloc_init (args : List AV) (m : Mem) (t : Nat) : (St.init args m).loc t = [] := rfl
@[simp] theorem sloc_setObj (s : St) (t k : Nat) (o : LObj) (u : Nat) : (s.setObj (.loc t k) o).loc u = if u = t then (s.loc t).set k o else s.loc u := rfl
@[simp] theorem sloc_setObjM (s : St) (i : Nat) (o : LObj) : (s.setObj (.mem i) o).loc = s.loc := rfl
@[simp] theorem smem_set (s : St) (a : Nat) (v : AV) : (s.set a v).mem = s.mem := rfl
@[simp] theorem smem_mem (s : St) (m : Mem) : (s.withMem m).mem = m := rfl
@[simp] theorem smem_addLoc (s : St) (d : Nat) (o : LObj) : (addLoc s d o).mem = s.mem := rfl
@[simp] theorem smem_addMem (s : St) (o : LObj) : (addMem s o).mem = s.mem ++ [some o] := rfl
@[simp] theorem smem_init (args : List AV) (m : Mem) : (St.init args m).mem = m := rfl
@[simp] theorem smem_setObj (s : St) (t k : Nat) (o : LObj) : (s.setObj (.loc t k) o).mem = s.mem := rfl
@[simp] theorem smem_setObjM (s : St) (i : Nat) (o : LObj) : (s.setObj (.mem i) o).mem = s.mem.set i (some o) := rfl
@[simp] theorem sobj_loc (s : St) (t k : Nat) : s.obj (.loc t k) = (s.loc t)[k]? := rfl
def memO : Option (Option LObj) → Option LObj
  | some o => o
  | none => none
@[simp] theorem memO_some (o : Option LObj) : memO (some o) = o := rfl
@[simp] theorem sobj_mem (s : St) (i : Nat) : s.obj (.mem i) = memO s.mem[i]? := by
  unfold memO; rfl

attribute [simp] wp_seq wp_region wp_drawn wp_cond wp_ret wp_skip wp_exit wp_block wpo_nil wpo_callP wpo_callM wpo_callR wpo_callO wpo_guard
@[simp] theorem seqK_normal {b : VC} {Q : VExit → St → Prop} : seqK T b Q .normal = fun s => wp T b s Q := rfl
@[simp] theorem seqK_ret {b : VC} {Q : VExit → St → Prop} : seqK T b Q .ret = Q .ret := rfl
@[simp] theorem seqK_exit {b : VC} {Q : VExit → St → Prop} {i : Nat} : seqK T b Q (.exit i) = Q (.exit i) := rfl
@[simp] theorem blockK_normal {i : Nat} {Q : VExit → St → Prop} : blockK i Q .normal = Q .normal := rfl
@[simp] theorem blockK_ret {i : Nat} {Q : VExit → St → Prop} : blockK i Q .ret = Q .ret := rfl
@[simp] theorem blockK_exit {i j : Nat} {Q : VExit → St → Prop} : blockK i Q (.exit j) = fun s => if j = i then Q .normal s else Q (.exit j) s := rfl
@[simp] theorem roundK_normal {I : St → Prop} {Q : VExit → St → Prop} : roundK I Q .normal = I := rfl
@[simp] theorem roundK_ret {I : St → Prop} {Q : VExit → St → Prop} : roundK I Q .ret = Q .ret := rfl
@[simp] theorem roundK_exit {I : St → Prop} {Q : VExit → St → Prop} {i : Nat} : roundK I Q (.exit i) = Q (.exit i) := rfl
@[simp] theorem condK_bool {a b : VC} {Q : VExit → St → Prop} {v : Bool} : condK T a b s Q (.bool v) = ((v = true → wp T a s Q) ∧ (v = false → wp T b s Q)) := rfl
@[simp] theorem retK_ret {rs : List VRes} {P : AV → Mem → Prop} : retK rs P .ret s = ∃ v, result s rs = some v ∧ P v s.mem := rfl
@[simp] theorem retK_normal {rs : List VRes} {P : AV → Mem → Prop} : retK rs P .normal s = ∃ v, result s rs = some v ∧ P v s.mem := rfl
@[simp] theorem calleeP_fn {args : List VO} {g : FuncId} {caps : List AV} : calleeP T d is s K args (.fn (.func g) caps) = ((args.all fun x => (s.ev x).nl) = true ∧ callPK T d is s K (callL T g ((args.map fun x => (s.ev x).view) ++ caps.map AV.view) [])) := rfl
@[simp] theorem calleeM_fn {args : List VO} {g : FuncId} {caps : List AV} : calleeM T d is s K args (.fn (.func g) caps) = ((args.all fun x => (s.ev x).nl) = true ∧ callK T d is s K (callL T g ((args.map fun x => (s.ev x).view) ++ caps.map AV.view) s.mem)) := rfl
@[simp] theorem calleeR_fn {args : List VO} {g : FuncId} {caps : List AV} : calleeR T d is s K args (.fn (.func g) caps) = ((args.all fun x => (s.ev x).nl) = true ∧ callRK T d is s K (callL T g ((args.map fun x => (s.ev x).view) ++ caps.map AV.view) s.mem)) := rfl
@[simp] theorem calleeO_fn {args : List VO} {g : FuncId} {caps : List AV} : calleeO T d is s K args (.fn (.func g) caps) = ((args.all fun x => (s.ev x).nl) = true ∧ callK T d is s K (callL T g ((args.map fun x => (s.ev x).pass) ++ caps.map AV.view) s.mem)) := rfl
@[simp] theorem callRK_some {v : AV} {m : Mem} : callRK T d is s K (some (v, m)) = (m = s.mem ∧ wpo T is (s.put d v) K) := rfl
@[simp] theorem callPK_some {v : AV} : callPK T d is s K (some (v, [])) = wpo T is (s.put d v) K := rfl
@[simp] theorem callK_some {v : AV} {m : Mem} : callK T d is s K (some (v, m)) = wpo T is ((s.withMem m).put d v) K := rfl
@[simp] theorem guardV_bool {i : VI} {j : Nat} {want b : Bool} : guardV T i j want is s K (.bool b) = ((b = want → wpo T (⟨i.dst, i.op, none⟩ :: is) (s.set j (.bool want)) K) ∧ (b = !want → wpo T is ((s.set j (.bool !want)).put i.dst (.tup [])) K)) := rfl
theorem guard_known {i : VI} {j : Nat} {want b : Bool} (h : s.get j = .bool b) : guardV T i j want is s K (.bool b) = if b = want then wpo T (⟨i.dst, i.op, none⟩ :: is) s K else wpo T is (s.put i.dst (.tup [])) K := by
  have hs : s.set j (.bool b) = s := by rw [← h]; exact set_get s j
  rw [guardV_bool, eq_iff_iff]
  by_cases hb : b = want
  · subst hb; cases b <;> simp [hs]
  · have : want = !b := by cases b <;> cases want <;> simp_all
    subst this; cases b <;> simp [hs]
@[simp high] theorem guardV_tt {i : VI} {j : Nat} (h : s.get j = .bool true) : guardV T i j true is s K (.bool true) = wpo T (⟨i.dst, i.op, none⟩ :: is) s K := by rw [guard_known h]; simp
@[simp high] theorem guardV_ff {i : VI} {j : Nat} (h : s.get j = .bool false) : guardV T i j false is s K (.bool false) = wpo T (⟨i.dst, i.op, none⟩ :: is) s K := by rw [guard_known h]; simp
@[simp high] theorem guardV_tf {i : VI} {j : Nat} (h : s.get j = .bool false) : guardV T i j true is s K (.bool false) = wpo T is (s.put i.dst (.tup [])) K := by rw [guard_known h]; simp
@[simp high] theorem guardV_ft {i : VI} {j : Nat} (h : s.get j = .bool true) : guardV T i j false is s K (.bool true) = wpo T is (s.put i.dst (.tup [])) K := by rw [guard_known h]; simp
@[simp] theorem guardV_skip {i : VI} {j : Nat} {want : Bool} : guardV T i j want is s K (.tup []) = wpo T is (s.put i.dst (.tup [])) K := rfl

@[simp] theorem putK_some {v : AV} : putK T d is K (some (v, s)) = wpo T is (s.put d v) K := rfl

variable (T) in
def valK (d : Option Nat) (is : List VI) (s : St) (K : St → Prop) : Option AV → Prop
  | some v => wpo T is (s.put d v) K
  | none => False
@[simp] theorem valK_some {v : AV} : valK T d is s K (some v) = wpo T is (s.put d v) K := rfl
@[simp] theorem valK_none : valK T d is s K none = False := rfl
variable (T) in
/-- A value under a condition. -/
@[simp] theorem valK_if {p : Prop} [Decidable p] {a : Option AV} : valK T d is s K (if p then a else none) = (p ∧ valK T d is s K a) := by
  by_cases h : p <;> simp [h]

@[simp] theorem valK_ifn {p : Prop} [Decidable p] {a : Option AV} : valK T d is s K (if p then none else a) = (¬p ∧ valK T d is s K a) := by
  by_cases h : p <;> simp [h]

theorem wpo_pure {op : VOp} (hp : isPure op = true) (hc : isCall op = false) : wpo T (⟨d, op, none⟩ :: is) s K = valK T d is s K (pval s.ev op) := by
  rw [wpo_op hc, exec_pure hp]
  cases pval s.ev op <;> rfl

@[simp] theorem wx_move {x : VO} : wpo T (⟨d, .move x, none⟩ :: is) s K = wpo T is (s.put d (s.ev x).view) K := wpo_pure rfl rfl

def nilckV : AV → Option AV
  | .ptr i o => some (.ptr i o)
  | .vptr cs o => some (.vptr cs o)
  | .fn f cs => some (.fn f cs)
  | _ => none
@[simp] theorem wx_nilck {x : VO} : wpo T (⟨d, .nilck x, none⟩ :: is) s K = valK T d is s K (nilckV (s.ev x)) := wpo_pure rfl rfl
@[simp] theorem wx_bin {op : BinOp} {x y : VO} : wpo T (⟨d, .bin op x y, none⟩ :: is) s K = valK T d is s K (bin? op (s.ev x) (s.ev y)) := wpo_pure rfl rfl
@[simp] theorem wx_un {op : UnOp} {x : VO} : wpo T (⟨d, .un op x, none⟩ :: is) s K = valK T d is s K (un? op (s.ev x)) := wpo_pure rfl rfl
def pickV (a b : AV) : AV → Option AV
  | .bool true => some a.view
  | .bool false => some b.view
  | _ => none
@[simp] theorem wx_pick {c a b : VO} : wpo T (⟨d, .pick c a b, none⟩ :: is) s K = valK T d is s K (pickV (s.ev a) (s.ev b) (s.ev c)) := wpo_pure rfl rfl
def eqBoolV (neg : Bool) : AV → AV → Option AV
  | .bool a, .bool b => some (.bool (if neg then !(a == b) else a == b))
  | _, _ => none
@[simp] theorem wx_eqBool {neg : Bool} {x y : VO} : wpo T (⟨d, .eqBool neg x y, none⟩ :: is) s K = valK T d is s K (eqBoolV neg (s.ev x) (s.ev y)) := wpo_pure rfl rfl
def eqNilV (neg : Bool) : Option Bool → Option AV
  | some b => some (.bool (if neg then !b else b))
  | none => none
@[simp] theorem wx_eqNil {k : Nat} {neg : Bool} {x : VO} : wpo T (⟨d, .eqNil k neg x, none⟩ :: is) s K = valK T d is s K (eqNilV neg (isNil? k (s.ev x))) := wpo_pure rfl rfl
def eqAggV (neg : Bool) (spots : List (Nat × Nat)) : AV → AV → Option AV
  | .agg xs, .agg ys => eqNilV neg (eqCells xs ys spots)
  | _, _ => none
@[simp] theorem wx_eqAgg {neg : Bool} {spots : List (Nat × Nat)} {x y : VO} : wpo T (⟨d, .eqAgg neg spots x y, none⟩ :: is) s K = valK T d is s K (eqAggV neg spots (s.ev x) (s.ev y)) := wpo_pure rfl rfl
def cintV (k : IntKind) : AV → Option AV
  | .int _ n => some (.int k (k.wrap n))
  | _ => none
@[simp] theorem wx_cint {k : IntKind} {x : VO} : wpo T (⟨d, .cint k x, none⟩ :: is) s K = valK T d is s K (cintV k (s.ev x)) := wpo_pure rfl rfl
def cstrV : AV → Option AV
  | .str s => some (.str s)
  | _ => none
@[simp] theorem wx_cstr {x : VO} : wpo T (⟨d, .cstr x, none⟩ :: is) s K = valK T d is s K (cstrV (s.ev x)) := wpo_pure rfl rfl
def bytesOfV : AV → Option AV
  | .str s => some (.vec none true (s.map fun b => .int .u8 b.toNat))
  | _ => none
@[simp] theorem wx_bytesOf {x : VO} : wpo T (⟨d, .bytesOf x, none⟩ :: is) s K = valK T d is s K (bytesOfV (s.ev x)) := wpo_pure rfl rfl
def bytesS : Option (List UInt8) → Option AV
  | some bs => some (.str bs)
  | none => none
@[simp] theorem bytesS_some {bs : List UInt8} : bytesS (some bs) = some (.str bs) := rfl
def strOfV : AV → Option AV
  | .vec _ _ xs => bytesS (bytesV xs)
  | _ => none
@[simp] theorem strOfV_vec {o : Option Nat} {nn : Bool} {xs : List AV} : strOfV (.vec o nn xs) = bytesS (bytesV xs) := rfl
@[simp] theorem bytesV_nil : bytesV [] = some [] := rfl
@[simp] theorem bytesV_cons {n : Int} {xs : List AV} : bytesV (.int .u8 n :: xs) = (bytesV xs).map (UInt8.ofNat n.toNat :: ·) := by
  rw [bytesV]; cases bytesV xs <;> rfl
@[simp] theorem bytesV_map (bs : List UInt8) : bytesV (bs.map fun b => AV.int .u8 b.toNat) = some bs := by
  induction bs with
  | nil => rfl
  | cons b r ih => rw [List.map_cons, bytesV_cons, ih]; simp
@[simp] theorem wx_strOf {x : VO} : wpo T (⟨d, .strOf x, none⟩ :: is) s K = valK T d is s K (strOfV (s.ev x)) := by
  rw [show strOfV (s.ev x) = pval s.ev (.strOf x) from rfl]
  exact wpo_pure rfl rfl
def faddrV (off : Nat) : AV → Option AV
  | .ptr i o => some (.ptr i (o + off))
  | .vptr cs o => some (.vptr cs (o + off))
  | _ => none
@[simp] theorem wx_faddr {off : Nat} {x : VO} : wpo T (⟨d, .faddr off x, none⟩ :: is) s K = valK T d is s K (faddrV off (s.ev x)) := wpo_pure rfl rfl
def fieldV (off : Nat) (agg : Option Nat) : AV → Option AV
  | .agg cs => part? agg cs off
  | _ => none
@[simp] theorem wx_field {off : Nat} {agg : Option Nat} {x : VO} : wpo T (⟨d, .field off agg x, none⟩ :: is) s K = valK T d is s K (fieldV off agg (s.ev x)) := wpo_pure rfl rfl
def elV (esz : Nat) : Option AV → Option AV
  | some e => if e.cells.length = esz then some (.vptr e.cells 0) else none
  | none => none
def iaddrSlV (esz : Nat) : AV → AV → Option AV
  | .vec _ _ xs, .int _ i => if 0 ≤ i then elV esz xs[i.toNat]? else none
  | .row ix off len, .int _ i => if 0 ≤ i ∧ i < len then some (.ptr ix (off + i.toNat * esz)) else none
  | .orow _ m len, .int _ i => if 0 ≤ i ∧ i < len then some (.ptr (.mem m) (0 + i.toNat * esz)) else none
  | _, _ => none
@[simp] theorem wx_iaddrSl {esz : Nat} {x i : VO} : wpo T (⟨d, .iaddrSl esz x i, none⟩ :: is) s K = valK T d is s K (iaddrSlV esz (s.ev x) (s.ev i)) := wpo_pure rfl rfl
def iaddrArrV (n esz : Nat) : AV → AV → Option AV
  | .ptr ix o, .int _ i => if 0 ≤ i ∧ i < n then some (.ptr ix (o + i.toNat * esz)) else none
  | .vptr cs o, .int _ i => if 0 ≤ i ∧ i < n then some (.vptr cs (o + i.toNat * esz)) else none
  | _, _ => none
@[simp] theorem wx_iaddrArr {n esz : Nat} {x i : VO} : wpo T (⟨d, .iaddrArr n esz x i, none⟩ :: is) s K = valK T d is s K (iaddrArrV n esz (s.ev x) (s.ev i)) := wpo_pure rfl rfl
def idxArrV (n esz : Nat) (agg : Option Nat) : AV → AV → Option AV
  | .agg cs, .int _ i => if 0 ≤ i ∧ i < n then part? agg cs (i.toNat * esz) else none
  | _, _ => none
@[simp] theorem wx_idxArr {n esz : Nat} {agg : Option Nat} {x i : VO} : wpo T (⟨d, .idxArr n esz agg x i, none⟩ :: is) s K = valK T d is s K (idxArrV n esz agg (s.ev x) (s.ev i)) := wpo_pure rfl rfl
def byteV : Option UInt8 → Option AV
  | some b => some (.int .u8 b.toNat)
  | none => none
def idxStrV : AV → AV → Option AV
  | .str s, .int _ i => if 0 ≤ i then byteV s[i.toNat]? else none
  | _, _ => none
@[simp] theorem wx_idxStr {x i : VO} : wpo T (⟨d, .idxStr x i, none⟩ :: is) s K = valK T d is s K (idxStrV (s.ev x) (s.ev i)) := wpo_pure rfl rfl
def extV (i : Nat) : AV → Option AV
  | .tup vs => match vs[i]? with
    | some v => some v.view
    | none => none
  | _ => none
@[simp] theorem wx_ext {x : VO} {i : Nat} : wpo T (⟨d, .ext x i, none⟩ :: is) s K = valK T d is s K (extV i (s.ev x)) := wpo_pure rfl rfl
def lenSlV : AV → Option AV
  | .vec _ _ xs => some (.int .i64 xs.length)
  | .row _ _ len => some (.int .i64 len)
  | .orow _ _ len => some (.int .i64 len)
  | .zcap _ => some (.int .i64 0)
  | .typed 1 _ _ _ len => some (.int .i64 len)
  | _ => none
@[simp] theorem wx_lenSl {x : VO} : wpo T (⟨d, .lenSl x, none⟩ :: is) s K = valK T d is s K (lenSlV (s.ev x)) := wpo_pure rfl rfl
def lenStrV : AV → Option AV
  | .str s => some (.int .i64 s.length)
  | _ => none
@[simp] theorem wx_lenStr {x : VO} : wpo T (⟨d, .lenStr x, none⟩ :: is) s K = valK T d is s K (lenStrV (s.ev x)) := wpo_pure rfl rfl
def minmaxV (m : Bool) : List AV → Option AV
  | v :: rest => minmax? m v.view rest
  | [] => none
@[simp] theorem wx_minmax {m : Bool} {xs : List VO} : wpo T (⟨d, .minmax m xs, none⟩ :: is) s K = valK T d is s K (minmaxV m (xs.map s.ev)) := wpo_pure rfl rfl
def buildV (ok : Bool) : Option (List AV) → Option AV
  | some cs => if ok then some (.agg cs) else none
  | none => none
@[simp] theorem wx_build {zero : List AV} {parts : List (Nat × Nat × VO)} : wpo T (⟨d, .build zero parts, none⟩ :: is) s K = valK T d is s K (buildV (parts.all fun p => (s.ev p.2.2).good) (overlay zero (parts.map fun p => (p.1, p.2.1, s.ev p.2.2)))) := wpo_pure rfl rfl
def buildSlV (esz : Nat) (ok : Bool) : Option (List AV) → Option AV
  | some xs => if ok then some (.vec (some esz) true xs) else none
  | none => none
@[simp] theorem wx_buildSl {esz n : Nat} {zero : AV} {parts : List (Nat × VO)} : wpo T (⟨d, .buildSl esz zero n parts, none⟩ :: is) s K =
    valK T d is s K (if zero.cells.length = esz then buildSlV esz (parts.all fun p => (s.ev p.2).good) (overEls esz (List.replicate n zero) (parts.map fun p => (p.1, s.ev p.2))) else none) := wpo_pure rfl rfl
def slStrV : AV → AV → AV → Option AV
  | .str s, .int _ l, .int _ h => if 0 ≤ l ∧ l ≤ h ∧ h ≤ s.length then some (.str ((s.take h.toNat).drop l.toNat)) else none
  | _, _, _ => none
def slArrV (n esz : Nat) : AV → AV → AV → Option AV
  | .ptr ix o, .int _ l, .int _ h => if 0 ≤ l ∧ l ≤ h ∧ h ≤ n ∧ l < n then some (.row ix (o + l.toNat * esz) (h.toNat - l.toNat)) else none
  | _, _, _ => none
@[simp] theorem slArrV_mk {n esz : Nat} {ix : Ix} {o : Nat} {k k' : IntKind} {l h : Int} : slArrV n esz (.ptr ix o) (.int k l) (.int k' h) = if 0 ≤ l ∧ l ≤ h ∧ h ≤ n ∧ l < n then some (.row ix (o + l.toNat * esz) (h.toNat - l.toNat)) else none := rfl
@[simp] theorem wx_slArr {n esz : Nat} {x : VO} {lo hi : Option VO} : wpo T (⟨d, .slArr n esz x lo hi, none⟩ :: is) s K = valK T d is s K (slArrV n esz (s.ev x) (optV s.ev lo (.int .i64 0)) (optV s.ev hi (.int .i64 n))) := wpo_pure rfl rfl
def strLen : AV → AV
  | .str s => .int .i64 s.length
  | _ => .undef
@[simp] theorem wx_slStr {x : VO} {lo hi : Option VO} : wpo T (⟨d, .slStr x lo hi, none⟩ :: is) s K = valK T d is s K (slStrV (s.ev x) (optV s.ev lo (.int .i64 0)) (optV s.ev hi (strLen (s.ev x)))) := by
  rw [wpo_pure rfl rfl]
  congr 1
  simp only [pval]
  cases s.ev x <;> first | rfl | skip
  rename_i b
  simp only [strLen]
  cases optV s.ev lo (.int .i64 0) <;> cases optV s.ev hi (.int .i64 b.length) <;> rfl
@[simp] theorem optV_none (ev : VO → AV) (v : AV) : optV ev none v = v := rfl
@[simp] theorem optV_some (ev : VO → AV) (x : VO) (v : AV) : optV ev (some x) v = ev x := rfl
def mkIfaceV (t : TypeId) (v : AV) : Option AV := if v.nl then some (.iface t v.view) else none
@[simp] theorem wx_mkIface {t : TypeId} {x : VO} : wpo T (⟨d, .mkIface t x, none⟩ :: is) s K = valK T d is s K (mkIfaceV t (s.ev x)) := wpo_pure rfl rfl

/-! ### the operations on memory -/

def takeV (s : St) (t : Nat) : AV → AV × St
  | .vec (some z) nn xs => (.vec (some z) nn xs, s.set t (.vec none nn xs))
  | v => (v, s)
theorem takeT_eq (s : St) (t : Nat) : s.takeT t = takeV s t (s.get t) := rfl
variable (T) in
def takeK (d : Option Nat) (is : List VI) (K : St → Prop) (r : AV × St) : Prop := wpo T is (r.2.put d r.1) K
@[simp] theorem takeK_mk {v : AV} : takeK T d is K (v, s) = wpo T is (s.put d v) K := rfl
@[simp] theorem wx_take {t : Nat} : wpo T (⟨d, .take t, none⟩ :: is) s K = takeK T d is K (takeV s t (s.get t)) := by
  rw [wpo_op rfl]; rfl
@[simp] theorem wx_assign_t {t : Nat} : wpo T (⟨d, .assign (.t t), none⟩ :: is) s K = takeK T d is K (takeV s t (s.get t)) := by
  rw [wpo_op rfl]; rfl
@[simp] theorem wx_assign_k {v : AV} : wpo T (⟨d, .assign (.k v), none⟩ :: is) s K = wpo T is (s.put d v) K := by
  rw [wpo_op rfl]; rfl
@[simp] theorem wx_alloc_loc {d : Nat} {cs : List AV} : wpo T (⟨some d, .alloc false cs, none⟩ :: is) s K = wpo T is ((addLoc s d (.cells false cs)).set d (.ptr (.loc d (s.loc d).length) 0)) K := by
  rw [wpo_op rfl]; rfl
@[simp] theorem wx_alloc_mem {d : Nat} {cs : List AV} : wpo T (⟨some d, .alloc true cs, none⟩ :: is) s K = wpo T is ((addMem s (.cells false cs)).set d (.ptr (.mem s.mem.length) 0)) K := by
  rw [wpo_op rfl]; rfl
@[simp] theorem wx_box_loc {d : Nat} {x : VO} : wpo T (⟨some d, .box false x, none⟩ :: is) s K = ((s.ev x).good = true ∧ wpo T is ((addLoc s d (.cells false ((s.ev x).cells.map AV.view))).set d (.ptr (.loc d (s.loc d).length) 0)) K) := by
  rw [wpo_op rfl]
  simp only [exec]
  by_cases h : (s.ev x).good = true
  · rw [if_pos h]; simp only [h, true_and]; rfl
  · rw [if_neg h]; simp [h, putK]
@[simp] theorem wx_box_mem {d : Nat} {x : VO} : wpo T (⟨some d, .box true x, none⟩ :: is) s K = ((s.ev x).good = true ∧ wpo T is ((addMem s (.cells false ((s.ev x).cells.map AV.view))).set d (.ptr (.mem s.mem.length) 0)) K) := by
  rw [wpo_op rfl]
  simp only [exec]
  by_cases h : (s.ev x).good = true
  · rw [if_pos h]; simp only [h, true_and]; rfl
  · rw [if_neg h]; simp [h, putK]
def partO (agg : Option Nat) (o : Nat) : Option (List AV) → Option AV
  | some cs => part? agg cs o
  | none => none
@[simp] theorem partO_some (agg : Option Nat) (o : Nat) (cs : List AV) : partO agg o (some cs) = part? agg cs o := rfl
def loadV (agg : Option Nat) (s : St) : AV → Option AV
  | .vptr cs o => part? agg cs o
  | .ptr ix o => partO agg o (objCells true (s.obj ix))
  | _ => none
@[simp] theorem loadV_vptr (agg : Option Nat) (s : St) (cs : List AV) (o : Nat) : loadV agg s (.vptr cs o) = part? agg cs o := rfl
@[simp] theorem loadV_ptr (agg : Option Nat) (s : St) (ix : Ix) (o : Nat) : loadV agg s (.ptr ix o) = partO agg o (objCells true (s.obj ix)) := rfl
def rawO (o : Nat) : Option (List AV) → Option AV
  | some cs => rawCell cs[o]?
  | none => none
@[simp] theorem rawO_some (o : Nat) (cs : List AV) : rawO o (some cs) = rawCell cs[o]? := rfl
def loadOV (s : St) : AV → Option AV
  | .ptr ix o => rawO o (objCells false (s.obj ix))
  | _ => none
@[simp] theorem loadOV_ptr (s : St) (ix : Ix) (o : Nat) : loadOV s (.ptr ix o) = rawO o (objCells false (s.obj ix)) := rfl
@[simp] theorem rawCell_orow {z i len : Nat} : rawCell (some (.orow z i len)) = some (.orow z i len) := rfl
@[simp] theorem rawCell_vec {nn : Bool} {xs : List AV} : rawCell (some (.vec none nn xs)) = some (.vec none nn xs) := rfl
@[simp] theorem wx_loadO {x : VO} : wpo T (⟨d, .loadO x, none⟩ :: is) s K = valK T d is s K (loadOV s (s.ev x)) := by
  rw [wpo_op rfl]
  simp only [exec]
  cases s.ev x with
  | ptr ix o =>
    simp only [loadOV]
    cases objCells false (s.obj ix) with
    | none => rfl
    | some cs => simp only [rawO]; cases rawCell cs[o]? <;> rfl
  | _ => rfl
@[simp] theorem wx_load {agg : Option Nat} {x : VO} : wpo T (⟨d, .load agg x, none⟩ :: is) s K = valK T d is s K (loadV agg s (s.ev x)) := by
  rw [wpo_op rfl]
  simp only [exec]
  cases s.ev x with
  | vptr cs o => simp only [loadV]; cases part? agg cs o <;> rfl
  | ptr ix o =>
    simp only [loadV]
    cases objCells true (s.obj ix) with
    | none => rfl
    | some cs => simp only [partO]; cases part? agg cs o <;> rfl
  | _ => rfl
@[simp] theorem objCells_cells (b f : Bool) (cs : List AV) : objCells b (some (.cells f cs)) = if b || !f then some cs else none := rfl
def stCells (sz : Nat) (o : Nat) (cs : List AV) (v : AV) : Option (List AV) :=
  if v.cells.length = sz ∧ o + sz ≤ cs.length ∧ v.cells.all AV.one then
    match v with
    | .agg vs => some (putCells cs o (vs.map AV.view))
    | v => some (cs.set o v)
  else none
variable (T) in
def stK (d : Option Nat) (is : List VI) (s : St) (K : St → Prop) (ix : Ix) : Option (List AV) → Prop
  | some cs => wpo T is ((s.setObj ix (.cells false cs)).put d .undef) K
  | none => False
@[simp] theorem stK_some {ix : Ix} {cs : List AV} : stK T d is s K ix (some cs) = wpo T is ((s.setObj ix (.cells false cs)).put d .undef) K := rfl
variable (T) in
def storeK (sz : Nat) (d : Option Nat) (is : List VI) (K : St → Prop) (ix : Ix) (o : Nat) (r : AV × St) : Option (List AV) → Prop
  | some cs => stK T d is r.2 K ix (stCells sz o cs r.1)
  | none => False
@[simp] theorem storeK_some {sz : Nat} {ix : Ix} {o : Nat} {r : AV × St} {cs : List AV} : storeK T sz d is K ix o r (some cs) = stK T d is r.2 K ix (stCells sz o cs r.1) := rfl
variable (T) in
def stK0 (sz : Nat) (d : Option Nat) (is : List VI) (s : St) (K : St → Prop) (x : VO) : AV → Prop
  | .ptr ix o => storeK T sz d is K ix o (s.takeO x) (objCells false (s.obj ix))
  | _ => False
@[simp] theorem stK0_ptr {sz : Nat} {x : VO} {ix : Ix} {o : Nat} : stK0 T sz d is s K x (.ptr ix o) = storeK T sz d is K ix o (s.takeO x) (objCells false (s.obj ix)) := rfl
@[simp] theorem takeO_k (s : St) (v : AV) : s.takeO (.k v) = (v, s) := rfl
@[simp] theorem takeO_t (s : St) (n : Nat) : s.takeO (.t n) = takeV s n (s.get n) := rfl
@[simp] theorem wx_store {sz : Nat} {a x : VO} : wpo T (⟨d, .store sz a x, none⟩ :: is) s K = stK0 T sz d is s K x (s.ev a) := by
  rw [wpo_op rfl]
  simp only [exec]
  cases s.ev a with
  | ptr ix o =>
    simp only [stK0]
    cases objCells false (s.obj ix) with
    | none => rfl
    | some cs =>
      simp only [storeK, stCells]
      split
      · generalize (s.takeO x).1 = v
        cases v <;> rfl
      · rfl
  | _ => rfl
@[simp] theorem slV_wx {esz : Nat} {x : VO} {lo hi : Option VO} {o : Option Nat} {nn : Bool} {xs : List AV} (h : s.ev x = .vec o nn xs) : wpo T (⟨d, .slSl esz x lo hi none, none⟩ :: is) s K =
    valK T d is s K (slVec esz nn xs (optV s.ev lo (.int .i64 0)) (optV s.ev hi (.int .i64 xs.length)) none) := by
  rw [wpo_op rfl]
  simp only [exec, h, Option.map_none]
  cases slVec esz nn xs (optV s.ev lo (.int .i64 0)) (optV s.ev hi (.int .i64 xs.length)) none <;> rfl
def appV (esz bytes : Nat) (ys : List AV) : AV → Option AV
  | .vec (some z) nn xs => if z = esz ∧ 0 < bytes ∧ (xs.length + ys.length) * bytes ≤ 140737488355328 then some (.vec (some esz) (nn || !ys.isEmpty) (xs ++ ys.map AV.view)) else none
  | .vec none false xs => if 0 < bytes ∧ (xs.length + ys.length) * bytes ≤ 140737488355328 then some (.vec (some esz) (!ys.isEmpty) (xs ++ ys.map AV.view)) else none
  | _ => none
variable (T) in
def appK (esz bytes : Nat) (d : Option Nat) (is : List VI) (K : St → Prop) (r : AV × St) : Option (List AV) → Prop
  | some ys => valK T d is r.2 K (appV esz bytes ys r.1)
  | none => False
@[simp] theorem appK_some {esz bytes : Nat} {r : AV × St} {ys : List AV} : appK T esz bytes d is K r (some ys) = valK T d is r.2 K (appV esz bytes ys r.1) := rfl
@[simp] theorem wx_append {esz bytes : Nat} {a x : VO} : wpo T (⟨d, .append esz bytes a x, none⟩ :: is) s K = appK T esz bytes d is K (s.takeO a) (elems? esz (s.ev x)) := by
  rw [wpo_op rfl]
  simp only [exec]
  cases elems? esz (s.ev x) with
  | none => rfl
  | some ys =>
    simp only [appK]
    generalize s.takeO a = r
    obtain ⟨v, s'⟩ := r
    cases v with
    | vec o nn xs =>
      cases o with
      | none =>
        cases nn with
        | true => rfl
        | false => simp only [appV]; split <;> rfl
      | some z => simp only [appV]; split <;> rfl
    | _ => rfl
variable (T) in
def capK (d : Option Nat) (is : List VI) (K : St → Prop) (f : Fn) : Option (List AV × St) → Prop
  | some (vs, s) => wpo T is (s.put d (.fn f vs)) K
  | none => False
@[simp] theorem capK_some {f : Fn} {vs : List AV} : capK T d is K f (some (vs, s)) = wpo T is (s.put d (.fn f vs)) K := rfl
@[simp] theorem wx_mkfn {f : Fn} {caps : List VO} : wpo T (⟨d, .mkfn f caps, none⟩ :: is) s K = capK T d is K f (capture (caps.map s.ev) s) := by
  rw [wpo_op rfl]
  simp only [exec]
  cases capture (caps.map s.ev) s <;> rfl

variable {b nn : Bool} {k : IntKind} {n : Int} {l : List UInt8} {cs xs : List AV} {o : Option Nat} {i j off len : Nat} {f : Fn} {t : TypeId} {v : AV}
@[simp] theorem view_undef : AV.view .undef = .undef := rfl
@[simp] theorem cells_undef : AV.cells .undef = [.undef] := rfl
@[simp] theorem nl_undef : AV.nl .undef = true := rfl
@[simp] theorem good_undef : AV.good .undef = false := rfl
@[simp] theorem one_undef : AV.one .undef = false := rfl
@[simp] theorem take_undef {u : Nat} : takeV s u .undef = (.undef, s) := rfl
@[simp] theorem view_bool : AV.view (.bool b) = (.bool b) := rfl
@[simp] theorem cells_bool : AV.cells (.bool b) = [(.bool b)] := rfl
@[simp] theorem nl_bool : AV.nl (.bool b) = true := rfl
@[simp] theorem good_bool : AV.good (.bool b) = true := rfl
@[simp] theorem one_bool : AV.one (.bool b) = true := rfl
@[simp] theorem take_bool {u : Nat} : takeV s u (.bool b) = ((.bool b), s) := rfl
@[simp] theorem view_int : AV.view (.int k n) = (.int k n) := rfl
@[simp] theorem cells_int : AV.cells (.int k n) = [(.int k n)] := rfl
@[simp] theorem nl_int : AV.nl (.int k n) = true := rfl
@[simp] theorem good_int : AV.good (.int k n) = true := rfl
@[simp] theorem one_int : AV.one (.int k n) = true := rfl
@[simp] theorem take_int {u : Nat} : takeV s u (.int k n) = ((.int k n), s) := rfl
@[simp] theorem view_str : AV.view (.str l) = (.str l) := rfl
@[simp] theorem cells_str : AV.cells (.str l) = [(.str l)] := rfl
@[simp] theorem nl_str : AV.nl (.str l) = true := rfl
@[simp] theorem good_str : AV.good (.str l) = true := rfl
@[simp] theorem one_str : AV.one (.str l) = true := rfl
@[simp] theorem take_str {u : Nat} : takeV s u (.str l) = ((.str l), s) := rfl
@[simp] theorem view_agg : AV.view (.agg cs) = (.agg cs) := rfl
@[simp] theorem cells_agg : AV.cells (.agg cs) = cs := rfl
@[simp] theorem nl_agg : AV.nl (.agg cs) = true := rfl
@[simp] theorem good_agg : AV.good (.agg cs) = true := rfl
@[simp] theorem one_agg : AV.one (.agg cs) = false := rfl
@[simp] theorem take_agg {u : Nat} : takeV s u (.agg cs) = ((.agg cs), s) := rfl
@[simp] theorem view_tup : AV.view (.tup cs) = (.tup cs) := rfl
@[simp] theorem cells_tup : AV.cells (.tup cs) = [(.tup cs)] := rfl
@[simp] theorem nl_tup : AV.nl (.tup cs) = true := rfl
@[simp] theorem good_tup : AV.good (.tup cs) = true := rfl
@[simp] theorem one_tup : AV.one (.tup cs) = false := rfl
@[simp] theorem take_tup {u : Nat} : takeV s u (.tup cs) = ((.tup cs), s) := rfl
@[simp] theorem view_vec : AV.view (.vec o nn xs) = .vec none nn xs := rfl
@[simp] theorem cells_vec : AV.cells (.vec o nn xs) = [(.vec o nn xs)] := rfl
@[simp] theorem nl_vec : AV.nl (.vec o nn xs) = true := rfl
@[simp] theorem good_vec : AV.good (.vec o nn xs) = true := rfl
@[simp] theorem one_vec : AV.one (.vec o nn xs) = true := rfl
@[simp] theorem view_rowm : AV.view (.row (.mem i) off len) = (.row (.mem i) off len) := rfl
@[simp] theorem cells_rowm : AV.cells (.row (.mem i) off len) = [(.row (.mem i) off len)] := rfl
@[simp] theorem nl_rowm : AV.nl (.row (.mem i) off len) = true := rfl
@[simp] theorem good_rowm : AV.good (.row (.mem i) off len) = true := rfl
@[simp] theorem one_rowm : AV.one (.row (.mem i) off len) = true := rfl
@[simp] theorem take_rowm {u : Nat} : takeV s u (.row (.mem i) off len) = ((.row (.mem i) off len), s) := rfl
@[simp] theorem view_orow {z : Nat} : AV.view (.orow z i len) = (.row (.mem i) 0 len) := rfl
@[simp] theorem cells_orow {z : Nat} : AV.cells (.orow z i len) = [(.orow z i len)] := rfl
@[simp] theorem nl_orow {z : Nat} : AV.nl (.orow z i len) = true := rfl
@[simp] theorem good_orow {z : Nat} : AV.good (.orow z i len) = true := rfl
@[simp] theorem one_orow {z : Nat} : AV.one (.orow z i len) = true := rfl
@[simp] theorem take_orow {u z : Nat} : takeV s u (.orow z i len) = ((.orow z i len), s) := rfl
@[simp] theorem view_ptrm : AV.view (.ptr (.mem i) off) = (.ptr (.mem i) off) := rfl
@[simp] theorem cells_ptrm : AV.cells (.ptr (.mem i) off) = [(.ptr (.mem i) off)] := rfl
@[simp] theorem nl_ptrm : AV.nl (.ptr (.mem i) off) = true := rfl
@[simp] theorem good_ptrm : AV.good (.ptr (.mem i) off) = true := rfl
@[simp] theorem one_ptrm : AV.one (.ptr (.mem i) off) = true := rfl
@[simp] theorem take_ptrm {u : Nat} : takeV s u (.ptr (.mem i) off) = ((.ptr (.mem i) off), s) := rfl
@[simp] theorem view_rowl : AV.view (.row (.loc i j) off len) = (.row (.loc i j) off len) := rfl
@[simp] theorem cells_rowl : AV.cells (.row (.loc i j) off len) = [(.row (.loc i j) off len)] := rfl
@[simp] theorem nl_rowl : AV.nl (.row (.loc i j) off len) = false := rfl
@[simp] theorem good_rowl : AV.good (.row (.loc i j) off len) = false := rfl
@[simp] theorem one_rowl : AV.one (.row (.loc i j) off len) = false := rfl
@[simp] theorem take_rowl {u : Nat} : takeV s u (.row (.loc i j) off len) = ((.row (.loc i j) off len), s) := rfl
@[simp] theorem view_ptrl : AV.view (.ptr (.loc i j) off) = (.ptr (.loc i j) off) := rfl
@[simp] theorem cells_ptrl : AV.cells (.ptr (.loc i j) off) = [(.ptr (.loc i j) off)] := rfl
@[simp] theorem nl_ptrl : AV.nl (.ptr (.loc i j) off) = false := rfl
@[simp] theorem good_ptrl : AV.good (.ptr (.loc i j) off) = false := rfl
@[simp] theorem one_ptrl : AV.one (.ptr (.loc i j) off) = false := rfl
@[simp] theorem take_ptrl {u : Nat} : takeV s u (.ptr (.loc i j) off) = ((.ptr (.loc i j) off), s) := rfl
@[simp] theorem view_vptr : AV.view (.vptr cs off) = (.vptr cs off) := rfl
@[simp] theorem cells_vptr : AV.cells (.vptr cs off) = [(.vptr cs off)] := rfl
@[simp] theorem nl_vptr : AV.nl (.vptr cs off) = true := rfl
@[simp] theorem good_vptr : AV.good (.vptr cs off) = true := rfl
@[simp] theorem one_vptr : AV.one (.vptr cs off) = true := rfl
@[simp] theorem take_vptr {u : Nat} : takeV s u (.vptr cs off) = ((.vptr cs off), s) := rfl
@[simp] theorem view_nilptr : AV.view .nilptr = .nilptr := rfl
@[simp] theorem cells_nilptr : AV.cells .nilptr = [.nilptr] := rfl
@[simp] theorem nl_nilptr : AV.nl .nilptr = true := rfl
@[simp] theorem good_nilptr : AV.good .nilptr = true := rfl
@[simp] theorem one_nilptr : AV.one .nilptr = true := rfl
@[simp] theorem take_nilptr {u : Nat} : takeV s u .nilptr = (.nilptr, s) := rfl
@[simp] theorem view_fn : AV.view (.fn f cs) = (.fn f cs) := rfl
@[simp] theorem cells_fn : AV.cells (.fn f cs) = [(.fn f cs)] := rfl
@[simp] theorem nl_fn : AV.nl (.fn f cs) = true := rfl
@[simp] theorem good_fn : AV.good (.fn f cs) = true := rfl
@[simp] theorem one_fn : AV.one (.fn f cs) = true := rfl
@[simp] theorem take_fn {u : Nat} : takeV s u (.fn f cs) = ((.fn f cs), s) := rfl
@[simp] theorem view_nilfn : AV.view .nilfn = .nilfn := rfl
@[simp] theorem cells_nilfn : AV.cells .nilfn = [.nilfn] := rfl
@[simp] theorem nl_nilfn : AV.nl .nilfn = true := rfl
@[simp] theorem good_nilfn : AV.good .nilfn = true := rfl
@[simp] theorem one_nilfn : AV.one .nilfn = true := rfl
@[simp] theorem take_nilfn {u : Nat} : takeV s u .nilfn = (.nilfn, s) := rfl
@[simp] theorem view_iface : AV.view (.iface t v) = (.iface t v) := rfl
@[simp] theorem cells_iface : AV.cells (.iface t v) = [(.iface t v)] := rfl
@[simp] theorem nl_iface : AV.nl (.iface t v) = true := rfl
@[simp] theorem good_iface : AV.good (.iface t v) = true := rfl
@[simp] theorem one_iface : AV.one (.iface t v) = true := rfl
@[simp] theorem take_iface {u : Nat} : takeV s u (.iface t v) = ((.iface t v), s) := rfl
@[simp] theorem view_nilIface : AV.view .nilIface = .nilIface := rfl
@[simp] theorem cells_nilIface : AV.cells .nilIface = [.nilIface] := rfl
@[simp] theorem nl_nilIface : AV.nl .nilIface = true := rfl
@[simp] theorem good_nilIface : AV.good .nilIface = true := rfl
@[simp] theorem one_nilIface : AV.one .nilIface = true := rfl
@[simp] theorem take_nilIface {u : Nat} : takeV s u .nilIface = (.nilIface, s) := rfl
@[simp] theorem view_zcap : AV.view (.zcap nn) = (.zcap nn) := rfl
@[simp] theorem cells_zcap : AV.cells (.zcap nn) = [(.zcap nn)] := rfl
@[simp] theorem nl_zcap : AV.nl (.zcap nn) = true := rfl
@[simp] theorem good_zcap : AV.good (.zcap nn) = true := rfl
@[simp] theorem one_zcap : AV.one (.zcap nn) = true := rfl
@[simp] theorem take_zcap {u : Nat} : takeV s u (.zcap nn) = ((.zcap nn), s) := rfl
@[simp] theorem take_vecn {u : Nat} : takeV s u (.vec none nn xs) = (.vec none nn xs, s) := rfl
@[simp] theorem take_vecs {u z : Nat} : takeV s u (.vec (some z) nn xs) = (.vec (some z) nn xs, s.set u (.vec none nn xs)) := rfl
@[simp] theorem nilck_ptr {ix : Ix} : nilckV (.ptr ix off) = some (.ptr ix off) := rfl
@[simp] theorem nilck_vptr  : nilckV (.vptr cs off) = some (.vptr cs off) := rfl
@[simp] theorem nilck_fn  : nilckV (.fn f cs) = some (.fn f cs) := rfl
@[simp] theorem bin_add {n' : Int} : bin? .add (.int k n) (.int k n') = some (.int k (k.wrap (n + n'))) := by simp [bin?, binInt]
@[simp] theorem bin_sub {n' : Int} : bin? .sub (.int k n) (.int k n') = some (.int k (k.wrap (n - n'))) := by simp [bin?, binInt]
@[simp] theorem bin_mul {n' : Int} : bin? .mul (.int k n) (.int k n') = some (.int k (k.wrap (n * n'))) := by simp [bin?, binInt]
@[simp] theorem bin_quo {n' : Int} : bin? .quo (.int k n) (.int k n') = if n' = 0 then none else some (.int k (k.wrap (n.tdiv n'))) := by simp [bin?, binInt]
@[simp] theorem bin_rem {n' : Int} : bin? .rem (.int k n) (.int k n') = if n' = 0 then none else some (.int k (n.tmod n')) := by simp [bin?, binInt]
@[simp] theorem bin_eql {n' : Int} : bin? .eql (.int k n) (.int k n') = some (.bool (n == n')) := by simp [bin?, binInt]
@[simp] theorem bin_neq {n' : Int} : bin? .neq (.int k n) (.int k n') = some (.bool (n != n')) := by simp [bin?, binInt]
@[simp] theorem bin_lss {n' : Int} : bin? .lss (.int k n) (.int k n') = some (.bool (n < n')) := by simp [bin?, binInt]
@[simp] theorem bin_leq {n' : Int} : bin? .leq (.int k n) (.int k n') = some (.bool (n ≤ n')) := by simp [bin?, binInt]
@[simp] theorem bin_gtr {n' : Int} : bin? .gtr (.int k n) (.int k n') = some (.bool (n > n')) := by simp [bin?, binInt]
@[simp] theorem bin_geq {n' : Int} : bin? .geq (.int k n) (.int k n') = some (.bool (n ≥ n')) := by simp [bin?, binInt]
@[simp] theorem bin_shr {k' : IntKind} {n' : Int} : bin? .shr (.int k n) (.int k' n') = if n' < 0 then none else some (.int k (n.fdiv (2 ^ (min n'.toNat k.bits)))) := by simp [bin?]
@[simp] theorem bin_shl {k' : IntKind} {n' : Int} : bin? .shl (.int k n) (.int k' n') = if n' < 0 then none else some (.int k (k.wrap (n * 2 ^ (min n'.toNat k.bits)))) := by simp [bin?]
@[simp] theorem bins_add {l' : List UInt8} : bin? .add (.str l) (.str l') = binStr .add l l' := rfl
@[simp] theorem bins_eql {l' : List UInt8} : bin? .eql (.str l) (.str l') = binStr .eql l l' := rfl
@[simp] theorem bins_neq {l' : List UInt8} : bin? .neq (.str l) (.str l') = binStr .neq l l' := rfl
@[simp] theorem bins_lss {l' : List UInt8} : bin? .lss (.str l) (.str l') = binStr .lss l l' := rfl
@[simp] theorem bins_leq {l' : List UInt8} : bin? .leq (.str l) (.str l') = binStr .leq l l' := rfl
@[simp] theorem bins_gtr {l' : List UInt8} : bin? .gtr (.str l) (.str l') = binStr .gtr l l' := rfl
@[simp] theorem bins_geq {l' : List UInt8} : bin? .geq (.str l) (.str l') = binStr .geq l l' := rfl
attribute [simp] binStr
@[simp] theorem un_neg  : un? .neg (.int k n) = some (.int k (k.wrap (0 - n))) := rfl
@[simp] theorem un_not  : un? .not (.bool b) = some (.bool !b) := rfl
@[simp] theorem pick_bool {a c : AV} : pickV a c (.bool b) = some (if b then a.view else c.view) := by cases b <;> rfl
@[simp] theorem eqBool_mk {neg b' : Bool} : eqBoolV neg (.bool b) (.bool b') = some (.bool (if neg then !(b == b') else b == b')) := rfl
@[simp] theorem eqNil_some {neg : Bool} : eqNilV neg (some b) = some (.bool (if neg then !b else b)) := rfl
@[simp] theorem eqAgg_mk {neg : Bool} {sp : List (Nat × Nat)} : eqAggV neg sp (.agg cs) (.agg xs) = eqNilV neg (eqCells cs xs sp) := rfl
@[simp] theorem cint_mk {k' : IntKind} : cintV k' (.int k n) = some (.int k' (k'.wrap n)) := rfl
@[simp] theorem cstr_mk  : cstrV (.str l) = some (.str l) := rfl
@[simp] theorem bytesOf_mk  : bytesOfV (.str l) = some (.vec none true (l.map fun b => .int .u8 b.toNat)) := rfl
@[simp] theorem faddr_ptr {ix : Ix} {z : Nat} : faddrV z (.ptr ix off) = some (.ptr ix (off + z)) := rfl
@[simp] theorem faddr_vptr {z : Nat} : faddrV z (.vptr cs off) = some (.vptr cs (off + z)) := rfl
@[simp] theorem field_mk {z : Nat} {agg : Option Nat} : fieldV z agg (.agg cs) = part? agg cs z := rfl
@[simp] theorem el_some {z : Nat} : elV z (some v) = if v.cells.length = z then some (.vptr v.cells 0) else none := rfl
@[simp] theorem el_none {z : Nat} : elV z none = none := rfl
@[simp] theorem iaddrSl_vec {z : Nat} : iaddrSlV z (.vec o nn xs) (.int k n) = if 0 ≤ n then elV z xs[n.toNat]? else none := rfl
@[simp] theorem iaddrSl_row {z : Nat} {ix : Ix} : iaddrSlV z (.row ix off len) (.int k n) = if 0 ≤ n ∧ n < len then some (.ptr ix (off + n.toNat * z)) else none := rfl
@[simp] theorem iaddrArr_ptr {z : Nat} {ix : Ix} : iaddrArrV i z (.ptr ix off) (.int k n) = if 0 ≤ n ∧ n < i then some (.ptr ix (off + n.toNat * z)) else none := rfl
@[simp] theorem iaddrArr_vptr {z : Nat} : iaddrArrV i z (.vptr cs off) (.int k n) = if 0 ≤ n ∧ n < i then some (.vptr cs (off + n.toNat * z)) else none := rfl
@[simp] theorem idxArr_mk {z : Nat} {agg : Option Nat} : idxArrV i z agg (.agg cs) (.int k n) = if 0 ≤ n ∧ n < i then part? agg cs (n.toNat * z) else none := rfl
@[simp] theorem byte_some {u : UInt8} : byteV (some u) = some (.int .u8 u.toNat) := rfl
@[simp] theorem byte_none  : byteV none = none := rfl
@[simp] theorem idxStr_mk  : idxStrV (.str l) (.int k n) = if 0 ≤ n then byteV l[n.toNat]? else none := rfl
@[simp] theorem ext_zero : extV 0 (.tup (v :: cs)) = some v.view := rfl
@[simp] theorem ext_succ : extV (i + 1) (.tup (v :: cs)) = extV i (.tup cs) := rfl
@[simp] theorem ext_one {w : AV} : extV 1 (.tup (v :: w :: cs)) = some w.view := rfl
@[simp] theorem ext_two {w u : AV} : extV 2 (.tup (v :: w :: u :: cs)) = some u.view := rfl
@[simp] theorem ext_three {w u y : AV} : extV 3 (.tup (v :: w :: u :: y :: cs)) = some y.view := rfl
@[simp] theorem lenSl_vec  : lenSlV (.vec o nn xs) = some (.int .i64 xs.length) := rfl
@[simp] theorem iaddrSl_orow {z z' m : Nat} : iaddrSlV z (.orow z' m len) (.int k n) = if 0 ≤ n ∧ n < len then some (.ptr (.mem m) (0 + n.toNat * z)) else none := rfl
@[simp] theorem lenSl_orow {z m : Nat} : lenSlV (.orow z m len) = some (.int .i64 len) := rfl
@[simp] theorem isNil_orow {z m : Nat} : isNil? 0 (.orow z m len) = some false := rfl
@[simp] theorem lenSl_row {ix : Ix} : lenSlV (.row ix off len) = some (.int .i64 len) := rfl
@[simp] theorem lenStr_mk  : lenStrV (.str l) = some (.int .i64 l.length) := rfl
@[simp] theorem strLen_mk  : strLen (.str l) = .int .i64 l.length := rfl
@[simp] theorem slStr_mk {k' : IntKind} {n' : Int} : slStrV (.str l) (.int k n) (.int k' n') = if 0 ≤ n ∧ n ≤ n' ∧ n' ≤ l.length then some (.str ((l.take n'.toNat).drop n.toNat)) else none := rfl
@[simp] theorem isNil_vec  : isNil? 0 (.vec o nn xs) = some !nn := rfl
@[simp] theorem isNil_row {ix : Ix} : isNil? 0 (.row ix off len) = some false := rfl
@[simp] theorem isNil_fn  : isNil? 2 (.fn f cs) = some false := rfl
@[simp] theorem isNil_nilfn  : isNil? 2 .nilfn = some true := rfl
@[simp] theorem isNil_ptr {ix : Ix} : isNil? 1 (.ptr ix off) = some false := rfl
@[simp] theorem isNil_vptr  : isNil? 1 (.vptr cs off) = some false := rfl
@[simp] theorem isNil_nilptr  : isNil? 1 .nilptr = some true := rfl
@[simp] theorem buildV_some  : buildV b (some cs) = if b then some (.agg cs) else none := rfl
@[simp] theorem buildSlV_some {z : Nat} : buildSlV z b (some cs) = if b then some (.vec (some z) true cs) else none := rfl
@[simp] theorem slVec_mk {z : Nat} {k' : IntKind} {n' : Int} : slVec z nn xs (.int k n) (.int k' n') none = if 0 ≤ n ∧ n ≤ n' ∧ n' ≤ xs.length ∧ (xs.all fun x => x.cells.length = z) then some (.vec none nn ((xs.take n'.toNat).drop n.toNat)) else none := rfl
@[simp] theorem part_some {z : Nat} : part? (some z) cs off = if off + z ≤ cs.length then some (.agg ((cs.drop off).take z)) else none := rfl
def viewO : Option AV → Option AV
  | some v => some v.view
  | none => none
@[simp] theorem viewO_some : viewO (some v) = some v.view := rfl
@[simp] theorem part_none : part? none cs off = viewO cs[off]? := by
  unfold part? viewO; rfl
theorem stCells_agg {z : Nat} : stCells z off cs (.agg xs) = if xs.length = z ∧ off + z ≤ cs.length ∧ xs.all AV.one then some (putCells cs off (xs.map AV.view)) else none := rfl
@[simp] theorem stCells_one {z : Nat} (h : v.one = true) : stCells z off cs v = if 1 = z ∧ off + z ≤ cs.length then some (cs.set off v) else none := by
  cases v <;> simp [AV.one] at h <;> simp [stCells, AV.cells, AV.one, h]
attribute [simp] stCells_agg
@[simp] theorem app_some {z : Nat} {bytes : Nat} {ys : List AV} : appV i bytes ys (.vec (some z) nn xs) = if z = i ∧ 0 < bytes ∧ (xs.length + ys.length) * bytes ≤ 140737488355328 then some (.vec (some i) (nn || !ys.isEmpty) (xs ++ ys.map AV.view)) else none := rfl
@[simp] theorem app_none {bytes : Nat} {ys : List AV} : appV i bytes ys (.vec none false xs) = if 0 < bytes ∧ (xs.length + ys.length) * bytes ≤ 140737488355328 then some (.vec (some i) (!ys.isEmpty) (xs ++ ys.map AV.view)) else none := rfl
@[simp] theorem elems_vec {z : Nat} : elems? z (.vec o nn xs) = if xs.all (fun x => x.cells.length = z && x.cells.all AV.one) then some xs else none := rfl
attribute [simp] overlay overEls putCells eqCells resList result mkIfaceV
@[simp] theorem eqCell_int {n' : Int} : eqCell 0 (.int k n) (.int k n') = some (n == n') := by simp [eqCell]
@[simp] theorem eqCell_str {l' : List UInt8} : eqCell 1 (.str l) (.str l') = some (l == l') := rfl
@[simp] theorem eqCell_bool {b' : Bool} : eqCell 2 (.bool b) (.bool b') = some (b == b') := rfl
@[simp] theorem resOf_tmp {u : Nat} : resOf s (.tmp u) = if (s.get u).nl then some (s.get u).view else none := rfl
@[simp] theorem resOf_tmpO {u : Nat} : resOf s (.tmpO u) = if (s.get u).nl then some (s.get u).pass else none := rfl
def resC (s : St) (agg : Option Nat) : AV → Option AV
  | .ptr ix o => partO agg o (objCells true (s.obj ix))
  | _ => none
@[simp] theorem resC_ptr {ix : Ix} {agg : Option Nat} : resC s agg (.ptr ix off) = partO agg off (objCells true (s.obj ix)) := rfl
@[simp] theorem resOf_cell {u : Nat} {agg : Option Nat} : resOf s (.cell u agg) = resC s agg (s.get u) := by
  simp only [resOf]
  cases s.get u <;> rfl
@[simp] theorem minmaxV_cons {m : Bool} : minmaxV m (v :: xs) = minmax? m v.view xs := rfl
@[simp] theorem minmax_nil {m : Bool} : minmax? m v [] = some v := by cases v <;> rfl
@[simp] theorem minmax_cons {m : Bool} {n' : Int} : minmax? m (.int k n) (.int k n' :: xs) = minmax? m (.int k (if m then (if n' > n then n' else n) else (if n' < n then n' else n))) xs := by simp [minmax?]
@[simp] theorem capture_nil : capture [] s = some ([], s) := rfl

end
end Go.Vm
/- Vectors of known elements. -/
namespace Go.Vm

/-- A vector whose elements are shown by e. -/
def vv {α : Type} (o : Option Nat) (nn : Bool) (e : α → AV) (xs : List α) : AV := .vec o nn (xs.map e)

/-- An element by a whole number. -/
def gi {α : Type} [Inhabited α] (xs : List α) (i : Int) : α := xs.getD i.toNat default

section
variable {α : Type} {e : α → AV} {xs : List α} {o : Option Nat} {nn : Bool}

@[simp] theorem vv_view : (vv o nn e xs).view = vv none nn e xs := rfl
@[simp] theorem vv_cells : (vv o nn e xs).cells = [vv o nn e xs] := rfl
@[simp] theorem vv_nl : (vv o nn e xs).nl = true := rfl
@[simp] theorem vv_good : (vv o nn e xs).good = true := rfl
@[simp] theorem vv_one : (vv o nn e xs).one = true := rfl
@[simp] theorem vv_len : lenSlV (vv o nn e xs) = some (.int .i64 xs.length) := by simp [vv]
@[simp] theorem vv_take_none (s : St) (t : Nat) : takeV s t (vv none nn e xs) = (vv none nn e xs, s) := rfl
@[simp] theorem vv_take_some (s : St) (t z : Nat) : takeV s t (vv (some z) nn e xs) = (vv (some z) nn e xs, s.set t (vv none nn e xs)) := rfl
@[simp] theorem vv_nil : isNil? 0 (vv o nn e xs) = some !nn := rfl

theorem gi_get [Inhabited α] {i : Int} (h0 : 0 ≤ i) (h : i < xs.length) : xs[i.toNat]? = some (gi xs i) := by
  have : i.toNat < xs.length := by omega
  simp [gi, List.getD, this]

theorem gi_nat [Inhabited α] {i : Nat} (h : i < xs.length) : gi xs (i : Int) = xs[i] := by
  simp [gi, List.getD, h]

theorem gi_mem [Inhabited α] {i : Int} (h0 : 0 ≤ i) (h : i < xs.length) : gi xs i ∈ xs := by
  have : i.toNat < xs.length := by omega
  simp [gi, List.getD, this]

@[simp] theorem vv_iaddr [Inhabited α] {esz : Nat} {k : IntKind} {i : Int} : iaddrSlV esz (vv o nn e xs) (.int k i) = if 0 ≤ i ∧ i < xs.length then elV esz (some (e (gi xs i))) else none := by
  simp only [vv, iaddrSlV, List.getElem?_map]
  by_cases h0 : 0 ≤ i
  · by_cases h : i < xs.length
    · simp only [h0, h, if_true, true_and, gi_get h0 h, Option.map_some]
    · have : xs.length ≤ i.toNat := by omega
      simp only [h0, h, if_true, and_false, if_false, List.getElem?_eq_none this, Option.map_none]
      rfl
  · simp only [h0, if_false, false_and]

end

theorem wrap64 {n : Int} (h1 : -9223372036854775808 ≤ n) (h2 : n ≤ 9223372036854775807) : IntKind.wrap .i64 n = n := by
  have e1 : IntKind.wrap .i64 n = if n % 18446744073709551616 ≥ 9223372036854775808 then n % 18446744073709551616 - 18446744073709551616 else n % 18446744073709551616 := by
    simp [IntKind.wrap, IntKind.bits, IntKind.signed]
  rw [e1]
  split <;> omega

theorem wrapU64 {n : Int} (h1 : 0 ≤ n) (h2 : n < 18446744073709551616) : IntKind.wrap .u64 n = n := by
  have e1 : IntKind.wrap .u64 n = n % 18446744073709551616 := by
    simp [IntKind.wrap, IntKind.bits, IntKind.signed]
  rw [e1]
  omega

end Go.Vm
/- Words that hold a number: hidden from arithmetic. -/
namespace Go.Vm
def W64 (n k : Int) : Prop := IntKind.wrap .i64 n = k
theorem W64.eq {n k : Int} (h : W64 n k) : IntKind.wrap .i64 n = k := h
theorem W64.mk' {n k : Int} (h1 : 0 ≤ k) (h2 : k ≤ 9223372036854775807) (e : n = k) : W64 n k := by
  unfold W64; rw [e]; exact wrap64 (by omega) h2
end Go.Vm
/- Contracts of library functions over slices of structs, once for all seats: IndexFunc and ContainsFunc. -/
namespace Go.Vm
section
variable {T : FuncId → Option VF} {α : Type} [Inhabited α]
set_option maxRecDepth 10000
set_option maxHeartbeats 4000000

/-- slices.IndexFunc over structs of n cells. -/
def cIndex (n : Nat) : VF := ⟨2, [(.tmp 4)], (.seq (.region [⟨(.some 4), (.assign (.k (.int .i64 0))), .none⟩]) (.seq (.seq
 (.region [⟨(.some 6), (.move (.t 0)), .none⟩, ⟨(.some 7), (.lenSl (.t 6)), .none⟩, ⟨(.some 8), (.move (.k (.int .i64 0))), .none⟩])
 (.block 0 (.loop (.seq (.region [⟨(.some 9), (.bin .lss (.t 8) (.t 7)), .none⟩]) (.seq (.cond (.t 9) .skip (.exit 0)) (.seq
 (.block 1 (.seq (.region [⟨(.some 10), (.move (.t 8)), .none⟩, ⟨(.some 5), (.assign (.t 10)), .none⟩]) (.seq
 (.region [⟨(.some 11), (.move (.t 1)), .none⟩, ⟨(.some 12), (.move (.t 0)), .none⟩, ⟨(.some 13), (.move (.t 5)), .none⟩, ⟨(.some 14), (.iaddrSl n (.t 12) (.t 13)), .none⟩, ⟨(.some 15), (.load (.some n) (.t 14)), .none⟩, ⟨(.some 16), (.callP (.t 11) [(.t 15)]), .none⟩])
 (.cond (.t 16) (.seq (.region [⟨(.some 17), (.move (.t 5)), .none⟩, ⟨(.some 4), (.assign (.t 17)), .none⟩]) .ret) .skip))))
 (.region [⟨(.some 18), (.bin .add (.t 8) (.k (.int .i64 1))), .none⟩, ⟨(.some 8), (.move (.t 18)), .none⟩])))))))
 (.seq (.region [⟨(.some 4), (.assign (.k (.int .i64 (-1)))), .none⟩]) .ret)))⟩

/-- slices.ContainsFunc, which calls IndexFunc (number k). -/
def cContains (k : Nat) : VF := ⟨2, [(.tmp 4)], (.seq (.region [⟨(.some 4), (.assign (.k (.bool .false))), .none⟩]) (.seq
 (.region [⟨(.some 5), (.move (.t 0)), .none⟩, ⟨(.some 6), (.move (.t 1)), .none⟩, ⟨(.some 7), (.callP (.k (.fn (.func k) [])) [(.t 5), (.t 6)]), .none⟩, ⟨(.some 8), (.bin .geq (.t 7) (.k (.int .i64 0))), .none⟩, ⟨(.some 4), (.assign (.t 8)), .none⟩]) .ret))⟩

/-- Where p holds first, or -1. -/
def fidx (p : α → Bool) (xs : List α) : Int := match xs.findIdx? p with | some i => (i : Int) | none => -1

theorem index_vec {f : FuncId} {n : Nat} (hT : T f = some (cIndex n)) (e : α → List AV) (he : ∀ x, (e x).length = n) (xs : List α) (nn : Bool) (g : FuncId) (caps : List AV) (p : α → Bool)
    (hp : ∀ z ∈ xs, callL T g (.agg (e z) :: caps.map AV.view) [] = some (.bool (p z), [])) (hlen : (xs.length : Int) < 9223372036854775807) (m : Mem) :
    callL T f [vv none nn (fun x => .agg (e x)) xs, .fn (.func g) caps] m = some (.int .i64 (fidx p xs), m) := by
  apply callL_body hT rfl
  simp [cIndex, fidx]
  refine wp_loop (fun w s => ∃ i : Nat, w = xs.length - i ∧ i ≤ xs.length ∧ s.get 0 = vv none nn (fun x => .agg (e x)) xs ∧ s.get 1 = .fn (.func g) caps ∧ s.get 7 = .int .i64 xs.length ∧ s.get 8 = .int .i64 i ∧ s.mem = m ∧ ∀ j (h : j < xs.length), j < i → p xs[j] = false) ?_ xs.length _ ?_
  rotate_left
  · exact ⟨0, by simp⟩
  rintro w s ⟨i, hn, hi, h0, h1, h7, h8, hm, hbef⟩
  simp [h0, h1, h7, h8, hm]
  refine ⟨fun h => ⟨h, ?_⟩, fun h => ?_⟩
  · rw [gi_nat h]
    have ht : List.take n (e xs[i]) = e xs[i] := by rw [← he xs[i]]; exact List.take_length
    simp [he, ht, hp _ (List.getElem_mem h), h0, h1, h7, h8, hm]
    refine ⟨fun hpi => ?_, fun hpi => ?_⟩
    · have : xs.findIdx? p = some i := by
        rw [List.findIdx?_eq_some_iff_getElem]
        exact ⟨h, hpi, fun j hj => by simp [hbef j (by omega) hj]⟩
      rw [this]
    · refine ⟨xs.length - (i + 1), by omega, i + 1, rfl, by omega, by rw [wrap64 (by omega) (by omega)]; rfl, fun j hj hlt => ?_⟩
      rcases Nat.lt_succ_iff_lt_or_eq.1 hlt with h' | rfl
      · exact hbef j hj h'
      · exact hpi
  · have : xs.findIdx? p = none := by
      rw [List.findIdx?_eq_none_iff]
      intro x hx
      obtain ⟨j, hj, rfl⟩ := List.getElem_of_mem hx
      exact hbef j hj (by omega)
    rw [this]

theorem contains_vec {f k : FuncId} {n : Nat} (hT : T f = some (cContains k)) (hTk : T k = some (cIndex n)) (e : α → List AV) (he : ∀ x, (e x).length = n) (xs : List α) (nn : Bool) (g : FuncId) (caps : List AV) (p : α → Bool)
    (hp : ∀ z ∈ xs, callL T g (.agg (e z) :: caps.map AV.view) [] = some (.bool (p z), [])) (hlen : (xs.length : Int) < 9223372036854775807) (m : Mem) :
    callL T f [vv none nn (fun x => .agg (e x)) xs, .fn (.func g) caps] m = some (.bool (xs.any p), m) := by
  apply callL_body hT rfl
  simp [cContains, index_vec hTk e he xs nn g caps p hp hlen, fidx]
  cases h : xs.findIdx? p with
  | none =>
    rw [List.findIdx?_eq_none_iff] at h
    simp
    exact h
  | some i =>
    rw [List.findIdx?_eq_some_iff_getElem] at h
    obtain ⟨hi, hp, _⟩ := h
    simp
    exact ⟨_, List.getElem_mem hi, hp⟩

omit [Inhabited α] in
@[simp] theorem vv_app {e : α → AV} {xs : List α} {nn : Bool} {z i bytes : Nat} {ys : List AV} : appV i bytes ys (vv (some z) nn e xs) = if z = i ∧ 0 < bytes ∧ (xs.length + ys.length) * bytes ≤ 140737488355328 then some (.vec (some i) (nn || !ys.isEmpty) (xs.map e ++ ys.map AV.view)) else none := by
  simp [vv]

omit [Inhabited α] in
theorem vv_snoc {e : α → AV} {xs : List α} {nn : Bool} {i : Nat} {o : Option Nat} (h : i < xs.length) : AV.vec o nn ((xs.map e).take i ++ [e xs[i]]) = vv o nn e (xs.take (i + 1)) := by
  rw [vv, List.take_succ_eq_append_getElem h, List.map_append, List.map_take]; rfl
end
end Go.Vm
/- Rules: parts of known vectors, closures that take objects along, rows of known elements in memory. -/
namespace Go.Vm
section
variable {T : FuncId → Option VF} {s : St} {is : List VI} {K : St → Prop} {d : Option Nat} {α : Type}

/-- A part of a known vector. -/
def slVv (esz : Nat) (nn : Bool) (e : α → AV) (xs : List α) : AV → AV → Option AV
  | .int _ l, .int _ h => if 0 ≤ l ∧ l ≤ h ∧ h ≤ xs.length ∧ (∀ x ∈ xs, (e x).cells.length = esz) then some (vv none nn e ((xs.take h.toNat).drop l.toNat)) else none
  | _, _ => none
@[simp] theorem slVv_mk {esz : Nat} {nn : Bool} {e : α → AV} {xs : List α} {k k' : IntKind} {l h : Int} : slVv esz nn e xs (.int k l) (.int k' h) = if 0 ≤ l ∧ l ≤ h ∧ h ≤ xs.length ∧ (∀ x ∈ xs, (e x).cells.length = esz) then some (vv none nn e ((xs.take h.toNat).drop l.toNat)) else none := rfl
theorem slVec_vv {esz : Nat} {nn : Bool} {e : α → AV} {xs : List α} {l h : AV} : slVec esz nn (xs.map e) l h none = slVv esz nn e xs l h := by
  cases l <;> cases h <;> try rfl
  rename_i k l k' h
  rw [slVec_mk, slVv_mk]
  have hall : ((xs.map e).all fun x => x.cells.length = esz) = true ↔ ∀ x ∈ xs, (e x).cells.length = esz := by simp
  by_cases h : 0 ≤ l ∧ l ≤ h ∧ h ≤ xs.length ∧ (∀ x ∈ xs, (e x).cells.length = esz)
  · rw [if_pos h, if_pos (by rw [hall, List.length_map]; exact h)]
    simp [vv, List.map_take, List.map_drop]
  · rw [if_neg h, if_neg (by rw [hall, List.length_map]; exact h)]
def rowSl (esz : Nat) (ix : Ix) (off len : Nat) : AV → AV → Option AV
  | .int _ l, .int _ h => if 0 ≤ l ∧ l ≤ h ∧ h ≤ len ∧ (l = 0 ∨ l < len) then some (.row ix (off + l.toNat * esz) (h.toNat - l.toNat)) else none
  | _, _ => none
@[simp] theorem rowSl_mk {esz off len : Nat} {ix : Ix} {k k' : IntKind} {l h : Int} : rowSl esz ix off len (.int k l) (.int k' h) = if 0 ≤ l ∧ l ≤ h ∧ h ≤ len ∧ (l = 0 ∨ l < len) then some (.row ix (off + l.toNat * esz) (h.toNat - l.toNat)) else none := rfl
def orowSl (z i len : Nat) : AV → AV → Option AV
  | .int _ l, .int _ h => if l = 0 ∧ 0 ≤ h ∧ h ≤ len then some (.orow z i h.toNat) else none
  | _, _ => none
@[simp] theorem orowSl_mk {z i len : Nat} {k k' : IntKind} {l h : Int} : orowSl z i len (.int k l) (.int k' h) = if l = 0 ∧ 0 ≤ h ∧ h ≤ len then some (.orow z i h.toNat) else none := rfl
def zcapSl (nn : Bool) : AV → AV → Option AV
  | .int _ l, .int _ h => if l = 0 ∧ h = 0 then some (.zcap nn) else none
  | _, _ => none
@[simp] theorem zcapSl_mk {nn : Bool} {k k' : IntKind} {l h : Int} : zcapSl nn (.int k l) (.int k' h) = if l = 0 ∧ h = 0 then some (.zcap nn) else none := rfl
def slAny (esz : Nat) (lo hi : Option AV) : AV → Option AV
  | .vec _ nn xs => slVec esz nn xs (lo.getD (.int .i64 0)) (hi.getD (.int .i64 xs.length)) none
  | .row ix off len => rowSl esz ix off len (lo.getD (.int .i64 0)) (hi.getD (.int .i64 len))
  | .orow z i len => orowSl z i len (lo.getD (.int .i64 0)) (hi.getD (.int .i64 len))
  | .zcap nn => zcapSl nn (lo.getD (.int .i64 0)) (hi.getD (.int .i64 0))
  | _ => none
@[simp] theorem slAny_vec {esz : Nat} {lo hi : Option AV} {o : Option Nat} {nn : Bool} {xs : List AV} : slAny esz lo hi (.vec o nn xs) = slVec esz nn xs (lo.getD (.int .i64 0)) (hi.getD (.int .i64 xs.length)) none := rfl
@[simp] theorem slAny_row {esz : Nat} {lo hi : Option AV} {ix : Ix} {off len : Nat} : slAny esz lo hi (.row ix off len) = rowSl esz ix off len (lo.getD (.int .i64 0)) (hi.getD (.int .i64 len)) := rfl
@[simp] theorem slAny_orow {esz z i : Nat} {lo hi : Option AV} {len : Nat} : slAny esz lo hi (.orow z i len) = orowSl z i len (lo.getD (.int .i64 0)) (hi.getD (.int .i64 len)) := rfl
@[simp] theorem slAny_zcap {esz : Nat} {lo hi : Option AV} {nn : Bool} : slAny esz lo hi (.zcap nn) = zcapSl nn (lo.getD (.int .i64 0)) (hi.getD (.int .i64 0)) := rfl
@[simp] theorem slAny_vv {esz : Nat} {lo hi : Option AV} {o : Option Nat} {nn : Bool} {e : α → AV} {xs : List α} : slAny esz lo hi (vv o nn e xs) = slVv esz nn e xs (lo.getD (.int .i64 0)) (hi.getD (.int .i64 xs.length)) := by
  rw [vv, slAny_vec, slVec_vv, List.length_map]
theorem optV_getD {ev : VO → AV} {x : Option VO} {v : AV} : optV ev x v = (x.map ev).getD v := by cases x <;> rfl
@[simp high] theorem wx_slSl {esz : Nat} {x : VO} {lo hi : Option VO} : wpo T (⟨d, .slSl esz x lo hi none, none⟩ :: is) s K = valK T d is s K (slAny esz (lo.map s.ev) (hi.map s.ev) (s.ev x)) := by
  rw [wpo_op rfl]
  simp only [exec]
  cases s.ev x with
  | vec o nn xs =>
    simp only [Option.map_none, optV_getD, slAny]
    cases slVec esz nn xs ((lo.map s.ev).getD (.int .i64 0)) ((hi.map s.ev).getD (.int .i64 xs.length)) none <;> rfl
  | row ix off len =>
    simp only [optV_getD, slAny]
    cases (lo.map s.ev).getD (.int .i64 0) <;> cases (hi.map s.ev).getD (.int .i64 len) <;> try rfl
    rename_i k l k' h
    simp only [rowSl]
    by_cases hc : 0 ≤ l ∧ l ≤ h ∧ h ≤ len ∧ (l = 0 ∨ l < len)
    · rw [if_pos hc, if_pos hc]; rfl
    · rw [if_neg hc, if_neg hc]; rfl
  | orow z i len =>
    simp only [optV_getD, slAny]
    cases (lo.map s.ev).getD (.int .i64 0) <;> cases (hi.map s.ev).getD (.int .i64 len) <;> try rfl
    rename_i k l k' h
    simp only [orowSl]
    by_cases hc : l = 0 ∧ 0 ≤ h ∧ h ≤ len
    · rw [if_pos hc, if_pos hc]; rfl
    · rw [if_neg hc, if_neg hc]; rfl
  | zcap nn =>
    simp only [optV_getD, slAny]
    cases (lo.map s.ev).getD (.int .i64 0) <;> cases (hi.map s.ev).getD (.int .i64 0) <;> try rfl
    rename_i k l k' h
    simp only [zcapSl]
    by_cases hc : l = 0 ∧ h = 0
    · rw [if_pos hc, if_pos hc]; rfl
    · rw [if_neg hc, if_neg hc]; rfl
  | _ => rfl

def capO (t k : Nat) (rest : List AV) (s : St) : Option (List AV) → Option (List AV × St)
  | some cs => match capture rest (s.setObj (.loc t k) (.cells true (cs.map AV.view))) with
    | some (vs, s') => some (.vptr (cs.map AV.view) 0 :: vs, s')
    | none => none
  | none => none
@[simp] theorem capture_loc {t k : Nat} {rest : List AV} : capture (.ptr (.loc t k) 0 :: rest) s = capO t k rest s (objCells true (s.obj (.loc t k))) := by
  rw [capture]
  unfold capO
  cases objCells true (s.obj (.loc t k)) <;> rfl
def capC (v : AV) : Option (List AV × St) → Option (List AV × St)
  | some (vs, s') => some (v :: vs, s')
  | none => none
@[simp] theorem capC_some {v : AV} {vs : List AV} {s' : St} : capC v (some (vs, s')) = some (v :: vs, s') := rfl
@[simp] theorem capO_some {t k : Nat} {rest cs : List AV} : capO t k rest s (some cs) = capC (.vptr (cs.map AV.view) 0) (capture rest (s.setObj (.loc t k) (.cells true (cs.map AV.view)))) := by
  simp only [capO, capC]
@[simp] theorem capture_int {k : IntKind} {n : Int} {rest : List AV} : capture (.int k n :: rest) s = capC (.int k n) (capture rest s) := by
  simp only [capture, capC]; cases capture rest s <;> rfl
@[simp] theorem capture_vptr {cs rest : List AV} {n : Nat} : capture (.vptr cs n :: rest) s = capC (.vptr cs n) (capture rest s) := by
  simp only [capture, capC]; cases capture rest s <;> rfl
@[simp] theorem snoc_get {β : Type} {os : List β} {o : β} {n : Nat} (h : n = os.length) : (os ++ [o])[n]? = some o := by subst h; simp
@[simp] theorem snoc_set {β : Type} {os : List β} {o o' : β} : (os ++ [o]).set os.length o' = os ++ [o'] := by
  rw [List.set_append_right _ _ (Nat.le_refl _)]; simp

/-! ### rows -/
@[simp] theorem wx_buildZ : wpo T (⟨d, .buildZ, none⟩ :: is) s K = wpo T is (s.put d (.zcap true)) K := wpo_pure rfl rfl
def mkslV : AV → AV → Nat → Nat → AV → Option (Nat × Nat)
  | .int .i64 l, .int .i64 c, esz, bytes, zero => if 0 ≤ l ∧ l ≤ c ∧ (bytes : Int) * c ≤ 2 ^ 47 ∧ c < 2 ^ 63 ∧ zero.cells.length = esz then some (l.toNat, c.toNat) else none
  | _, _, _, _, _ => none
@[simp] theorem mkslV_mk {l c : Int} {esz bytes : Nat} {zero : AV} : mkslV (.int .i64 l) (.int .i64 c) esz bytes zero = if 0 ≤ l ∧ l ≤ c ∧ (bytes : Int) * c ≤ 2 ^ 47 ∧ c < 2 ^ 63 ∧ zero.cells.length = esz then some (l.toNat, c.toNat) else none := rfl
variable (T) in
def mkslK (heap : Bool) (d : Nat) (is : List VI) (s : St) (K : St → Prop) (zero : AV) : Option (Nat × Nat) → Prop
  | some (l, c) => if heap then wpo T is ((addMem s (.cells false ((flat (List.replicate c zero)).map AV.view))).set d (.row (.mem s.mem.length) 0 l)) K
    else wpo T is ((addLoc s d (.cells false ((flat (List.replicate c zero)).map AV.view))).set d (.row (.loc d (s.loc d).length) 0 l)) K
  | none => False
@[simp] theorem mkslK_some {heap : Bool} {d : Nat} {zero : AV} {l c : Nat} : mkslK T heap d is s K zero (some (l, c)) = if heap then wpo T is ((addMem s (.cells false ((flat (List.replicate c zero)).map AV.view))).set d (.row (.mem s.mem.length) 0 l)) K
    else wpo T is ((addLoc s d (.cells false ((flat (List.replicate c zero)).map AV.view))).set d (.row (.loc d (s.loc d).length) 0 l)) K := rfl
@[simp] theorem mkslK_if {heap : Bool} {d : Nat} {zero : AV} {p : Prop} [Decidable p] {r : Nat × Nat} : mkslK T heap d is s K zero (if p then some r else none) = (p ∧ mkslK T heap d is s K zero (some r)) := by
  by_cases h : p <;> simp [h, mkslK]
@[simp] theorem wx_mkslObj {d : Nat} {heap : Bool} {esz bytes : Nat} {zero : AV} {l c : VO} : wpo T (⟨some d, .mkslObj heap esz bytes zero l c, none⟩ :: is) s K = mkslK T heap d is s K zero (mkslV (s.ev l) (s.ev c) esz bytes zero) := by
  rw [wpo_op rfl]
  simp only [exec]
  unfold mkslV
  cases s.ev l with
  | int k l =>
    cases s.ev c with
    | int k' c =>
      cases k <;> cases k' <;> first | rfl | skip
      simp only
      by_cases h : 0 ≤ l ∧ l ≤ c ∧ (bytes : Int) * c ≤ 2 ^ 47 ∧ c < 2 ^ 63 ∧ zero.cells.length = esz
      · rw [if_pos h, if_pos h]
        cases heap <;> rfl
      · rw [if_neg h, if_neg h]; rfl
    | _ => cases k <;> rfl
  | _ => rfl
variable (T) in
def appRowK (bytes : Nat) (d : Option Nat) (is : List VI) (s : St) (K : St → Prop) : AV → Option (List AV) → Prop
  | .zcap nn, some ys => if ys.isEmpty then wpo T is (s.put d (.vec none nn [])) K
      else 0 < bytes ∧ ys.length * bytes ≤ 140737488355328 ∧ wpo T is ((addMem s (.cells false ((flat ys).map AV.view))).put d (.row (.mem s.mem.length) 0 ys.length)) K
  | _, _ => False
@[simp] theorem appRowK_mk {bytes : Nat} {nn : Bool} {ys : List AV} : appRowK T bytes d is s K (.zcap nn) (some ys) = if ys.isEmpty then wpo T is (s.put d (.vec none nn [])) K
      else 0 < bytes ∧ ys.length * bytes ≤ 140737488355328 ∧ wpo T is ((addMem s (.cells false ((flat ys).map AV.view))).put d (.row (.mem s.mem.length) 0 ys.length)) K := rfl
@[simp] theorem wx_appendRow {esz bytes : Nat} {a x : VO} : wpo T (⟨d, .appendRow esz bytes a x, none⟩ :: is) s K = appRowK T bytes d is s K (s.ev a) (elems? esz (s.ev x)) := by
  rw [wpo_op rfl]
  simp only [exec]
  cases s.ev a with
  | zcap nn =>
    cases elems? esz (s.ev x) with
    | none => rfl
    | some ys =>
      simp only [appRowK]
      by_cases h : ys.isEmpty = true
      · rw [if_pos h, if_pos h]; rfl
      · rw [if_neg h, if_neg h]
        by_cases h2 : 0 < bytes ∧ ys.length * bytes ≤ 140737488355328
        · rw [if_pos h2]; simp only [h2, true_and]; rfl
        · rw [if_neg h2, eq_iff_iff]
          exact ⟨fun h => h.elim, fun h => (h2 ⟨h.1, h.2.1⟩).elim⟩
  | _ => rfl

/-- The cells of a row of elements. -/
def rowc (e : α → List AV) (xs : List α) : List AV := xs.flatMap e

theorem rowc_len {e : α → List AV} {n : Nat} (he : ∀ x, (e x).length = n) (xs : List α) : (rowc e xs).length = xs.length * n := by
  induction xs with
  | nil => simp [rowc]
  | cons x r ih => simp [rowc] at ih ⊢; rw [he, ih, Nat.succ_mul]; omega
theorem rowc_drop {e : α → List AV} {n : Nat} (he : ∀ x, (e x).length = n) : ∀ (xs : List α) (i : Nat), (rowc e xs).drop (i * n) = rowc e (xs.drop i)
  | [], i => by simp [rowc]
  | x :: r, 0 => by simp
  | x :: r, i + 1 => by
    have := rowc_drop he r i
    simp only [rowc, List.flatMap_cons, List.drop_succ_cons] at this ⊢
    rw [Nat.succ_mul, Nat.add_comm, List.drop_append, List.drop_of_length_le (by rw [he]; omega), List.nil_append, he, Nat.add_sub_cancel_left]
    exact this
theorem rowc_take {e : α → List AV} {n : Nat} (he : ∀ x, (e x).length = n) : ∀ (xs : List α) (i : Nat), (rowc e xs).take (i * n) = rowc e (xs.take i)
  | [], i => by simp [rowc]
  | x :: r, 0 => by simp [rowc]
  | x :: r, i + 1 => by
    have := rowc_take he r i
    simp only [rowc, List.flatMap_cons, List.take_succ_cons] at this ⊢
    rw [Nat.succ_mul, Nat.add_comm, List.take_append, List.take_of_length_le (by rw [he]; omega), he, Nat.add_sub_cancel_left, this]
theorem rowc_get {e : α → List AV} {n : Nat} (he : ∀ x, (e x).length = n) {xs : List α} {i : Nat} (h : i < xs.length) : ((rowc e xs).drop (i * n)).take n = e xs[i] := by
  rw [rowc_drop he, List.drop_eq_getElem_cons h]
  simp only [rowc, List.flatMap_cons]
  rw [List.take_append_of_le_length (by rw [he]; omega), List.take_of_length_le (by rw [he]; omega)]
theorem rowc_set {e : α → List AV} {n : Nat} (he : ∀ x, (e x).length = n) {xs : List α} {i : Nat} (h : i < xs.length) (v : α) : putCells (rowc e xs) (i * n) (e v) = rowc e (xs.set i v) := by
  unfold putCells
  rw [he, rowc_take he, show i * n + n = (i + 1) * n by rw [Nat.succ_mul], rowc_drop he]
  rw [List.set_eq_take_append_cons_drop, if_pos h]
  simp [rowc]
end
end Go.Vm
