/- Running without counting: what the small code answers if it is given steps enough. -/
import Derived.Test.YtdodnhbegabbpaaV28
namespace Go.Vm

def CLe (C C' : CallF) : Prop := ∀ f args m r, C f args m = some r → C' f args m = some r

section
variable {C C' : CallF}

theorem step_le (h : CLe C C') {i : VI} {s s' : St} (hs : step C i s = some s') : step C' i s = some s' := by
  unfold step at hs ⊢
  split at hs
  · split at hs
    · split at hs
      · rename_i hn
        split at hs
        · rename_i hc
          rw [if_pos hn, h _ _ _ _ hc]; exact hs
        · simp at hs
      · simp at hs
    · simp at hs
  · split at hs
    · split at hs
      · rename_i hn
        split at hs
        · rename_i hc
          rw [if_pos hn, h _ _ _ _ hc]; exact hs
        · simp at hs
      · simp at hs
    · simp at hs
  · exact hs

theorem one_le (h : CLe C C') {i : VI} {s s' : St} (hs : one C i s = some s') : one C' i s = some s' := by
  unfold one at hs ⊢
  split at hs
  · exact step_le h hs
  · split at hs
    · split at hs
      · rename_i hb
        simp only [hb, if_true]
        exact step_le h hs
      · rename_i hb
        simp only [hb, if_false]
        exact hs
    · simp at hs

theorem runOps_le (h : CLe C C') : ∀ (is : List VI) (s s' : St), runOps C is s = some s' → runOps C' is s = some s'
  | [], s, s', hs => hs
  | i :: is, s, s', hs => by
    rw [runOps_cons] at hs ⊢
    split at hs
    · rename_i s1 h1
      rw [one_le h h1]
      exact runOps_le h is s1 s' hs
    · simp at hs

theorem loopN_le {b b' : St → Option (VExit × St)} (hb : ∀ s r, b s = some r → b' s = some r) : ∀ (n m : Nat) (s : St) (r : VExit × St), n ≤ m → loopN b n s = some r → loopN b' m s = some r
  | 0, m, s, r, _, h => by simp [loopN] at h
  | n + 1, 0, s, r, hm, h => by omega
  | n + 1, m + 1, s, r, hm, h => by
    simp only [loopN] at h ⊢
    split at h
    · rename_i s1 h1
      rw [hb _ _ h1]
      exact loopN_le hb n m s1 r (by omega) h
    · rename_i hne
      rw [hb _ _ h]
      obtain ⟨e, s'⟩ := r
      cases e with
      | normal => exact absurd h (hne s')
      | exit i => rfl
      | ret => rfl

theorem run_le (h : CLe C C') {n m : Nat} (hn : n ≤ m) : ∀ (c : VC) (s : St) (r : VExit × St), run C n c s = some r → run C' m c s = some r := by
  intro c
  induction c with
  | skip => intro s r hr; exact hr
  | region is =>
    intro s r hr
    simp only [run] at hr ⊢
    split at hr
    · rename_i h1; rw [runOps_le h _ _ _ h1]; exact hr
    · simp at hr
  | seq a b iha ihb =>
    intro s r hr
    simp only [run] at hr ⊢
    split at hr
    · rename_i s1 h1
      rw [iha _ _ h1]; exact ihb _ _ hr
    · rename_i hne
      rw [iha _ _ hr]
      obtain ⟨e, s'⟩ := r
      cases e with
      | normal => exact absurd hr (hne s')
      | exit i => rfl
      | ret => rfl
  | cond c a b iha ihb =>
    intro s r hr
    simp only [run] at hr ⊢
    split at hr
    · exact iha _ _ hr
    · exact ihb _ _ hr
    · simp at hr
  | block id b ih =>
    intro s r hr
    simp only [run] at hr ⊢
    split at hr
    · rename_i i s1 h1
      rw [ih _ _ h1]; exact hr
    · rename_i hne
      rw [ih _ _ hr]
      obtain ⟨e, s'⟩ := r
      cases e with
      | normal => rfl
      | exit i => exact absurd hr (hne i s')
      | ret => rfl
  | loop b ih => intro s r hr; exact loopN_le (fun s r => ih s r) n m s r hn hr
  | exit id => intro s r hr; exact hr
  | ret => intro s r hr; exact hr

theorem callN_le (T : FuncId → Option VF) : ∀ (k k' : Nat), k ≤ k' → CLe (callN T k) (callN T k')
  | 0, k', _ => fun f args m r h => by simp [callN] at h
  | k + 1, 0, h => by omega
  | k + 1, k' + 1, h => by
    intro f args m r hr
    have ih := callN_le T k k' (by omega)
    simp only [callN] at hr ⊢
    split at hr
    · simp at hr
    · split at hr
      · rename_i hl
        rw [if_pos hl]
        split at hr
        · rename_i s h1
          rw [run_le ih (by omega) _ _ _ h1]; exact hr
        · rename_i s h1
          rw [run_le ih (by omega) _ _ _ h1]; exact hr
        · simp at hr
      · simp at hr

end

/-- What a function answers, with steps enough. -/
noncomputable def callL (T : FuncId → Option VF) : CallF := fun f args m =>
  open Classical in if h : ∃ r k, callN T k f args m = some r then some (Classical.choose h) else none

theorem callL_of {T : FuncId → Option VF} {k : Nat} {f : FuncId} {args : List AV} {m : Mem} {r : AV × Mem} (h : callN T k f args m = some r) : callL T f args m = some r := by
  unfold callL
  have hex : ∃ r k, callN T k f args m = some r := ⟨r, k, h⟩
  rw [dif_pos hex]
  obtain ⟨k', h'⟩ := Classical.choose_spec hex
  have h1 := callN_le T k (max k k') (Nat.le_max_left _ _) _ _ _ _ h
  have h2 := callN_le T k' (max k k') (Nat.le_max_right _ _) _ _ _ _ h'
  rw [h1] at h2
  exact congrArg some (Option.some.inj h2).symm

theorem callL_some {T : FuncId → Option VF} {f : FuncId} {args : List AV} {m : Mem} {r : AV × Mem} (h : callL T f args m = some r) : ∃ k, callN T k f args m = some r := by
  unfold callL at h
  split at h
  · rename_i hex
    obtain ⟨k, hk⟩ := Classical.choose_spec hex
    exact ⟨k, by rw [hk]; exact h⟩
  · simp at h

section
variable {T : FuncId → Option VF}

theorem step_fin {i : VI} {s s' : St} (hs : step (callL T) i s = some s') : ∃ k, step (callN T k) i s = some s' := by
  unfold step at hs
  split at hs
  · rename_i fo args ho
    split at hs
    · rename_i g caps hf
      split at hs
      · rename_i hn
        split at hs
        · rename_i hc
          obtain ⟨k, hk⟩ := callL_some hc
          exact ⟨k, by unfold step; simp only [ho, hf]; rw [if_pos hn, hk]; exact hs⟩
        · simp at hs
      · simp at hs
    · simp at hs
  · rename_i fo args ho
    split at hs
    · rename_i g caps hf
      split at hs
      · rename_i hn
        split at hs
        · rename_i hc
          obtain ⟨k, hk⟩ := callL_some hc
          exact ⟨k, by unfold step; simp only [ho, hf]; rw [if_pos hn, hk]; exact hs⟩
        · simp at hs
      · simp at hs
    · simp at hs
  · rename_i h1 h2
    refine ⟨0, ?_⟩
    unfold step
    split
    · rename_i ho; exact absurd ho (h1 _ _)
    · rename_i ho; exact absurd ho (h2 _ _)
    · exact hs

theorem one_fin {i : VI} {s s' : St} (hs : one (callL T) i s = some s') : ∃ k, one (callN T k) i s = some s' := by
  unfold one at hs
  split at hs
  · rename_i hg
    obtain ⟨k, hk⟩ := step_fin hs
    exact ⟨k, by unfold one; rw [hg]; exact hk⟩
  · rename_i j want hg
    split at hs
    · rename_i b hb
      split at hs
      · rename_i hbw
        obtain ⟨k, hk⟩ := step_fin hs
        exact ⟨k, by unfold one; simp only [hg, hb, hbw, if_true]; exact hk⟩
      · rename_i hbw
        exact ⟨0, by unfold one; simp only [hg, hb, hbw, if_false]; exact hs⟩
    · simp at hs

theorem runOps_fin : ∀ (is : List VI) (s s' : St), runOps (callL T) is s = some s' → ∃ k, runOps (callN T k) is s = some s'
  | [], s, s', h => ⟨0, h⟩
  | i :: is, s, s', h => by
    rw [runOps_cons] at h
    split at h
    · rename_i s1 h1
      obtain ⟨k1, e1⟩ := one_fin h1
      obtain ⟨k2, e2⟩ := runOps_fin is s1 s' h
      refine ⟨max k1 k2, ?_⟩
      rw [runOps_cons, one_le (callN_le T k1 _ (Nat.le_max_left _ _)) e1]
      exact runOps_le (callN_le T k2 _ (Nat.le_max_right _ _)) _ _ _ e2
    · simp at h

theorem loopN_fin {b : St → Option (VExit × St)} {b' : Nat → St → Option (VExit × St)} (hb : ∀ s r, b s = some r → ∃ k, b' k s = some r) (hm : ∀ k k', k ≤ k' → ∀ s r, b' k s = some r → b' k' s = some r) :
    ∀ (n : Nat) (s : St) (r : VExit × St), loopN b n s = some r → ∃ k, loopN (b' k) n s = some r
  | 0, s, r, h => by simp [loopN] at h
  | n + 1, s, r, h => by
    simp only [loopN] at h
    split at h
    · rename_i s1 h1
      obtain ⟨k1, e1⟩ := hb _ _ h1
      obtain ⟨k2, e2⟩ := loopN_fin hb hm n s1 r h
      refine ⟨max k1 k2, ?_⟩
      simp only [loopN]
      rw [hm k1 _ (Nat.le_max_left _ _) _ _ e1]
      exact loopN_le (hm k2 _ (Nat.le_max_right _ _)) n n s1 r (Nat.le_refl _) e2
    · rename_i hne
      obtain ⟨k1, e1⟩ := hb _ _ h
      refine ⟨k1, ?_⟩
      simp only [loopN]
      rw [e1]
      obtain ⟨e, s'⟩ := r
      cases e with
      | normal => exact absurd h (hne s')
      | exit i => rfl
      | ret => rfl

theorem run_fin (n : Nat) : ∀ (c : VC) (s : St) (r : VExit × St), run (callL T) n c s = some r → ∃ k, run (callN T k) n c s = some r := by
  intro c
  have mono : ∀ (c : VC) (k k' : Nat), k ≤ k' → ∀ s r, run (callN T k) n c s = some r → run (callN T k') n c s = some r := fun c k k' hk s r h => run_le (callN_le T k k' hk) (Nat.le_refl _) c s r h
  induction c with
  | skip => intro s r hr; exact ⟨0, hr⟩
  | region is =>
    intro s r hr
    simp only [run] at hr
    split at hr
    · rename_i h1
      obtain ⟨k, hk⟩ := runOps_fin _ _ _ h1
      exact ⟨k, by simp only [run, hk]; exact hr⟩
    · simp at hr
  | seq a b iha ihb =>
    intro s r hr
    simp only [run] at hr
    split at hr
    · rename_i s1 h1
      obtain ⟨k1, e1⟩ := iha _ _ h1
      obtain ⟨k2, e2⟩ := ihb _ _ hr
      refine ⟨max k1 k2, ?_⟩
      simp only [run]
      rw [mono a k1 _ (Nat.le_max_left _ _) _ _ e1]
      exact mono b k2 _ (Nat.le_max_right _ _) _ _ e2
    · rename_i hne
      obtain ⟨k1, e1⟩ := iha _ _ hr
      refine ⟨k1, ?_⟩
      simp only [run]
      rw [e1]
      obtain ⟨e, s'⟩ := r
      cases e with
      | normal => exact absurd hr (hne s')
      | exit i => rfl
      | ret => rfl
  | cond c a b iha ihb =>
    intro s r hr
    simp only [run] at hr
    split at hr
    · rename_i hc
      obtain ⟨k, hk⟩ := iha _ _ hr
      exact ⟨k, by simp only [run, hc]; exact hk⟩
    · rename_i hc
      obtain ⟨k, hk⟩ := ihb _ _ hr
      exact ⟨k, by simp only [run, hc]; exact hk⟩
    · simp at hr
  | block id b ih =>
    intro s r hr
    simp only [run] at hr
    split at hr
    · rename_i i s1 h1
      obtain ⟨k, hk⟩ := ih _ _ h1
      exact ⟨k, by simp only [run, hk]; exact hr⟩
    · rename_i hne
      obtain ⟨k, hk⟩ := ih _ _ hr
      refine ⟨k, ?_⟩
      simp only [run]
      rw [hk]
      obtain ⟨e, s'⟩ := r
      cases e with
      | normal => rfl
      | exit i => exact absurd hr (hne i s')
      | ret => rfl
  | loop b ih => intro s r hr; exact loopN_fin (b' := fun k => run (callN T k) n b) (fun s r => ih s r) (fun k k' hk s r => mono b k k' hk s r) n s r hr
  | exit id => intro s r hr; exact ⟨0, hr⟩
  | ret => intro s r hr; exact ⟨0, hr⟩

/-! ### what holds behind a piece of code -/

variable (T) in
def wp (c : VC) (s : St) (Q : VExit → St → Prop) : Prop := ∃ n e s', run (callL T) n c s = some (e, s') ∧ Q e s'

variable (T) in
def wpo (is : List VI) (s : St) (K : St → Prop) : Prop := ∃ s', runOps (callL T) is s = some s' ∧ K s'

theorem CLe.refl (C : CallF) : CLe C C := fun _ _ _ _ h => h

variable (T) in
def seqK (b : VC) (Q : VExit → St → Prop) : VExit → St → Prop
  | .normal, s => wp T b s Q
  | e, s => Q e s

variable (T) in
def loopK (b : VC) (Q : VExit → St → Prop) : VExit → St → Prop
  | .normal, s => wp T (.loop b) s Q
  | e, s => Q e s

def blockK (id : Nat) (Q : VExit → St → Prop) : VExit → St → Prop
  | .exit i, s => if i = id then Q .normal s else Q (.exit i) s
  | e, s => Q e s

variable (T) in
def condK (a b : VC) (s : St) (Q : VExit → St → Prop) : AV → Prop
  | .bool v => (v = true → wp T a s Q) ∧ (v = false → wp T b s Q)
  | _ => False

theorem wp_skip {s : St} {Q : VExit → St → Prop} : wp T .skip s Q = Q .normal s := by
  simp only [wp, run, Option.some.injEq, Prod.mk.injEq, eq_iff_iff]
  exact ⟨fun ⟨_, _, _, ⟨rfl, rfl⟩, h⟩ => h, fun h => ⟨0, _, _, ⟨rfl, rfl⟩, h⟩⟩

theorem wp_ret {s : St} {Q : VExit → St → Prop} : wp T .ret s Q = Q .ret s := by
  simp only [wp, run, Option.some.injEq, Prod.mk.injEq, eq_iff_iff]
  exact ⟨fun ⟨_, _, _, ⟨rfl, rfl⟩, h⟩ => h, fun h => ⟨0, _, _, ⟨rfl, rfl⟩, h⟩⟩

theorem wp_exit {s : St} {i : Nat} {Q : VExit → St → Prop} : wp T (.exit i) s Q = Q (.exit i) s := by
  simp only [wp, run, Option.some.injEq, Prod.mk.injEq, eq_iff_iff]
  exact ⟨fun ⟨_, _, _, ⟨rfl, rfl⟩, h⟩ => h, fun h => ⟨0, _, _, ⟨rfl, rfl⟩, h⟩⟩

theorem wp_region {s : St} {is : List VI} {Q : VExit → St → Prop} : wp T (.region is) s Q = wpo T is s (Q .normal) := by
  simp only [wp, wpo, run, eq_iff_iff]
  constructor
  · rintro ⟨n, e, s', h, hq⟩
    split at h
    · rename_i s1 h1
      simp only [Option.some.injEq, Prod.mk.injEq] at h
      obtain ⟨rfl, rfl⟩ := h
      exact ⟨_, h1, hq⟩
    · simp at h
  · rintro ⟨s', h, hq⟩
    exact ⟨0, .normal, s', by rw [h], hq⟩

theorem wp_seq {s : St} {a b : VC} {Q : VExit → St → Prop} : wp T (.seq a b) s Q = wp T a s (seqK T b Q) := by
  simp only [wp, eq_iff_iff]
  constructor
  · rintro ⟨n, e, s', h, hq⟩
    simp only [run] at h
    split at h
    · rename_i s1 h1
      exact ⟨n, .normal, s1, h1, n, e, s', h, hq⟩
    · rename_i hne
      refine ⟨n, e, s', h, ?_⟩
      cases e with
      | normal => exact absurd h (hne s')
      | exit i => exact hq
      | ret => exact hq
  · rintro ⟨n, e, s1, h, hq⟩
    cases e with
    | normal =>
      obtain ⟨n2, e, s', h2, hq⟩ := hq
      refine ⟨max n n2, e, s', ?_, hq⟩
      simp only [run]
      rw [run_le (CLe.refl _) (Nat.le_max_left n n2) _ _ _ h]
      exact run_le (CLe.refl _) (Nat.le_max_right n n2) _ _ _ h2
    | exit i => exact ⟨n, _, s1, by simp only [run]; rw [h], hq⟩
    | ret => exact ⟨n, _, s1, by simp only [run]; rw [h], hq⟩

theorem wp_block {s : St} {id : Nat} {b : VC} {Q : VExit → St → Prop} : wp T (.block id b) s Q = wp T b s (blockK id Q) := by
  simp only [wp, eq_iff_iff]
  constructor
  · rintro ⟨n, e, s', h, hq⟩
    simp only [run] at h
    split at h
    · rename_i i s1 h1
      refine ⟨n, .exit i, s1, h1, ?_⟩
      simp only [blockK]
      split at h
      · rename_i hi
        simp only [Option.some.injEq, Prod.mk.injEq] at h
        obtain ⟨rfl, rfl⟩ := h
        rw [if_pos hi]; exact hq
      · rename_i hi
        simp only [Option.some.injEq, Prod.mk.injEq] at h
        obtain ⟨rfl, rfl⟩ := h
        rw [if_neg hi]; exact hq
    · rename_i hne
      refine ⟨n, e, s', h, ?_⟩
      cases e with
      | exit i => exact absurd h (hne i s')
      | normal => exact hq
      | ret => exact hq
  · rintro ⟨n, e, s1, h, hq⟩
    cases e with
    | exit i =>
      simp only [blockK] at hq
      split at hq
      · rename_i hi
        exact ⟨n, .normal, s1, by simp only [run]; rw [h]; simp only; rw [if_pos hi], hq⟩
      · rename_i hi
        exact ⟨n, .exit i, s1, by simp only [run]; rw [h]; simp only; rw [if_neg hi], hq⟩
    | normal => exact ⟨n, _, s1, by simp only [run]; rw [h], hq⟩
    | ret => exact ⟨n, _, s1, by simp only [run]; rw [h], hq⟩

theorem wp_cond {s : St} {c : VO} {a b : VC} {Q : VExit → St → Prop} : wp T (.cond c a b) s Q = condK T a b s Q (s.ev c) := by
  rw [eq_iff_iff]
  constructor
  · rintro ⟨n, e, s', h, hq⟩
    simp only [run] at h
    split at h
    · rename_i hc
      rw [hc]; exact ⟨fun _ => ⟨n, e, s', h, hq⟩, fun h => by simp at h⟩
    · rename_i hc
      rw [hc]; exact ⟨fun h => by simp at h, fun _ => ⟨n, e, s', h, hq⟩⟩
    · simp at h
  · intro h
    unfold condK at h
    split at h
    · rename_i v hc
      cases v with
      | true =>
        obtain ⟨n, e, s', h, hq⟩ := h.1 rfl
        exact ⟨n, e, s', by simp only [run]; rw [hc]; exact h, hq⟩
      | false =>
        obtain ⟨n, e, s', h, hq⟩ := h.2 rfl
        exact ⟨n, e, s', by simp only [run]; rw [hc]; exact h, hq⟩
    · exact h.elim

theorem wp_loop_step {s : St} {b : VC} {Q : VExit → St → Prop} (h : wp T b s (loopK T b Q)) : wp T (.loop b) s Q := by
  obtain ⟨n, e, s1, h, hq⟩ := h
  cases e with
  | normal =>
    obtain ⟨n2, e, s', h2, hq⟩ := hq
    refine ⟨max n n2 + 1, e, s', ?_, hq⟩
    simp only [run, loopN]
    rw [run_le (CLe.refl _) (Nat.le_trans (Nat.le_max_left n n2) (Nat.le_succ _)) _ _ _ h]
    exact loopN_le (fun s r => run_le (CLe.refl _) (Nat.le_trans (Nat.le_max_right n n2) (Nat.le_succ _)) b s r) n2 (max n n2) s1 _ (Nat.le_max_right _ _) h2
  | exit i => exact ⟨n + 1, _, s1, by simp only [run, loopN]; rw [run_le (CLe.refl _) (Nat.le_succ n) _ _ _ h], hq⟩
  | ret => exact ⟨n + 1, _, s1, by simp only [run, loopN]; rw [run_le (CLe.refl _) (Nat.le_succ n) _ _ _ h], hq⟩

theorem wp_mono {c : VC} {s : St} {Q Q' : VExit → St → Prop} (h : wp T c s Q) (hq : ∀ e s', Q e s' → Q' e s') : wp T c s Q' := by
  obtain ⟨n, e, s', h1, h2⟩ := h
  exact ⟨n, e, s', h1, hq _ _ h2⟩

/-- What a round of a loop leaves. -/
def roundK (I : St → Prop) (Q : VExit → St → Prop) : VExit → St → Prop
  | .normal, s => I s
  | e, s => Q e s

/-- A loop with a bound. -/
theorem wp_loop {b : VC} {Q : VExit → St → Prop} (I : Nat → St → Prop) (hstep : ∀ n s, I n s → wp T b s (roundK (fun s' => ∃ n', n' < n ∧ I n' s') Q)) : ∀ (n : Nat) (s : St), I n s → wp T (.loop b) s Q := by
  intro n
  induction n using Nat.strongRecOn with
  | ind n ih =>
    intro s hs
    refine wp_loop_step (wp_mono (hstep n s hs) fun e s' h => ?_)
    cases e with
    | normal => obtain ⟨n', h1, h2⟩ := h; exact ih n' h1 s' h2
    | exit i => exact h
    | ret => exact h

theorem wpo_nil {s : St} {K : St → Prop} : wpo T [] s K = K s := by
  simp only [wpo, runOps, Option.some.injEq, eq_iff_iff]
  exact ⟨fun ⟨_, rfl, h⟩ => h, fun h => ⟨_, rfl, h⟩⟩

variable (T) in
def oneK (is : List VI) (K : St → Prop) : Option St → Prop
  | some s => wpo T is s K
  | none => False

theorem wpo_cons {s : St} {i : VI} {is : List VI} {K : St → Prop} : wpo T (i :: is) s K = oneK T is K (one (callL T) i s) := by
  rw [eq_iff_iff]
  constructor
  · rintro ⟨s', h, hk⟩
    rw [runOps_cons] at h
    split at h
    · rename_i s1 h1
      rw [h1]; exact ⟨s', h, hk⟩
    · simp at h
  · intro h
    unfold oneK at h
    split at h
    · rename_i s1 h1
      obtain ⟨s', h, hk⟩ := h
      exact ⟨s', by rw [runOps_cons, h1]; exact h, hk⟩
    · exact h.elim

variable (T) in
def putK (d : Option Nat) (is : List VI) (K : St → Prop) : Option (AV × St) → Prop
  | some (v, s) => wpo T is (s.put d v) K
  | none => False

def isCall : VOp → Bool
  | .call _ _ => true
  | .callP _ _ => true
  | _ => false

/-- An operation without a guard that is no call. -/
theorem wpo_op {s : St} {d : Option Nat} {op : VOp} {is : List VI} {K : St → Prop} (h : isCall op = false) : wpo T (⟨d, op, none⟩ :: is) s K = putK T d is K (exec (d.getD 0) op s) := by
  rw [wpo_cons]
  have : one (callL T) ⟨d, op, none⟩ s = match exec (d.getD 0) op s with
      | some (v, s') => some (s'.put d v)
      | none => none := by
    unfold one
    simp only
    exact step_exec (fun f args => by constructor <;> (rintro rfl; simp [isCall] at h)) s
  rw [this]
  cases exec (d.getD 0) op s <;> rfl

variable (T) in
/-- Behind a guard the guard's slot is known. -/
def guardV (i : VI) (j : Nat) (want : Bool) (is : List VI) (s : St) (K : St → Prop) : AV → Prop
  | .bool b => (b = want → wpo T (⟨i.dst, i.op, none⟩ :: is) (s.set j (.bool want)) K) ∧ (b = !want → wpo T is ((s.set j (.bool !want)).put i.dst (.tup [])) K)
  | .tup [] => wpo T is (s.put i.dst (.tup [])) K
  | _ => False

theorem wpo_guard {s : St} {d : Option Nat} {op : VOp} {j : Nat} {want : Bool} {is : List VI} {K : St → Prop} :
    wpo T (⟨d, op, some (j, want)⟩ :: is) s K = guardV T ⟨d, op, none⟩ j want is s K (s.get j) := by
  rw [wpo_cons, eq_iff_iff]
  have e : ∀ v : AV, s.get j = v → (oneK T is K (one (callL T) ⟨d, op, some (j, want)⟩ s) ↔ guardV T ⟨d, op, none⟩ j want is s K v) := by
    intro v hv
    unfold one
    simp only [hv]
    cases v with
    | bool b =>
      have hs : s.set j (.bool b) = s := by rw [← hv]; exact set_get s j
      simp only [guardB, guardV]
      by_cases hb : b = want
      · subst hb
        simp only [if_true, forall_const, hs, wpo_cons]
        refine ⟨fun h => ⟨h, fun hh => ?_⟩, fun h => h.1⟩
        cases b <;> simp at hh
      · have : b = !want := by cases b <;> cases want <;> simp_all
        subst this
        have hne : ¬ ((!want) = want) := hb
        simp only [hne, if_false, forall_const, hs, false_imp_iff, true_and]
        rfl
    | tup vs =>
      cases vs with
      | nil =>
        have hne : ¬ ((!want) = want) := by cases want <;> simp
        simp only [guardB, guardV, hne, if_false]
        rfl
      | cons _ _ => exact Iff.rfl
    | _ => exact Iff.rfl
  exact e _ rfl

/-- A call whose answer is known. -/
theorem wpo_call {s : St} {d : Option Nat} {f : VO} {args : List VO} {g : FuncId} {caps : List AV} {is : List VI} {K : St → Prop} {v : AV} {m : Mem} (hf : s.ev f = .fn (.func g) caps) (hn : (args.all fun x => (s.ev x).nl) = true)
    (hc : callL T g ((args.map fun x => (s.ev x).view) ++ caps.map AV.view) s.mem = some (v, m)) (hk : wpo T is (({ s with mem := m } : St).put d v) K) : wpo T (⟨d, .call f args, none⟩ :: is) s K := by
  rw [wpo_cons]
  have : one (callL T) ⟨d, .call f args, none⟩ s = some (({ s with mem := m } : St).put d v) := by
    unfold one step
    simp only [hf, hn, if_true, hc]
  rw [this]; exact hk

variable (T) in
/-- Where a call without shared memory goes on. -/
def callPK (d : Option Nat) (is : List VI) (s : St) (K : St → Prop) : Option (AV × Mem) → Prop
  | some (v, []) => wpo T is (s.put d v) K
  | _ => False

variable (T) in
def callK (d : Option Nat) (is : List VI) (s : St) (K : St → Prop) : Option (AV × Mem) → Prop
  | some (v, m) => wpo T is (({ s with mem := m } : St).put d v) K
  | _ => False

variable (T) in
def calleeP (d : Option Nat) (is : List VI) (s : St) (K : St → Prop) (args : List VO) : AV → Prop
  | .fn (.func g) caps => (args.all fun x => (s.ev x).nl) = true ∧ callPK T d is s K (callL T g ((args.map fun x => (s.ev x).view) ++ caps.map AV.view) [])
  | _ => False

variable (T) in
def calleeM (d : Option Nat) (is : List VI) (s : St) (K : St → Prop) (args : List VO) : AV → Prop
  | .fn (.func g) caps => (args.all fun x => (s.ev x).nl) = true ∧ callK T d is s K (callL T g ((args.map fun x => (s.ev x).view) ++ caps.map AV.view) s.mem)
  | _ => False

theorem wpo_callP {s : St} {d : Option Nat} {f : VO} {args : List VO} {is : List VI} {K : St → Prop} : wpo T (⟨d, .callP f args, none⟩ :: is) s K = calleeP T d is s K args (s.ev f) := by
  rw [wpo_cons, eq_iff_iff]
  have e : ∀ fv : AV, s.ev f = fv → (oneK T is K (one (callL T) ⟨d, .callP f args, none⟩ s) ↔ calleeP T d is s K args fv) := by
    intro fv hfv
    unfold one step
    simp only [hfv]
    cases fv with
    | fn fo caps =>
      cases fo with
      | func g =>
        simp only [calleeP]
        by_cases hn : (args.all fun x => (s.ev x).nl) = true
        · simp only [hn, if_true, true_and]
          generalize callL T g ((args.map fun x => (s.ev x).view) ++ caps.map AV.view) [] = r
          cases r with
          | none => exact Iff.rfl
          | some p =>
            obtain ⟨v, m⟩ := p
            cases m <;> exact Iff.rfl
        · rw [if_neg hn]
          exact ⟨fun h => h.elim, fun h => absurd h.1 hn⟩
      | _ => exact Iff.rfl
    | _ => exact Iff.rfl
  exact e _ rfl

theorem wpo_callM {s : St} {d : Option Nat} {f : VO} {args : List VO} {is : List VI} {K : St → Prop} : wpo T (⟨d, .call f args, none⟩ :: is) s K = calleeM T d is s K args (s.ev f) := by
  rw [wpo_cons, eq_iff_iff]
  have e : ∀ fv : AV, s.ev f = fv → (oneK T is K (one (callL T) ⟨d, .call f args, none⟩ s) ↔ calleeM T d is s K args fv) := by
    intro fv hfv
    unfold one step
    simp only [hfv]
    cases fv with
    | fn fo caps =>
      cases fo with
      | func g =>
        simp only [calleeM]
        by_cases hn : (args.all fun x => (s.ev x).nl) = true
        · simp only [hn, if_true, true_and]
          generalize callL T g ((args.map fun x => (s.ev x).view) ++ caps.map AV.view) s.mem = r
          cases r with
          | none => exact Iff.rfl
          | some p => exact Iff.rfl
        · rw [if_neg hn]
          exact ⟨fun h => h.elim, fun h => absurd h.1 hn⟩
      | _ => exact Iff.rfl
    | _ => exact Iff.rfl
  exact e _ rfl

/-- What a function's end must be. -/
def retK (rs : List VRes) (P : AV → Mem → Prop) : VExit → St → Prop
  | .exit _, _ => False
  | _, s => ∃ v, result s rs = some v ∧ P v s.mem

/-- A function's answer, out of its body. -/
theorem callL_body {f : FuncId} {vf : VF} {args : List AV} {m : Mem} {v : AV} {m' : Mem} (hT : T f = some vf) (hl : args.length = vf.nparams)
    (h : wp T vf.body (St.init args m) (retK vf.results fun u mu => u = v ∧ mu = m')) : callL T f args m = some (v, m') := by
  obtain ⟨n, e, s', h1, h2⟩ := h
  obtain ⟨k, h3⟩ := run_fin n _ _ _ h1
  have h4 := run_le (callN_le T k (max k n) (Nat.le_max_left _ _)) (Nat.le_max_right k n) _ _ _ h3
  refine callL_of (k := max k n + 1) ?_
  simp only [callN, hT, hl, if_true, h4]
  cases e with
  | exit i => exact h2.elim
  | normal => obtain ⟨u, h5, rfl, rfl⟩ := h2; simp only [h5]
  | ret => obtain ⟨u, h5, rfl, rfl⟩ := h2; simp only [h5]

end
end Go.Vm
