/- A call that needs no shared memory goes the same beside one. -/
import Derived.Test.YtdodnhbegabbpaaV27
import Derived.Test.YtdodnhbegabbpaaV22
namespace Go.Vm

def St.withMem (s : St) (m : Mem) : St := { s with mem := m }

section
variable {s s' : St} {C : CallF} {m : Mem}

theorem wm_ev (x : VO) : (s.withMem m).ev x = s.ev x := by cases x <;> rfl
theorem wm_evf : (s.withMem m).ev = s.ev := by funext x; exact wm_ev x
theorem wm_set (t : Nat) (u : AV) : (s.withMem m).set t u = (s.set t u).withMem m := rfl
theorem wm_put (d : Option Nat) (u : AV) : (s.withMem m).put d u = (s.put d u).withMem m := by cases d <;> rfl
theorem wm_takeT (t : Nat) : (s.withMem m).takeT t = ((s.takeT t).1, (s.takeT t).2.withMem m) := by
  unfold St.takeT
  rw [show (s.withMem m).get t = s.get t from rfl]
  split <;> rfl
theorem wm_takeO (x : VO) : (s.withMem m).takeO x = ((s.takeO x).1, (s.takeO x).2.withMem m) := by
  cases x with
  | t n => exact wm_takeT n
  | k v => rfl
theorem takeT_mem (t : Nat) : (s.takeT t).2.mem = s.mem := by
  unfold St.takeT; split <;> rfl
theorem takeO_mem (x : VO) : (s.takeO x).2.mem = s.mem := by
  cases x with
  | t n => exact takeT_mem n
  | k v => rfl
theorem setObj_memlen (x : Ix) (o : LObj) : (s.setObj x o).mem.length = s.mem.length := (setObj_lens s x o).2.1

theorem wm_obj {x : Ix} {o : LObj} (h0 : s.mem = []) (h : s.obj x = some o) : (s.withMem m).obj x = some o ∧ ∃ t k, x = .loc t k := by
  cases x with
  | loc t k => exact ⟨h, t, k, rfl⟩
  | mem i => simp [St.obj, h0] at h
theorem wm_objCells {x : Ix} {b : Bool} {cs : List AV} (h0 : s.mem = []) (h : objCells b (s.obj x) = some cs) : objCells b ((s.withMem m).obj x) = some cs ∧ ∃ t k, x = .loc t k := by
  cases ho : s.obj x with
  | none => rw [ho] at h; simp [objCells] at h
  | some o =>
    obtain ⟨h1, h2⟩ := wm_obj (m := m) h0 ho
    rw [h1, ← ho]; exact ⟨h, h2⟩
theorem wm_setObj {t k : Nat} (o : LObj) : (s.withMem m).setObj (.loc t k) o = (s.setObj (.loc t k) o).withMem m := rfl

theorem capture_len : ∀ (as : List AV) (s s' : St) (vs : List AV), capture as s = some (vs, s') → s'.mem.length = s.mem.length
  | [], s, s', vs, h => by simp [capture] at h; rw [← h.2]
  | v :: rest, s, s', vs, h => by
    simp only [capture] at h
    split at h
    · split at h
      · split at h
        · rename_i hr
          simp only [Option.some.injEq, Prod.mk.injEq] at h
          rw [← h.2, capture_len rest _ _ _ hr, setObj_memlen]
        · simp at h
      · simp at h
    · split at h
      · split at h
        · rename_i hr
          simp only [Option.some.injEq, Prod.mk.injEq] at h
          rw [← h.2, capture_len rest _ _ _ hr]
        · simp at h
      · simp at h

theorem wm_capture : ∀ (as : List AV) (s s' : St) (vs : List AV), s.mem = [] → capture as s = some (vs, s') → capture as (s.withMem m) = some (vs, s'.withMem m)
  | [], s, s', vs, _, h => by
    simp [capture] at h
    obtain ⟨rfl, rfl⟩ := h
    rfl
  | v :: rest, s, s', vs, h0, h => by
    simp only [capture] at h ⊢
    split at h
    · rename_i t k
      split at h
      · rename_i cs hcs
        split at h
        · rename_i vs1 s1 hr
          simp only [Option.some.injEq, Prod.mk.injEq] at h
          obtain ⟨rfl, rfl⟩ := h
          have h1 : (s.setObj (.loc t k) (.cells true (cs.map AV.view))).mem = [] := h0
          rw [(wm_objCells (m := m) h0 hcs).1]
          simp only
          rw [wm_setObj, wm_capture rest _ _ _ h1 hr]
        · simp at h
      · simp at h
    · split at h
      · rename_i hn
        split at h
        · rename_i vs1 s1 hr
          simp only [Option.some.injEq, Prod.mk.injEq] at h
          obtain ⟨rfl, rfl⟩ := h
          rw [wm_capture rest _ _ _ h0 hr]
          simp only [hn, if_true]
        · simp at h
      · simp at h

/-- Shared memory grows. -/
theorem exec_len {d : Nat} {op : VOp} {v : AV} (h : exec d op s = some (v, s')) : s.mem.length ≤ s'.mem.length := by
  by_cases hp : isPure op = true
  · rw [exec_pure hp] at h
    split at h <;> simp at h
    rw [← h.2]; exact Nat.le_refl _
  · cases op with
    | take n =>
      simp only [exec, Option.some.injEq] at h
      have := takeT_mem (s := s) n
      rw [h] at this; rw [this]; exact Nat.le_refl _
    | assign x =>
      simp only [exec, Option.some.injEq] at h
      have := takeO_mem (s := s) x
      rw [h] at this; rw [this]; exact Nat.le_refl _
    | alloc hp cs => simp only [exec] at h; split at h <;> (simp at h; rw [← h.2]; simp)
    | box hp x =>
      simp only [exec] at h
      split at h
      · split at h <;> (simp at h; rw [← h.2]; simp)
      · simp at h
    | load agg a =>
      simp only [exec] at h
      split at h
      · split at h <;> simp at h
        rw [← h.2]; exact Nat.le_refl _
      · split at h
        · split at h <;> simp at h
          rw [← h.2]; exact Nat.le_refl _
        · simp at h
      · simp at h
    | loadTake a =>
      simp only [exec] at h
      split at h
      · split at h
        · split at h
          · simp only [Option.some.injEq, Prod.mk.injEq] at h
            rw [← h.2, setObj_memlen]; exact Nat.le_refl _
          · simp only [Option.some.injEq, Prod.mk.injEq] at h
            rw [← h.2]; exact Nat.le_refl _
          · simp at h
        · simp at h
      · simp at h
    | store sz a x =>
      simp only [exec] at h
      split at h
      · split at h
        · split at h
          · split at h
            · simp only [Option.some.injEq, Prod.mk.injEq] at h
              rw [← h.2, setObj_memlen, takeO_mem]; exact Nat.le_refl _
            · simp only [Option.some.injEq, Prod.mk.injEq] at h
              rw [← h.2, setObj_memlen, takeO_mem]; exact Nat.le_refl _
          · simp at h
        · simp at h
      · simp at h
    | mkfn f cs =>
      simp only [exec] at h
      split at h
      · rename_i hc
        simp only [Option.some.injEq, Prod.mk.injEq] at h
        rw [← h.2, capture_len _ _ _ _ hc]; exact Nat.le_refl _
      · simp at h
    | slSl z x lo hi mx =>
      simp only [exec] at h
      split at h
      · split at h <;> simp at h
        rw [← h.2]; exact Nat.le_refl _
      · split at h
        · split at h <;> simp at h
          rw [← h.2]; exact Nat.le_refl _
        · simp at h
      · simp at h
    | append z b a x =>
      simp only [exec] at h
      split at h
      · split at h
        · split at h <;> simp at h
          rw [← h.2, takeO_mem]; exact Nat.le_refl _
        · split at h <;> simp at h
          rw [← h.2, takeO_mem]; exact Nat.le_refl _
        · simp at h
      · simp at h
    | appStr a x => simp [exec, pval] at h
    | range x =>
      simp only [exec] at h
      split at h <;> simp at h
      rw [← h.2]; exact Nat.le_refl _
    | next x =>
      simp only [exec] at h
      split at h
      · split at h
        · split at h
          · split at h
            · simp only [Option.some.injEq, Prod.mk.injEq] at h
              rw [← h.2, setObj_memlen]; exact Nat.le_refl _
            · simp at h
          · simp only [Option.some.injEq, Prod.mk.injEq] at h
            rw [← h.2]; exact Nat.le_refl _
        · simp at h
      · simp at h
    | mkslObj hq z b za l c =>
      simp only [exec] at h
      split at h
      · split at h
        · split at h <;> (simp only [Option.some.injEq, Prod.mk.injEq] at h; rw [← h.2]; simp)
        · simp at h
      · simp at h
    | slZ x =>
      simp only [exec] at h
      split at h <;> simp at h
      rw [← h.2]; exact Nat.le_refl _
    | appendRow z b a x =>
      simp only [exec] at h
      split at h
      · split at h
        · simp only [Option.some.injEq, Prod.mk.injEq] at h
          rw [← h.2]; exact Nat.le_refl _
        · split at h
          · simp only [Option.some.injEq, Prod.mk.injEq] at h
            rw [← h.2]; simp
          · simp at h
      · simp at h
    | call f args => simp [exec, pval] at h
    | callP f args => simp [exec, pval] at h
    | _ => simp [isPure] at hp

theorem wm_exec {d : Nat} {op : VOp} {v : AV} (h0 : s.mem = []) (h1 : s'.mem = []) (h : exec d op s = some (v, s')) : exec d op (s.withMem m) = some (v, s'.withMem m) := by
  by_cases hp : isPure op = true
  · rw [exec_pure hp] at h ⊢
    rw [wm_evf]
    split at h
    · simp only [Option.some.injEq, Prod.mk.injEq] at h
      rw [← h.1, ← h.2]
    · simp at h
  · cases op with
    | take n =>
      simp only [exec, Option.some.injEq] at h ⊢
      rw [wm_takeT, h]
    | assign x =>
      simp only [exec, Option.some.injEq] at h ⊢
      rw [wm_takeO, h]
    | alloc hp cs =>
      simp only [exec] at h ⊢
      split at h
      · simp only [Option.some.injEq, Prod.mk.injEq] at h
        rw [← h.2] at h1; simp at h1
      · simp only [Option.some.injEq, Prod.mk.injEq] at h
        rename_i hb
        rw [if_neg hb, ← h.1, ← h.2]; rfl
    | box hp x =>
      simp only [exec, wm_ev] at h ⊢
      split at h
      · rename_i hg
        rw [if_pos hg]
        split at h
        · simp only [Option.some.injEq, Prod.mk.injEq] at h
          rw [← h.2] at h1; simp at h1
        · simp only [Option.some.injEq, Prod.mk.injEq] at h
          rename_i hb
          rw [if_neg hb, ← h.1, ← h.2]; rfl
      · simp at h
    | load agg a =>
      simp only [exec, wm_ev] at h ⊢
      split at h
      · split at h
        · rename_i hp'
          simp only [Option.some.injEq, Prod.mk.injEq] at h
          simp only [← h.1, ← h.2]
        · simp at h
      · split at h
        · rename_i hcs
          split at h
          · rename_i hp'
            simp only [Option.some.injEq, Prod.mk.injEq] at h
            rw [(wm_objCells (m := m) h0 hcs).1]
            simp only [hp', ← h.1, ← h.2]
          · simp at h
        · simp at h
      · simp at h
    | loadTake a =>
      simp only [exec, wm_ev] at h ⊢
      split at h
      · split at h
        · rename_i hcs
          obtain ⟨k1, t, k, rfl⟩ := wm_objCells (m := m) h0 hcs
          rw [k1]
          simp only
          split at h
          · rename_i hv
            simp only [Option.some.injEq, Prod.mk.injEq] at h
            simp only [← h.1, ← h.2]
            rfl
          · rename_i hnv hv
            simp only [Option.some.injEq, Prod.mk.injEq] at h
            rw [← h.1, ← h.2]
          · simp at h
        · simp at h
      · simp at h
    | store sz a x =>
      simp only [exec, wm_ev, wm_takeO] at h ⊢
      split at h
      · split at h
        · rename_i hcs
          obtain ⟨k1, t, k, rfl⟩ := wm_objCells (m := m) h0 hcs
          rw [k1]
          simp only
          split at h
          · rename_i hc
            rw [if_pos hc]
            split at h
            · simp only [Option.some.injEq, Prod.mk.injEq] at h
              rw [← h.1, ← h.2]; rfl
            · simp only [Option.some.injEq, Prod.mk.injEq] at h
              rw [← h.1, ← h.2]; rfl
          · simp at h
        · simp at h
      · simp at h
    | mkfn f cs =>
      simp only [exec, wm_evf] at h ⊢
      split at h
      · rename_i hc
        simp only [Option.some.injEq, Prod.mk.injEq] at h
        rw [wm_capture _ _ _ _ h0 hc, ← h.1, ← h.2]
      · simp at h
    | slSl z x lo hi mx =>
      simp only [exec, wm_evf] at h ⊢
      split at h
      · split at h
        · rename_i hv
          simp only [Option.some.injEq, Prod.mk.injEq] at h
          simp only [← h.1, ← h.2]
        · simp at h
      · split at h
        · split at h
          · rename_i hc
            simp only [Option.some.injEq, Prod.mk.injEq] at h
            simp only [hc]
            rw [← h.1, ← h.2]
            rfl
          · simp at h
        · simp at h
      · simp at h
    | append z b a x =>
      simp only [exec, wm_ev, wm_takeO] at h ⊢
      split at h
      · split at h
        · split at h
          · rename_i hc
            simp only [Option.some.injEq, Prod.mk.injEq] at h
            rw [if_pos hc, ← h.1, ← h.2]
          · simp at h
        · split at h
          · rename_i hc
            simp only [Option.some.injEq, Prod.mk.injEq] at h
            rw [if_pos hc, ← h.1, ← h.2]
          · simp at h
        · simp at h
      · simp at h
    | appStr a x => simp [exec, pval] at h
    | range x =>
      simp only [exec, wm_ev] at h ⊢
      split at h
      · simp only [Option.some.injEq, Prod.mk.injEq] at h
        rw [← h.1, ← h.2]; rfl
      · simp at h
    | next x =>
      simp only [exec, wm_ev] at h ⊢
      split at h
      · split at h
        · rename_i ho
          obtain ⟨k1, t, k, rfl⟩ := wm_obj (m := m) h0 ho
          rw [k1]
          simp only
          split at h
          · split at h
            · rename_i hc
              simp only [Option.some.injEq, Prod.mk.injEq] at h
              rw [if_pos hc, ← h.1, ← h.2]; rfl
            · simp at h
          · simp only [Option.some.injEq, Prod.mk.injEq] at h
            rw [← h.1, ← h.2]
        · simp at h
      · simp at h
    | mkslObj hq z b za l c =>
      simp only [exec, wm_ev] at h ⊢
      split at h
      · split at h
        · rename_i hc
          cases hq with
          | true =>
            simp only [if_true, Option.some.injEq, Prod.mk.injEq] at h
            rw [← h.2] at h1
            simp at h1
          | false =>
            simp only [if_false, Bool.false_eq_true, Option.some.injEq, Prod.mk.injEq] at h
            rw [if_pos hc, if_neg (by simp), ← h.1, ← h.2]; rfl
        · simp at h
      · simp at h
    | slZ x =>
      simp only [exec, wm_ev] at h ⊢
      split at h
      · simp only [Option.some.injEq, Prod.mk.injEq] at h
        rw [← h.1, ← h.2]
      · simp at h
    | appendRow z b a x =>
      simp only [exec, wm_ev] at h ⊢
      split at h
      · split at h
        · rename_i hc
          simp only [Option.some.injEq, Prod.mk.injEq] at h
          rw [if_pos hc, ← h.1, ← h.2]
        · split at h
          · simp only [Option.some.injEq, Prod.mk.injEq] at h
            rw [← h.2] at h1
            simp at h1
          · simp at h
      · simp at h
    | call f args => simp [exec, pval] at h
    | callP f args => simp [exec, pval] at h
    | _ => simp [isPure] at hp

/-- Calls let shared memory grow. -/
def Grows (C : CallF) : Prop := ∀ f args m v m', C f args m = some (v, m') → m.length ≤ m'.length

theorem put_mem (d : Option Nat) (v : AV) : (s.put d v).mem = s.mem := by cases d <;> rfl

theorem step_len (hG : Grows C) {i : VI} (h : step C i s = some s') : s.mem.length ≤ s'.mem.length := by
  unfold step at h
  split at h
  · split at h
    · split at h
      · split at h
        · rename_i hc
          simp only [Option.some.injEq] at h
          rw [← h, put_mem]
          exact hG _ _ _ _ _ hc
        · simp at h
      · simp at h
    · simp at h
  · split at h
    · split at h
      · split at h
        · simp only [Option.some.injEq] at h
          rw [← h, put_mem]; exact Nat.le_refl _
        · simp at h
      · simp at h
    · simp at h
  · split at h
    · rename_i he
      simp only [Option.some.injEq] at h
      rw [← h, put_mem]
      exact exec_len he
    · simp at h

theorem wm_step (_hG : Grows C) (hF : FrameOK C) {i : VI} (h0 : s.mem = []) (h1 : s'.mem = []) (h : step C i s = some s') : step C i (s.withMem m) = some (s'.withMem m) := by
  unfold step at h ⊢
  split at h
  · simp only [wm_ev] at h ⊢
    split at h
    · split at h
      · rename_i hn
        split at h
        · rename_i v mm hc
          simp only [Option.some.injEq] at h
          have hmm : mm = [] := by
            rw [← h, put_mem] at h1
            exact h1
          rw [h0, hmm] at hc
          subst hmm
          rw [if_pos hn]
          have := hF _ _ _ m hc
          rw [show (s.withMem m).mem = m from rfl, this]
          simp only
          rw [← h]
          exact congrArg some (wm_put (s := { s with mem := [] }) i.dst v)
        · simp at h
      · simp at h
    · simp at h
  · simp only [wm_ev] at h ⊢
    split at h
    · split at h
      · rename_i hn
        split at h
        · rename_i v hc
          simp only [Option.some.injEq] at h
          rw [if_pos hn, ← h]
          exact congrArg some (wm_put i.dst v)
        · simp at h
      · simp at h
    · simp at h
  · split at h
    · rename_i v s1 he
      simp only [Option.some.injEq] at h
      have h1' : s1.mem = [] := by rw [← h, put_mem] at h1; exact h1
      rw [wm_exec h0 h1' he]
      simp only
      rw [← h]
      exact congrArg some (wm_put i.dst v)
    · simp at h

theorem one_len (hG : Grows C) {i : VI} (h : one C i s = some s') : s.mem.length ≤ s'.mem.length := by
  unfold one at h
  split at h
  · exact step_len hG h
  · split at h
    · split at h
      · exact step_len hG h
      · simp only [Option.some.injEq] at h
        rw [← h, put_mem]; exact Nat.le_refl _
    · simp at h

theorem wm_one (hG : Grows C) (hF : FrameOK C) {i : VI} (h0 : s.mem = []) (h1 : s'.mem = []) (h : one C i s = some s') : one C i (s.withMem m) = some (s'.withMem m) := by
  unfold one at h ⊢
  split at h
  · exact wm_step hG hF h0 h1 h
  · rw [show ∀ j, (s.withMem m).get j = s.get j from fun _ => rfl]
    split at h
    · split at h
      · rename_i hb
        simp only [hb, if_true]
        exact wm_step hG hF h0 h1 h
      · rename_i hb
        simp only [Option.some.injEq] at h
        simp only [hb, if_false]
        rw [← h]
        exact congrArg some (wm_put i.dst _)
    · simp at h

theorem nil_of_le {a b : Mem} (h : a.length ≤ b.length) (hb : b = []) : a = [] := by
  subst hb
  exact List.length_eq_zero_iff.1 (by simpa using h)

theorem runOps_len (hG : Grows C) : ∀ (is : List VI) (s s' : St), runOps C is s = some s' → s.mem.length ≤ s'.mem.length
  | [], s, s', h => by simp [runOps] at h; rw [h]; exact Nat.le_refl _
  | i :: is, s, s', h => by
    rw [runOps_cons] at h
    split at h
    · rename_i s1 h1
      exact Nat.le_trans (one_len hG h1) (runOps_len hG is s1 s' h)
    · simp at h

theorem wm_runOps (hG : Grows C) (hF : FrameOK C) : ∀ (is : List VI) (s s' : St), s'.mem = [] → runOps C is s = some s' → runOps C is (s.withMem m) = some (s'.withMem m)
  | [], s, s', _, h => by simp [runOps] at h; rw [h]; rfl
  | i :: is, s, s', h1, h => by
    have h0 : s.mem = [] := nil_of_le (runOps_len hG _ _ _ h) h1
    rw [runOps_cons] at h ⊢
    split at h
    · rename_i s1 hh
      have hs1 : s1.mem = [] := nil_of_le (runOps_len hG _ _ _ h) h1
      rw [wm_one hG hF h0 hs1 hh]
      exact wm_runOps hG hF is s1 s' h1 h
    · simp at h

theorem loopN_len {body : St → Option (VExit × St)} (hb : ∀ s e s', body s = some (e, s') → s.mem.length ≤ s'.mem.length) : ∀ (n : Nat) (s : St) (e : VExit) (s' : St), loopN body n s = some (e, s') → s.mem.length ≤ s'.mem.length
  | 0, s, e, s', h => by simp [loopN] at h
  | n + 1, s, e, s', h => by
    simp only [loopN] at h
    split at h
    · rename_i s1 h1
      exact Nat.le_trans (hb _ _ _ h1) (loopN_len hb n s1 e s' h)
    · exact hb _ _ _ h

theorem run_len (hG : Grows C) (n : Nat) : ∀ (c : VC) (s : St) (e : VExit) (s' : St), run C n c s = some (e, s') → s.mem.length ≤ s'.mem.length := by
  intro c
  induction c with
  | skip => intro s e s' h; simp [run] at h; rw [h.2]; exact Nat.le_refl _
  | region is =>
    intro s e s' h
    simp only [run] at h
    split at h
    · rename_i h1
      simp only [Option.some.injEq, Prod.mk.injEq] at h
      rw [← h.2]; exact runOps_len hG _ _ _ h1
    · simp at h
  | seq x y ihx ihy =>
    intro s e s' h
    simp only [run] at h
    split at h
    · rename_i h1
      exact Nat.le_trans (ihx _ _ _ h1) (ihy _ _ _ h)
    · exact ihx _ _ _ h
  | cond c x y ihx ihy =>
    intro s e s' h
    simp only [run] at h
    split at h
    · exact ihx _ _ _ h
    · exact ihy _ _ _ h
    · simp at h
  | block id x ih =>
    intro s e s' h
    simp only [run] at h
    split at h
    · rename_i h1
      split at h <;> (simp only [Option.some.injEq, Prod.mk.injEq] at h; rw [← h.2]; exact ih _ _ _ h1)
    · exact ih _ _ _ h
  | loop x ih => intro s e s' h; exact loopN_len ih n s e s' h
  | exit id => intro s e s' h; simp [run] at h; rw [h.2]; exact Nat.le_refl _
  | ret => intro s e s' h; simp [run] at h; rw [h.2]; exact Nat.le_refl _

theorem wm_loopN {body : St → Option (VExit × St)} (hb : ∀ s e s', body s = some (e, s') → s.mem.length ≤ s'.mem.length)
    (hw : ∀ s e s', s'.mem = [] → body s = some (e, s') → body (s.withMem m) = some (e, s'.withMem m)) : ∀ (n : Nat) (s : St) (e : VExit) (s' : St), s'.mem = [] → loopN body n s = some (e, s') → loopN body n (s.withMem m) = some (e, s'.withMem m)
  | 0, s, e, s', _, h => by simp [loopN] at h
  | n + 1, s, e, s', h1, h => by
    simp only [loopN] at h ⊢
    split at h
    · rename_i s1 hs1
      have hm : s1.mem = [] := nil_of_le (loopN_len hb n s1 e s' h) h1
      rw [hw _ _ _ hm hs1]
      exact wm_loopN hb hw n s1 e s' h1 h
    · rename_i hne
      rw [hw _ _ _ h1 h]
      cases e with
      | normal => exact absurd h (hne s')
      | exit i => rfl
      | ret => rfl

theorem wm_run (hG : Grows C) (hF : FrameOK C) (n : Nat) : ∀ (c : VC) (s : St) (e : VExit) (s' : St), s'.mem = [] → run C n c s = some (e, s') → run C n c (s.withMem m) = some (e, s'.withMem m) := by
  intro c
  induction c with
  | skip => intro s e s' _ h; simp [run] at h; rw [← h.1, h.2]; rfl
  | region is =>
    intro s e s' h1 h
    simp only [run] at h ⊢
    split at h
    · rename_i s1 hs1
      simp only [Option.some.injEq, Prod.mk.injEq] at h
      obtain ⟨rfl, rfl⟩ := h
      rw [wm_runOps hG hF _ _ _ h1 hs1]
    · simp at h
  | seq x y ihx ihy =>
    intro s e s' h1 h
    simp only [run] at h ⊢
    split at h
    · rename_i s1 hs1
      have hm : s1.mem = [] := nil_of_le (run_len hG n _ _ _ _ h) h1
      rw [ihx _ _ _ hm hs1]
      exact ihy _ _ _ h1 h
    · rename_i hne
      rw [ihx _ _ _ h1 h]
      cases e with
      | normal => exact absurd h (hne s')
      | exit i => rfl
      | ret => rfl
  | cond c x y ihx ihy =>
    intro s e s' h1 h
    simp only [run, wm_ev] at h ⊢
    split at h
    · exact ihx _ _ _ h1 h
    · exact ihy _ _ _ h1 h
    · simp at h
  | block id x ih =>
    intro s e s' h1 h
    simp only [run] at h ⊢
    split at h
    · rename_i i s1 hs1
      split at h
      · rename_i hi
        simp only [Option.some.injEq, Prod.mk.injEq] at h
        obtain ⟨rfl, rfl⟩ := h
        rw [ih _ _ _ h1 hs1]
        simp only [hi, if_true]
      · rename_i hi
        simp only [Option.some.injEq, Prod.mk.injEq] at h
        obtain ⟨rfl, rfl⟩ := h
        rw [ih _ _ _ h1 hs1]
        simp only [hi, if_false]
    · rename_i hne
      rw [ih _ _ _ h1 h]
      cases e with
      | normal => rfl
      | exit i => exact absurd h (hne i s')
      | ret => rfl
  | loop x ih => intro s e s' h1 h; exact wm_loopN (run_len hG n x) ih n s e s' h1 h
  | exit id => intro s e s' _ h; simp [run] at h; rw [← h.1, h.2]; rfl
  | ret => intro s e s' _ h; simp [run] at h; rw [← h.1, h.2]; rfl

theorem wm_resOf {r : VRes} {v : AV} (h0 : s.mem = []) (h : resOf s r = some v) : resOf (s.withMem m) r = some v := by
  cases r with
  | tmp t => exact h
  | cell t agg =>
    simp only [resOf] at h ⊢
    rw [show (s.withMem m).get t = s.get t from rfl]
    split at h
    · split at h
      · rename_i hcs
        rw [(wm_objCells (m := m) h0 hcs).1]
        exact h
      · simp at h
    · simp at h

theorem wm_resList (h0 : s.mem = []) : ∀ (rs : List VRes) (vs : List AV), resList s rs = some vs → resList (s.withMem m) rs = some vs
  | [], vs, h => h
  | r :: rs, vs, h => by
    simp only [resList] at h ⊢
    split at h
    · rename_i hv hvs
      rw [wm_resOf h0 hv, wm_resList h0 rs _ hvs]
      exact h
    · simp at h

theorem wm_result (h0 : s.mem = []) {rs : List VRes} {v : AV} (h : result s rs = some v) : result (s.withMem m) rs = some v := by
  unfold result at h ⊢
  cases hr : resList s rs with
  | none => rw [hr] at h; simp at h
  | some vs =>
    rw [hr] at h
    rw [wm_resList h0 rs vs hr]
    exact h

theorem callN_grows (T : FuncId → Option VF) : ∀ k, Grows (callN T k)
  | 0 => by intro f args m v m' h; simp [callN] at h
  | k + 1 => by
    have ih := callN_grows T k
    intro f args m v m' h
    simp only [callN] at h
    split at h
    · simp at h
    · split at h
      · split at h
        · rename_i s hrun
          split at h
          · simp only [Option.some.injEq, Prod.mk.injEq] at h
            rw [← h.2]; exact run_len ih k _ _ _ _ hrun
          · simp at h
        · rename_i s hrun
          split at h
          · simp only [Option.some.injEq, Prod.mk.injEq] at h
            rw [← h.2]; exact run_len ih k _ _ _ _ hrun
          · simp at h
        · simp at h
      · simp at h

theorem callN_frame (T : FuncId → Option VF) : ∀ k, FrameOK (callN T k)
  | 0 => by intro f args v m h; simp [callN] at h
  | k + 1 => by
    have ih := callN_frame T k
    have ig := callN_grows T k
    intro f args v m h
    simp only [callN] at h ⊢
    split at h
    · simp at h
    · rename_i vf hvf
      split at h
      · rename_i hl
        simp only [hl, if_true]
        have e : St.init args m = (St.init args []).withMem m := rfl
        rw [e]
        split at h
        · rename_i s hrun
          split at h
          · rename_i v' hres
            simp only [Option.some.injEq, Prod.mk.injEq] at h
            rw [wm_run ig ih k _ _ _ _ h.2 hrun]
            simp only
            rw [wm_result h.2 hres, ← h.1]
            rfl
          · simp at h
        · rename_i s hrun
          split at h
          · rename_i v' hres
            simp only [Option.some.injEq, Prod.mk.injEq] at h
            rw [wm_run ig ih k _ _ _ _ h.2 hrun]
            simp only
            rw [wm_result h.2 hres, ← h.1]
            rfl
          · simp at h
        · simp at h
      · simp at h

/-- THE WHOLE: what the small code computes, the program does. -/
theorem sound {P : Program} {heap eff : FuncId → List Nat} {T : FuncId → Option VF} (hm : P.follows .mixedOrders = true) (hT : ∀ f vf, T f = some vf → trF P heap eff drawOk f = some vf) (k : Nat) : CallOK P (callN T k) :=
  callN_ok hT (callN_frame T) (fun _ hC hF n heap takes eff => draw_ok hm hC hF n heap takes eff) k

end
end Go.Vm
