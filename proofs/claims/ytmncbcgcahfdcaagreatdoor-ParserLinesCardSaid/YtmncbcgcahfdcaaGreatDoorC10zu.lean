/- Chapter 10: what its functions compute. -/
import Derived.Test.YtmncbcgcahfdcaaGreatDoorC10zl
import Derived.Test.YtmncbcgcahfdcaaGreatDoorC10zv
namespace Go.Vm.Ch10
set_option maxRecDepth 10000
set_option maxHeartbeats 16000000
/-! ### what Scan and Parse give is well formed -/
theorem takeWhile_all {α : Type} (p : α → Bool) : ∀ l : List α, ((l.takeWhile p).takeWhile p).length = (l.takeWhile p).length
  | [] => rfl
  | x :: l => by
    by_cases h : p x = true
    · simp [h, takeWhile_all p l]
    · simp [h]
theorem lexT_valid {c : UInt8} {r : List UInt8} (h : (lexT (c :: r)).e = 0) : valP (lexT (c :: r)).k (lexT (c :: r)).t (lexT (c :: r)).n = true := by
  simp only [lexT] at h ⊢
  split
  · rename_i h1
    rw [if_pos h1] at h
    split
    · rename_i h2
      rw [if_pos h2] at h; cases h
    · rename_i h2
      have hp : pd c = true := by
        have key : ∀ n : Fin 256, letterN n.val = true → partN n.val = true := by decide +kernel
        exact key ⟨c.toNat, c.toNat_lt⟩ h1
      have hw := takeWhile_all pd (c :: r)
      have h3 : ((c :: r).takeWhile pd).length ≤ 40 := by omega
      simp only [List.takeWhile_cons, hp, if_true] at hw h3 ⊢
      simp only [valP, if_true, List.head?_cons, h1]
      simp at hw h3 ⊢
      simp [hp, hw]; omega
  · rename_i h1
    rw [if_neg h1] at h
    split
    · rename_i h2
      rw [if_pos h2] at h
      have hn := numE_0 h
      simp only at h
      rw [if_pos h]
      simp [valP]; omega
    · rename_i h2
      rw [if_neg h2] at h
      split
      · rename_i h3
        rw [if_pos h3] at h
        split
        · rename_i h4
          rw [if_pos h4] at h
          split
          · rename_i h5
            simp [valP, h5]
          · rename_i h5
            rw [if_neg h5] at h; cases h
        · rename_i h4
          rw [if_neg h4] at h; cases h
      · rename_i h3
        rw [if_neg h3] at h
        split
        · rename_i h4
          simp [valP, h4]
        · rename_i h4
          rw [if_neg h4] at h; cases h
theorem lexL_valid : ∀ (f : Nat) (x : List UInt8) (i : Nat) (acc T : List Tk) (cm : List UInt8), lexL f x i acc = .ok T cm → acc.all vT = true → acc.length ≤ 64 → T.all vT = true ∧ T.length ≤ 64
  | 0, _, _, _, _, _, h, _, _ => by simp [lexL] at h
  | f + 1, [], i, acc, T, cm, h, h1, h2 => by
    simp only [lexL, Res.ok.injEq] at h
    rw [← h.1]; exact ⟨h1, h2⟩
  | f + 1, c :: r, i, acc, T, cm, h, h1, h2 => by
    simp only [lexL] at h
    split at h
    · exact lexL_valid f _ _ _ _ _ h h1 h2
    · split at h
      · simp only [Res.ok.injEq] at h
        rw [← h.1]; exact ⟨h1, h2⟩
      · split at h
        · cases h
        · rename_i h3
          split at h
          · rename_i h4
            refine lexL_valid f _ _ _ _ _ h ?_ ?_
            · rw [List.all_append, h1]
              simp [vT, lexT_valid h4]
            · simp; omega
          · cases h
theorem colon_last (T : List Tk) : colon T = lastC T := by
  unfold colon lastC
  cases T.getLast? with
  | none => rfl
  | some p => rfl
theorem scan_good {b : List UInt8} {ind : Int} {T : List Tk} {hd : Bool} {cm : List UInt8} (h : scanS b = .ok ind T hd cm) : T.all vT = true ∧ T.length + (if hd then 1 else 0) ≤ 64 ∧ (hd = false → lastC T = false) := by
  unfold scanS at h
  split at h
  · cases h
  · split at h
    · simp only [Scn.ok.injEq] at h
      obtain ⟨-, rfl, rfl, -⟩ := h
      exact ⟨rfl, by simp, fun _ => rfl⟩
    · split at h
      · cases h
      · split at h
        · cases h
        · split at h
          · cases h
          · rename_i T' cm' hT'
            obtain ⟨g1, g2⟩ := lexL_valid _ _ _ _ _ _ hT' rfl (by simp)
            unfold finS at h
            split at h
            · split at h
              · cases h
              · simp only [Scn.ok.injEq] at h
                obtain ⟨-, rfl, rfl, -⟩ := h
                rename_i h1 h2
                have hne : T' ≠ [] := by intro e; subst e; simp [colon] at h1
                have hpos : 0 < T'.length := List.length_pos_iff.2 hne
                refine ⟨?_, by simp; omega, fun h => by cases h⟩
                rw [List.all_eq_true] at g1 ⊢
                exact fun x hx => g1 x (List.mem_of_mem_take hx)
            · simp only [Scn.ok.injEq] at h
              obtain ⟨-, rfl, rfl, -⟩ := h
              rename_i h1
              refine ⟨g1, by simpa using g2, fun _ => ?_⟩
              rw [← colon_last]; simpa using h1
/-- What a line of a parsed tree is. -/
structure Good (p : Nat × L0) : Prop where
  ne : p.2.toks ≠ []
  ok : p.2.toks.all vT = true
  len : p.2.toks.length + (if p.2.head then 1 else 0) ≤ 64
  last : p.2.head = false → lastC p.2.toks = false
  deep : p.1 ≤ 6
def stepL : List (Nat × L0) → Prop
  | [] => True
  | [_] => True
  | p :: q :: r => q.1 ≤ p.1 + (if p.2.head then 1 else 0) ∧ stepL (q :: r)
theorem stepL_tail {p : Nat × L0} {r : List (Nat × L0)} (h : stepL (p :: r)) : stepL r := by
  cases r with
  | nil => trivial
  | cons q r => exact h.2
theorem stepL_right : ∀ {A B : List (Nat × L0)}, stepL (A ++ B) → stepL B
  | [], _, h => h
  | _ :: A, _, h => stepL_right (A := A) (stepL_tail h)
theorem stepL_left : ∀ {A B : List (Nat × L0)}, stepL (A ++ B) → stepL A
  | [], _, _ => trivial
  | [_], _, _ => trivial
  | _ :: q :: A, B, h => ⟨h.1, stepL_left (A := q :: A) (B := B) h.2⟩
theorem stepL_snoc : ∀ {A : List (Nat × L0)} {e : Nat × L0}, stepL A → e.1 ≤ mostF A → stepL (A ++ [e])
  | [], _, _, _ => trivial
  | [p], e, _, h => by
    refine ⟨?_, trivial⟩
    obtain ⟨d, l⟩ := p
    simp only [mostF, List.getLast?_singleton] at h
    simp only
    split at h <;> simp_all
  | p :: q :: A, e, h, hm => ⟨h.1, stepL_snoc (A := q :: A) h.2 (by simpa [mostF] using hm)⟩
theorem parF_good : ∀ (A : List (List UInt8)) (i : Nat) (acc acc' : List (Nat × L0)), parF A i acc = .ok acc' → stepL acc → (∀ p ∈ acc, Good p) → stepL acc' ∧ ∀ p ∈ acc', Good p
  | [], i, acc, acc', h, h1, h2 => by simp only [parF, Par.ok.injEq] at h; rw [← h]; exact ⟨h1, h2⟩
  | row :: A, i, acc, acc', h, h1, h2 => by
    simp only [parF] at h
    split at h
    · cases h
    · rename_i ind T hd cm hs
      split at h
      · exact parF_good A _ _ _ h h1 h2
      · rename_i x r
        split at h
        · cases h
        · rename_i hm
          obtain ⟨n, rfl, hn6⟩ := scan_ind hs
          obtain ⟨g1, g2, g3⟩ := scan_good hs
          refine parF_good A _ _ _ h (stepL_snoc h1 (by simp only; omega)) fun p hp => ?_
          rcases List.mem_append.1 hp with hp | hp
          · exact h2 p hp
          · rw [List.mem_singleton.1 hp]
            exact ⟨by simp, g1, g2, g3, by simp only; omega⟩
theorem vT_tkOK {p : Tk} (h : vT p = true) : tkOK p = true := by
  obtain ⟨k, x, n, a⟩ := p
  simp only [vT, valP] at h
  simp only [tkOK, Bool.and_eq_true, decide_eq_true_eq]
  split at h
  · simp only [Bool.and_eq_true, decide_eq_true_eq] at h
    obtain ⟨h1, -, h3, -⟩ := h
    omega
  split at h
  · simp only [Bool.and_eq_true, decide_eq_true_eq] at h
    obtain ⟨h1, h2, h3⟩ := h
    subst h1
    simp only [List.length_nil]; omega
  split at h
  · simp only [Bool.and_eq_true, decide_eq_true_eq, labelOK] at h
    obtain ⟨h1, ⟨⟨h2, -⟩, -⟩, -⟩ := h
    omega
  split at h
  · simp only [Bool.and_eq_true, decide_eq_true_eq] at h
    obtain ⟨h1, h2, -⟩ := h
    omega
  · cases h
theorem form_pre : ∀ N b (K : List Ln), szL K < N → stepL (pre b K) → (∀ p ∈ pre b K, Good p) → formL K = true ∧ crowL K = false ∧ (K ≠ [] → dL K + b ≤ 7) ∧ allL tkOK K = true := by
  intro N
  induction N with
  | zero => intro b K h; omega
  | succ N ih =>
    intro b K
    induction K with
    | nil => intro _ _ _; exact ⟨rfl, rfl, fun h => absurd rfl h, rfl⟩
    | cons x r ihr =>
      intro h hs hg
      obtain ⟨T, hd, K', a⟩ := x
      simp only [szL, szN] at h
      simp only [pre, preN, List.cons_append] at hs hg
      have hg0 := hg (b, ⟨T, hd, a⟩) (by simp)
      obtain ⟨f1, f2, f3, f4⟩ := ih (b + 1) K' (by omega) (stepL_left (stepL_tail hs)) fun p hp => hg p (by simp [hp])
      obtain ⟨k1, k2, k3, k4⟩ := ihr (by omega) (stepL_right (stepL_tail hs)) fun p hp => hg p (by simp [hp])
      have hkid : hd = false → K' = [] := by
        intro hh
        cases K' with
        | nil => rfl
        | cons y K2 =>
          obtain ⟨T2, h2, K3, a2⟩ := y
          simp only [pre, preN, List.cons_append, stepL, hh] at hs
          have := hs.1
          simp at this; omega
      have hb6 := hg0.deep
      simp only at hb6
      refine ⟨?_, ?_, fun _ => ?_, ?_⟩
      · simp only [formL, formN, f1, k1, Bool.and_true, formP]
        have e1 := hg0.ok
        have e2 := hg0.ne
        simp only at e1 e2
        cases hd with
        | true => simp [e1, e2]
        | false =>
          have e3 := hg0.last rfl
          simp only at e3
          simp [e1, e2, e3, hkid rfl]
      · simp only [crowL, crowN, f2, k2, Bool.or_false, decide_eq_false_iff_not]
        have := hg0.len
        simp only at this
        omega
      · simp only [dL, dN]
        have d1 : 1 + dL K' + b ≤ 7 := by
          cases K' with
          | nil => simp only [dL]; omega
          | cons y K2 => have := f3 (by simp); omega
        have d2 : dL r + b ≤ 7 := by
          cases r with
          | nil => simp only [dL]; omega
          | cons y r2 => exact k3 (by simp)
        omega
      · have e1 := hg0.ok
        simp only at e1
        simp only [allL, allN, f4, k4, Bool.and_true, List.all_eq_true] at e1 ⊢
        exact fun p hp => vT_tkOK (e1 p hp)
theorem cL_pre (b : Nat) : ∀ K : List Ln, cL K = (pre b K).length := by
  have key : ∀ N b (K : List Ln), szL K < N → cL K = (pre b K).length := by
    intro N
    induction N with
    | zero => intro b K h; omega
    | succ N ih =>
      intro b K
      induction K with
      | nil => intro _; rfl
      | cons x r ihr =>
        intro h
        obtain ⟨T, hd, K', a⟩ := x
        simp only [szL, szN] at h
        simp only [cL, cN, pre, preN, List.cons_append, List.length_cons, List.length_append, ihr (by omega), ih (b + 1) K' (by omega)]
        omega
  exact fun K => key _ b K (Nat.lt_succ_self _)
end Go.Vm.Ch10
