/- Chapter 11: what its functions compute. -/

/- The shortest edits of rows. -/
namespace Go.Vm.Ch11
/-! ### the fewest edits -/
abbrev Rw := List UInt8
abbrev Ed := Int × Rw
def lev : List Rw → List Rw → Nat
  | [], n => n.length
  | a :: o, [] => (a :: o).length
  | a :: o, b :: n => if a = b then lev o n else 1 + min (lev o (b :: n)) (lev (a :: o) n)
  termination_by o n => o.length + n.length
theorem lev_nil (n : List Rw) : lev [] n = n.length := by rw [lev]
theorem lev_nil2 (o : List Rw) : lev o [] = o.length := by cases o <;> rw [lev] <;> rfl
theorem lev_same (a : Rw) (o n : List Rw) : lev (a :: o) (a :: n) = lev o n := by rw [lev, if_pos rfl]
theorem lev_ne {a b : Rw} (h : a ≠ b) (o n : List Rw) : lev (a :: o) (b :: n) = 1 + min (lev o (b :: n)) (lev (a :: o) n) := by rw [lev, if_neg h]
theorem lev_near : ∀ (s : Nat) (o n : List Rw), o.length + n.length ≤ s → ∀ a b : Rw,
    lev o n ≤ 1 + lev o (b :: n) ∧ lev o n ≤ 1 + lev (a :: o) n ∧ lev (a :: o) n ≤ 1 + lev o n ∧ lev o (b :: n) ≤ 1 + lev o n
  | 0, o, n, h, a, b => by
    have h1 : o = [] := List.eq_nil_of_length_eq_zero (by omega)
    have h2 : n = [] := List.eq_nil_of_length_eq_zero (by omega)
    subst h1; subst h2
    simp only [lev_nil, lev_nil2, List.length_cons, List.length_nil]
    omega
  | s + 1, o, n, h, a, b => by
    have ih := lev_near s
    refine ⟨?_, ?_, ?_, ?_⟩
    · cases o with
      | nil => simp only [lev_nil, List.length_cons]; omega
      | cons x o =>
        simp only [List.length_cons] at h
        by_cases e : x = b
        · subst e; rw [lev_same]
          exact (ih o n (by omega) x x).2.2.1
        · rw [lev_ne e]
          have h1 := (ih o n (by omega) x b).2.2.1
          have h2 := (ih o n (by omega) x b).1
          omega
    · cases n with
      | nil => simp only [lev_nil2, List.length_cons]; omega
      | cons y n =>
        simp only [List.length_cons] at h
        by_cases e : a = y
        · subst e; rw [lev_same]
          exact (ih o n (by omega) a a).2.2.2
        · rw [lev_ne e]
          have h1 := (ih o n (by omega) a y).2.2.2
          have h2 := (ih o n (by omega) a y).2.1
          omega
    · cases n with
      | nil => simp only [lev_nil2, List.length_cons]; omega
      | cons y n =>
        simp only [List.length_cons] at h
        by_cases e : a = y
        · subst e; rw [lev_same]
          exact (ih o n (by omega) a a).1
        · rw [lev_ne e]; omega
    · cases o with
      | nil => simp only [lev_nil, List.length_cons]; omega
      | cons x o =>
        simp only [List.length_cons] at h
        by_cases e : x = b
        · subst e; rw [lev_same]
          exact (ih o n (by omega) x x).2.1
        · rw [lev_ne e]; omega
theorem lev_del (a : Rw) (o n : List Rw) : lev (a :: o) n ≤ 1 + lev o n := (lev_near _ o n (Nat.le_refl _) a a).2.2.1
theorem lev_ins (b : Rw) (o n : List Rw) : lev o (b :: n) ≤ 1 + lev o n := (lev_near _ o n (Nat.le_refl _) b b).2.2.2
theorem lev_le : ∀ (o n : List Rw), lev o n ≤ o.length + n.length
  | [], n => by rw [lev_nil]; simp
  | a :: o, n => by
    have h1 := lev_del a o n
    have h2 := lev_le o n
    simp only [List.length_cons]; omega
/-! ### the edits -/
def diffF : Nat → List Rw → List Rw → List Ed
  | 0, _, _ => []
  | _ + 1, [], [] => []
  | f + 1, [], b :: n => (2, b) :: diffF f [] n
  | f + 1, a :: o, [] => (1, a) :: diffF f o []
  | f + 1, a :: o, b :: n => if a = b then (0, a) :: diffF f o n else if lev (a :: o) (b :: n) = 1 + lev o (b :: n) then (1, a) :: diffF f o (b :: n) else (2, b) :: diffF f (a :: o) n
def diffL (o n : List Rw) : List Ed := diffF (o.length + n.length) o n
/-- Applying edits: what they make of rows. -/
def appF : List Rw → List Ed → Option (List Rw)
  | [], [] => some []
  | _ :: _, [] => none
  | o, (k, t) :: es =>
    if k = 2 then (appF o es).map (t :: ·) else match o with
      | [] => none
      | a :: o' => if a = t then (if k = 1 then appF o' es else (appF o' es).map (t :: ·)) else none
def invE (e : Ed) : Ed := (if e.1 = 1 then 2 else if e.1 = 2 then 1 else e.1, e.2)
def costE : List Ed → Nat
  | [] => 0
  | e :: es => (if e.1 = 0 then 0 else 1) + costE es
theorem diff_apply : ∀ (f : Nat) (o n : List Rw), o.length + n.length ≤ f → appF o (diffF f o n) = some n
  | 0, o, n, h => by
    have h1 : o = [] := List.eq_nil_of_length_eq_zero (by omega)
    have h2 : n = [] := List.eq_nil_of_length_eq_zero (by omega)
    subst h1; subst h2; rfl
  | f + 1, [], [], _ => rfl
  | f + 1, [], b :: n, h => by
    simp only [List.length_cons, List.length_nil] at h
    simp only [diffF, appF, if_true]
    rw [diff_apply f [] n (by simp; omega)]; rfl
  | f + 1, a :: o, [], h => by
    simp only [List.length_cons, List.length_nil] at h
    simp only [diffF, appF]
    rw [diff_apply f o [] (by simp; omega)]; rfl
  | f + 1, a :: o, b :: n, h => by
    simp only [List.length_cons] at h
    simp only [diffF]
    split
    · rename_i e; subst e
      simp only [appF]
      rw [diff_apply f o n (by omega)]; rfl
    · split
      · simp only [appF]
        rw [diff_apply f o (b :: n) (by simp; omega)]; rfl
      · simp only [appF]
        rw [diff_apply f (a :: o) n (by simp; omega)]; rfl
theorem diff_back : ∀ (f : Nat) (o n : List Rw), o.length + n.length ≤ f → appF n ((diffF f o n).map invE) = some o
  | 0, o, n, h => by
    have h1 : o = [] := List.eq_nil_of_length_eq_zero (by omega)
    have h2 : n = [] := List.eq_nil_of_length_eq_zero (by omega)
    subst h1; subst h2; rfl
  | f + 1, [], [], _ => rfl
  | f + 1, [], b :: n, h => by
    simp only [List.length_cons, List.length_nil] at h
    simp only [diffF, List.map_cons, invE, appF]
    have := diff_back f [] n (by simp; omega)
    simp [this]
  | f + 1, a :: o, [], h => by
    simp only [List.length_cons, List.length_nil] at h
    simp only [diffF, List.map_cons, invE, appF]
    have := diff_back f o [] (by simp; omega)
    simp [this]
  | f + 1, a :: o, b :: n, h => by
    simp only [List.length_cons] at h
    simp only [diffF]
    split
    · rename_i e; subst e
      have := diff_back f o n (by omega)
      simp [invE, appF, this]
    · split
      · have := diff_back f o (b :: n) (by simp; omega)
        simp [invE, appF, this]
      · have := diff_back f (a :: o) n (by simp; omega)
        simp [invE, appF, this]
theorem diff_self : ∀ (f : Nat) (o : List Rw), o.length + o.length ≤ f → diffF f o o = o.map fun a => (0, a)
  | 0, o, h => by
    have h1 : o = [] := List.eq_nil_of_length_eq_zero (by omega)
    subst h1; rfl
  | f + 1, [], _ => rfl
  | f + 1, a :: o, h => by
    simp only [List.length_cons] at h
    simp only [diffF, if_true, List.map_cons]
    rw [diff_self f o (by omega)]
theorem diff_cost : ∀ (f : Nat) (o n : List Rw), o.length + n.length ≤ f → costE (diffF f o n) = lev o n
  | 0, o, n, h => by
    have h1 : o = [] := List.eq_nil_of_length_eq_zero (by omega)
    have h2 : n = [] := List.eq_nil_of_length_eq_zero (by omega)
    subst h1; subst h2; rw [lev_nil]; rfl
  | f + 1, [], [], _ => by rw [lev_nil]; rfl
  | f + 1, [], b :: n, h => by
    simp only [List.length_cons, List.length_nil] at h
    have := diff_cost f [] n (by simp; omega)
    simp only [lev_nil] at this
    simp only [diffF, lev_nil, List.length_cons]
    simp only [costE, this]
    simp
    try omega
  | f + 1, a :: o, [], h => by
    simp only [List.length_cons, List.length_nil] at h
    have := diff_cost f o [] (by simp; omega)
    simp only [lev_nil2] at this
    simp only [diffF, lev_nil2, List.length_cons]
    simp only [costE, this]
    simp
    try omega
  | f + 1, a :: o, b :: n, h => by
    simp only [List.length_cons] at h
    simp only [diffF]
    split
    · rename_i e; subst e
      have := diff_cost f o n (by omega)
      rw [lev_same]
      simp only [costE, this]
      simp
    · rename_i hne
      split
      · rename_i hl
        have := diff_cost f o (b :: n) (by simp; omega)
        rw [hl]
        simp only [costE, this]
        simp
        try omega
      · rename_i hl
        have := diff_cost f (a :: o) n (by simp; omega)
        rw [lev_ne hne] at hl ⊢
        simp only [costE, this]
        simp
        try omega
theorem app_cost : ∀ (es : List Ed) (o n : List Rw), appF o es = some n → lev o n ≤ costE es
  | [], [], n, h => by simp only [appF, Option.some.injEq] at h; subst h; rw [lev_nil]; simp
  | [], a :: o, n, h => by simp [appF] at h
  | (k, t) :: es, o, n, h => by
    by_cases hk : k = 2
    · subst hk
      have e : appF o ((2, t) :: es) = (appF o es).map (t :: ·) := by cases o <;> rfl
      rw [e] at h
      cases ha : appF o es with
      | none => rw [ha] at h; simp at h
      | some n' =>
        rw [ha] at h
        simp only [Option.map_some, Option.some.injEq] at h; subst h
        have h1 := app_cost es o n' ha
        have h2 := lev_ins t o n'
        simp only [costE]
        simp; omega
    · cases o with
      | nil => simp [appF, hk] at h
      | cons a o' =>
        simp only [appF, if_neg hk] at h
        split at h
        · rename_i ht; subst ht
          split at h
          · rename_i hk1; subst hk1
            have h1 := app_cost es o' n h
            have h2 := lev_del a o' n
            simp only [costE]
            simp; omega
          · rename_i hk1
            cases ha : appF o' es with
            | none => rw [ha] at h; simp at h
            | some n' =>
              rw [ha] at h
              simp only [Option.map_some, Option.some.injEq] at h; subst h
              have h1 := app_cost es o' n' ha
              rw [lev_same]
              simp only [costE]
              omega
        · simp at h
/-- No edits that make the new rows of the old ones are fewer. -/
theorem diff_least (o n : List Rw) (es : List Ed) (h : appF o es = some n) : costE (diffL o n) ≤ costE es := by
  rw [diffL, diff_cost _ _ _ (Nat.le_refl _)]
  exact app_cost es o n h
end Go.Vm.Ch11
