/- Chapter 51: what its functions compute. -/
import Derived.Test.YtdodnhbegabbpaaC51b
namespace Go.Vm.Ch51
open _root_.Ch51 (T51 c12 c13 c14 c15 c16 c17 c18 c19 c20 c21 c22 c35 c36 c37 c38 c39 c40 c50 c51 c52 c64 c65)
set_option maxRecDepth 10000
set_option maxHeartbeats 4000000
theorem anyX_false {xs : List Int} (h : anyX xs = false) : ∀ i (h : i < xs.length), 1 ≤ xs[i] ∧ xs[i] ≤ 1000000 := by
  intro i hi
  have := List.any_eq_false.1 h _ (List.getElem_mem hi)
  simpa [badX] using this
theorem anyY_false {xs : List Int} (h : anyY xs = false) : ∀ i (h : i < xs.length), 0 ≤ xs[i] ∧ xs[i] ≤ 1000000 := by
  intro i hi
  have := List.any_eq_false.1 h _ (List.getElem_mem hi)
  simpa [badY] using this
theorem anyX_of {xs : List Int} (h : ∀ i (h : i < xs.length), 1 ≤ xs[i] ∧ xs[i] ≤ 1000000) : anyX xs = false := by
  rw [anyX, List.any_eq_false]
  intro x hx
  obtain ⟨i, hi, rfl⟩ := List.getElem_of_mem hx
  simpa [badX] using h i hi
theorem anyY_of {xs : List Int} (h : ∀ i (h : i < xs.length), 0 ≤ xs[i] ∧ xs[i] ≤ 1000000) : anyY xs = false := by
  rw [anyY, List.any_eq_false]
  intro x hx
  obtain ⟨i, hi, rfl⟩ := List.getElem_of_mem hx
  simpa [badY] using h i hi
theorem anyX_true {xs : List Int} {i : Nat} (hi : i < xs.length) (h : xs[i] < 1 ∨ 1000000 < xs[i]) : anyX xs = true := by
  rw [anyX, List.any_eq_true]
  exact ⟨_, List.getElem_mem hi, by simp [badX]; omega⟩
theorem anyY_true {xs : List Int} {i : Nat} (hi : i < xs.length) (h : xs[i] < 0 ∨ 1000000 < xs[i]) : anyY xs = true := by
  rw [anyY, List.any_eq_true]
  exact ⟨_, List.getElem_mem hi, by simp [badY]; omega⟩
theorem incr_of {xs : List Int} (h : incrL xs = true) : Incr xs := by
  have h1 := (incrL_iff xs).1 h
  intro i j hj hij
  induction j with
  | zero => omega
  | succ j ih =>
    have := h1 j hj
    by_cases e : i = j
    · subst e; exact this
    · have := ih (by omega) (by omega); omega
theorem sorted_of {xs : List Int} (h : sortedL xs = true) : ∀ i j (h : j < xs.length) (h' : i ≤ j), xs[i] ≤ xs[j] := by
  have h1 := (sortedL_iff xs).1 h
  intro i j hj hij
  induction j with
  | zero => have : i = 0 := by omega
            subst this; exact Int.le_refl _
  | succ j ih =>
    by_cases e : i = j + 1
    · subst e; exact Int.le_refl _
    · have := ih (by omega) (by omega)
      have := h1 j hj; omega
theorem good_of {xs ys : List Int} (h : chk xs ys = 0) : Good xs ys := by
  unfold chk at h
  split at h
  · simp at h
  · split at h
    · simp at h
    · split at h
      · simp at h
      · split at h
        · simp at h
        · rename_i h1 h2 h3 h4
          simp only [not_or, Bool.not_eq_true] at h2
          exact ⟨by omega, by omega, by omega, anyX_false h2.1, anyY_false h2.2, incr_of (by simpa using h3), sorted_of (by simpa using h4)⟩

theorem q12 (xs ys : List Int) (nx ny : Bool) (m : Mem) : callL T51 12 [rv nx ny xs ys] m = some (.bool (decide (xs.length ≤ 20 ∧ ys.length ≤ 20)), m) := by
  apply callL_body (vf := c12) rfl rfl
  by_cases h : xs.length ≤ 20 <;> by_cases h2 : ys.length ≤ 20
  all_goals
    have e1 : ((xs.length : Int) ≤ 20) = (xs.length ≤ 20) := by simp; omega
    have e2 : ((ys.length : Int) ≤ 20) = (ys.length ≤ 20) := by simp; omega
    simp [c12, e1, e2, h, h2]
theorem q15 (xs ys : List Int) (nx ny : Bool) (m : Mem) : callL T51 15 [rv nx ny xs ys] m = some (rv nx ny xs ys, m) := by
  apply callL_body (vf := c15) rfl rfl
  simp [c15]
abbrev stone (x y z : Int) : AV := .agg [.str [], AV.int IntKind.i64 x, AV.int IntKind.i64 y, AV.int IntKind.i64 z, AV.int IntKind.i64 0, AV.int IntKind.i64 0, AV.int IntKind.i64 0, AV.int IntKind.i64 0, AV.int IntKind.i64 0, AV.int IntKind.i64 0, .str [], AV.int IntKind.i64 0, .str [], .vec none false []]
theorem q18 (x y z : Int) (m : Mem) : callL T51 18 [stone x y z] m = callL T51 19 [stone x y z] m := by
  have h1 : ∃ v, callL T51 18 [stone x y z] m = some (AV.int IntKind.i64 v, m) ∧ callL T51 19 [stone x y z] m = some (AV.int IntKind.i64 v, m) := by
    refine ⟨_, callL_body (vf := c18) rfl rfl (by simp [c18]; rfl), callL_body (vf := c19) rfl rfl (by simp [c19])⟩
  obtain ⟨v, h1, h2⟩ := h1
  rw [h1, h2]
theorem q20 (t : Int) (m : Mem) : callL T51 20 [AV.int IntKind.i64 t] m = some (.bool (decide (1 ≤ t ∧ t ≤ 1000000)), m) := by
  apply callL_body (vf := c20) rfl rfl
  simp [c20]
  by_cases h : 1 ≤ t <;> by_cases h2 : t ≤ 1000000 <;> simp [h, h2]
  all_goals omega
theorem q13 (xs ys : List Int) (nx ny : Bool) (hx : xs.length ≤ 20) (_hy : ys.length ≤ 20) (m : Mem) : callL T51 13 [rv nx ny xs ys] m = some (AV.int IntKind.i64 (chk xs ys), m) := by
  apply callL_body (vf := c13) rfl rfl
  by_cases h1 : xs.length < 1
  · have : (xs.length : Int) < 1 := by omega
    simp [c13, chk, h1, this]
  by_cases h2 : 16 < xs.length
  · have e1 : ¬ (xs.length : Int) < 1 := by omega
    have e2 : 16 < (xs.length : Int) := by omega
    simp [c13, chk, h1, h2, e1, e2]
  by_cases h3 : ¬ ys.length = xs.length
  · have e1 : ¬ (xs.length : Int) < 1 := by omega
    have e2 : ¬ 16 < (xs.length : Int) := by omega
    have e3 : ¬ (ys.length : Int) = (xs.length : Int) := by omega
    simp [c13, chk, h1, h2, e1, e2, e3, h3]
  have e1 : ¬ (xs.length : Int) < 1 := by omega
  have e2 : ¬ 16 < (xs.length : Int) := by omega
  have e3 : (ys.length : Int) = (xs.length : Int) := by omega
  have ec : chk xs ys = if anyX xs ∨ anyY ys then 6 else if incrL xs = false then 5 else if sortedL ys = false then 10 else 0 := by
    unfold chk; rw [if_neg (by omega)]
  rw [ec]
  simp [c13, e1, e2, e3]
  refine wp_loop (fun n s => ∃ i : Nat, n = xs.length - i ∧ i ≤ xs.length ∧ s.get 1 = .ptr (.loc 1 0) 0 ∧ s.loc 1 = [.cells false [iv nx xs, iv ny ys]] ∧ s.get 3 = AV.int IntKind.i64 xs.length ∧ s.get 4 = AV.int IntKind.i64 i ∧ s.mem = m ∧
    (∀ j (h : j < xs.length), j < i → 1 ≤ xs[j] ∧ xs[j] ≤ 1000000) ∧ (∀ j (h : j < ys.length), j < i → 0 ≤ ys[j] ∧ ys[j] ≤ 1000000)) ?_ xs.length _ ?_
  rotate_left
  · exact ⟨0, by simp⟩
  rintro n s ⟨i, hn, hi, g1, g2, g3, g4, hm, hbx, hby⟩
  have w2 : IntKind.wrap .i64 ((i : Int) + 1) = (i : Int) + 1 := wrap64 (by omega) (by omega)
  simp [g1, g2, g3, g4, hm, w2]
  have hone : ∀ j (h : j < xs.length), anyX xs = false → 1 ≤ xs[j] ∧ xs[j] ≤ 1000000 := fun j h ha => anyX_false ha j h
  refine ⟨fun hlt => ?_, fun hge => ?_⟩
  · have hly : i < ys.length := by omega
    rw [gi_nat hlt, gi_nat hly]
    have bx : ∀ h : xs[i] < 1 ∨ 1000000 < xs[i], anyX xs = false → False := fun h ha => by rw [anyX_true hlt h] at ha; cases ha
    have byy : ∀ h : ys[i] < 0 ∨ 1000000 < ys[i], anyY ys = false → False := fun h ha => by rw [anyY_true hly h] at ha; cases ha
    refine ⟨hlt, fun c1 => ⟨hlt, fun c2 => ⟨hly, fun c3 => ⟨hly, fun c4 _ hb => (byy (.inr c4) hb).elim, fun c4 => ?_⟩, fun c3 _ hb => (byy (.inl c3) hb).elim⟩, fun c2 ha => (bx (.inr c2) ha).elim⟩, fun c1 ha => (bx (.inl c1) ha).elim⟩
    refine ⟨xs.length - (i + 1), by omega, i + 1, rfl, by omega, by omega, fun j h hj => ?_, fun j h hj => ?_⟩
    · by_cases e : j = i
      · subst e; exact ⟨c1, c2⟩
      · exact hbx j h (by omega)
    · by_cases e : j = i
      · subst e; exact ⟨c3, c4⟩
      · exact hby j h (by omega)
  · have hax : anyX xs = false := anyX_of fun j h => hbx j h (by omega)
    have hay : anyY ys = false := anyY_of fun j h => hby j h (by omega)
    simp only [hax, hay]
    refine wp_loop (fun n s => ∃ i : Nat, n = xs.length - i ∧ 1 ≤ i ∧ i ≤ xs.length ∧ s.get 1 = .ptr (.loc 1 0) 0 ∧ s.loc 1 = [.cells false [iv nx xs, iv ny ys]] ∧ s.get 3 = AV.int IntKind.i64 xs.length ∧ s.get 5 = AV.int IntKind.i64 i ∧ s.mem = m ∧ ∀ j (h : j + 1 < xs.length), j + 1 < i → xs[j] < xs[j+1]) ?_ (xs.length - 1) _ ?_
    rotate_left
    · exact ⟨1, by simp, by simp, by omega, by simp [g1], by simp [g2], by simp [g3], by simp, by simp [hm], fun j _ hj => by omega⟩
    rintro n s ⟨i, hn, hi1, hi, g1, g2, g3, g5, hm, hbef⟩
    have w1 : IntKind.wrap .i64 ((i : Int) - 1) = (i : Int) - 1 := wrap64 (by omega) (by omega)
    have w2 : IntKind.wrap .i64 ((i : Int) + 1) = (i : Int) + 1 := wrap64 (by omega) (by omega)
    simp [g1, g2, g3, g5, hm, w1, w2]
    refine ⟨fun hlt => ?_, fun hge => ?_⟩
    · obtain ⟨j, rfl⟩ : ∃ j, i = j + 1 := ⟨i - 1, by omega⟩
      have f1 : gi xs (((j + 1 : Nat) : Int) - 1) = xs[j] := by rw [show ((j + 1 : Nat) : Int) - 1 = (j : Nat) by omega]; exact gi_nat (by omega)
      have f2 : gi xs ((j + 1 : Nat) : Int) = xs[j + 1] := gi_nat (by omega)
      rw [f1, f2]
      refine ⟨by omega, hlt, fun hle => ?_, fun hl => ?_⟩
      · have : incrL xs = false := by
          rw [Bool.eq_false_iff]; intro ht
          have := (incrL_iff xs).1 ht j (by omega); omega
        simp [this]
      · refine ⟨xs.length - (j + 1 + 1), by omega, j + 1 + 1, rfl, by omega, by omega, by omega, fun j' h' hj' => ?_⟩
        by_cases hjj : j' = j
        · subst hjj; exact hl
        · exact hbef j' h' (by omega)
    · have hinc : incrL xs = true := (incrL_iff xs).2 fun j hj => hbef j hj (by omega)
      simp only [hinc]
      refine wp_loop (fun n s => ∃ i : Nat, n = xs.length - i ∧ 1 ≤ i ∧ i ≤ xs.length ∧ s.get 1 = .ptr (.loc 1 0) 0 ∧ s.loc 1 = [.cells false [iv nx xs, iv ny ys]] ∧ s.get 3 = AV.int IntKind.i64 xs.length ∧ s.get 6 = AV.int IntKind.i64 i ∧ s.mem = m ∧ ∀ j (h : j + 1 < ys.length), j + 1 < i → ys[j] ≤ ys[j+1]) ?_ (xs.length - 1) _ ?_
      rotate_left
      · exact ⟨1, by simp, by simp, by omega, by simp [g1], by simp [g2], by simp [g3], by simp, by simp [hm], fun j _ hj => by omega⟩
      rintro n s ⟨i, hn, hi1, hi, g1, g2, g3, g5, hm, hbef⟩
      have w1 : IntKind.wrap .i64 ((i : Int) - 1) = (i : Int) - 1 := wrap64 (by omega) (by omega)
      have w2 : IntKind.wrap .i64 ((i : Int) + 1) = (i : Int) + 1 := wrap64 (by omega) (by omega)
      simp [g1, g2, g3, g5, hm, w1, w2]
      refine ⟨fun hlt => ?_, fun hge => ?_⟩
      · obtain ⟨j, rfl⟩ : ∃ j, i = j + 1 := ⟨i - 1, by omega⟩
        have f1 : gi ys (((j + 1 : Nat) : Int) - 1) = ys[j]'(by omega) := by rw [show ((j + 1 : Nat) : Int) - 1 = (j : Nat) by omega]; exact gi_nat (by omega)
        have f2 : gi ys ((j + 1 : Nat) : Int) = ys[j + 1]'(by omega) := gi_nat (by omega)
        rw [f1, f2]
        refine ⟨by omega, by omega, fun hle => ?_, fun hl => ?_⟩
        · have : sortedL ys = false := by
            rw [Bool.eq_false_iff]; intro ht
            have := (sortedL_iff ys).1 ht j (by omega); omega
          simp [this]
        · refine ⟨xs.length - (j + 1 + 1), by omega, j + 1 + 1, rfl, by omega, by omega, by omega, fun j' h' hj' => ?_⟩
          by_cases hjj : j' = j
          · subst hjj; exact hl
          · exact hbef j' h' (by omega)
      · have : sortedL ys = true := (sortedL_iff ys).2 fun j hj => hbef j hj (by omega)
        simp [this]

/-- The reference's time. -/
theorem q21 (xs ys : List Int) (nx ny : Bool) (n : Int) (hg : Good xs ys) (hn : 1 ≤ n ∧ n ≤ 1000000) (m : Mem) :
    callL T51 21 [rv nx ny xs ys, AV.int IntKind.i64 n] m = some (AV.int IntKind.i64 (tm xs ys n), m) := by
  obtain ⟨k1, k2, k3⟩ := lb_spec hg.inc n
  have hmost := hg.most
  have hone := hg.one
  have hsame := hg.same
  apply callL_body (vf := c21) rfl rfl
  have f0 : gi xs 0 = xs[0] := gi_nat (i := 0) (by omega)
  by_cases h0 : n ≤ xs[0]
  · have hk0 : lb xs n = 0 := by
      refine Nat.eq_zero_of_not_pos fun h => ?_
      have := k2 0 (by omega) h; omega
    simp [c21, f0, h0]
    refine ⟨by omega, by omega, ?_⟩
    simp [tm, hk0]
  · have h0' : xs[0] < n := by omega
    have hne : ¬ xs = [] := by intro e; subst e; simp at hone
    simp [c21, f0, h0]
    refine ⟨by omega, ?_⟩
    refine wp_loop (fun w s => ∃ i : Nat, w = xs.length - i ∧ 1 ≤ i ∧ i ≤ xs.length ∧ s.get 1 = AV.int IntKind.i64 n ∧ s.get 2 = .ptr (.loc 2 0) 0 ∧ s.loc 2 = [.cells false [iv nx xs, iv ny ys]] ∧ s.get 5 = AV.int IntKind.i64 i ∧ s.mem = m ∧ ∀ j (h : j < xs.length), j < i → xs[j] ≤ n) ?_ (xs.length - 1) _ ?_
    rotate_left
    · exact ⟨1, by simp, by simp, by omega, by simp, by simp, by simp, by simp, by simp, fun j h hj => by have : j = 0 := by omega
                                                                                                          subst this; omega⟩
    rintro w s ⟨i, hw, hi1, hi, g1, g2, g3, g5, hm, hbef⟩
    have w1 : IntKind.wrap .i64 ((i : Int) - 1) = (i : Int) - 1 := wrap64 (by omega) (by omega)
    have w2 : IntKind.wrap .i64 ((i : Int) + 1) = (i : Int) + 1 := wrap64 (by omega) (by omega)
    have w3 : IntKind.wrap .i64 ((ys.length : Int) - 1) = (ys.length : Int) - 1 := wrap64 (by omega) (by omega)
    simp [g1, g2, g3, g5, hm, w1, w2, w3, -Int.sub_nonneg]
    refine ⟨fun hlt => ⟨hlt, fun hnl => ?_, fun hle => ?_⟩, fun hge => ⟨by omega, ?_⟩⟩
    · obtain ⟨j, rfl⟩ : ∃ j, i = j + 1 := ⟨i - 1, by omega⟩
      have f1 : gi xs (((j + 1 : Nat) : Int) - 1) = xs[j] := by rw [show ((j + 1 : Nat) : Int) - 1 = (j : Nat) by omega]; exact gi_nat (by omega)
      have f2 : gi ys (((j + 1 : Nat) : Int) - 1) = ys[j]'(by omega) := by rw [show ((j + 1 : Nat) : Int) - 1 = (j : Nat) by omega]; exact gi_nat (by omega)
      have f3 : gi xs ((j + 1 : Nat) : Int) = xs[j + 1] := gi_nat (by omega)
      have f4 : gi ys ((j + 1 : Nat) : Int) = ys[j + 1]'(by omega) := gi_nat (by omega)
      have b1 := hg.xr j (by omega)
      have b2 := hg.xr (j + 1) (by omega)
      have b3 := hg.yr j (by omega)
      have b4 := hg.yr (j + 1) (by omega)
      have b5 := hg.inc j (j + 1) (by omega) (by omega)
      have b6 := hg.mono j (j + 1) (by omega) (by omega)
      have b7 := hbef j (by omega) (by omega)
      rw [f3] at hnl
      obtain ⟨v1, v2, v3, v4, v5, v6, v7, v8⟩ := mid_wrap b1.1 b5 b2.2 b3.1 b6 b4.2 b7 hn.2
      rw [f1, f2, f3, f4, v1, v2, v3, v4, v5, v6, v7, v8]
      refine ⟨by omega, by omega, by omega, by omega, by omega, ?_⟩
      by_cases he : xs[j] = n
      · have hk : lb xs n = j := lb_eq (by omega) (fun q h hq => by have := hg.inc q j (by omega) hq; omega) (fun h => by omega)
        have : xs[j]? = some n := by rw [List.getElem?_eq_getElem (by omega), he]
        have e2 : gi ys (j : Int) = ys[j]'(by omega) := gi_nat (by omega)
        simp only [tm, hk, this, if_true, e2, he]
        have : (n - n) * (ys[j + 1]'(by omega) - ys[j]'(by omega)) = 0 := by simp
        rw [this]
        have : (0 + (xs[j + 1] - n) - 1).tdiv (xs[j + 1] - n) = 0 := Int.tdiv_eq_zero_of_lt (by omega) (by omega)
        omega
      · have hk : lb xs n = j + 1 := lb_eq (by omega) (fun q h hq => by
          by_cases hqj : q = j
          · subst hqj; omega
          · have := hg.inc q j (by omega) (by omega); omega) (fun h => by omega)
        have h1 : ¬ xs[j + 1]? = some n := by
          rw [List.getElem?_eq_getElem (by omega)]
          intro h; have := Option.some.inj h; omega
        have h2 : ¬ j + 1 = 0 := by omega
        have h3 : ¬ j + 1 = xs.length := by omega
        simp only [tm, hk, h1, h2, h3, if_false, mid, f1, f2, f3, f4]
    · rw [gi_nat hlt] at hle
      refine ⟨xs.length - (i + 1), by omega, i + 1, rfl, by omega, by omega, by omega, fun j h hj => ?_⟩
      by_cases e : j = i
      · subst e; exact hle
      · exact hbef j h (by omega)
    · have e1 : (ys.length : Int) - 1 = ((xs.length - 1 : Nat) : Int) := by omega
      have hl := hbef (xs.length - 1) (by omega) (by omega)
      by_cases he : xs[xs.length - 1] = n
      · have hk : lb xs n = xs.length - 1 := lb_eq (by omega) (fun q h hq => by have := hg.inc q (xs.length - 1) (by omega) hq; omega) (fun h => by omega)
        have : xs[xs.length - 1]? = some n := by rw [List.getElem?_eq_getElem (by omega), he]
        simp only [tm, hk, this, if_true, e1]
      · have hk : lb xs n = xs.length := lb_eq (Nat.le_refl _) (fun q h hq => by
          by_cases hqj : q = xs.length - 1
          · subst hqj; omega
          · have := hg.inc q (xs.length - 1) (by omega) (by omega); omega) (fun h => by omega)
        have h1 : ¬ xs[xs.length]? = some n := by simp
        have h2 : ¬ xs.length = 0 := by omega
        have e2 : (xs.length : Int) - 1 = ((xs.length - 1 : Nat) : Int) := by omega
        simp only [tm, hk, h1, h2, if_false, if_true, e1, e2]

theorem q22 (xs ys : List Int) (nx ny : Bool) (t : Int) (hg : Good xs ys) (m : Mem) :
    callL T51 22 [rv nx ny xs ys, AV.int IntKind.i64 t] m = some (AV.int IntKind.i64 (if tm xs ys 1 ≤ t then bs (fun n => decide (tm xs ys n ≤ t)) 1 1000000 else 0), m) := by
  apply callL_body (vf := c22) rfl rfl
  by_cases ht1 : tm xs ys 1 ≤ t
  · have hn3 : ¬ t < tm xs ys 1 := by omega
    simp [c22, q21 xs ys nx ny 1 hg (by omega), ht1, hn3]
    refine wp_loop (fun n s => ∃ lo hi : Int, n = (hi - lo).toNat ∧ 1 ≤ lo ∧ lo ≤ hi ∧ hi ≤ 1000000 ∧ s.get 1 = AV.int IntKind.i64 t ∧ s.get 2 = .ptr (.loc 2 0) 0 ∧ s.loc 2 = [.cells false [iv nx xs, iv ny ys]] ∧ s.get 5 = AV.int IntKind.i64 lo ∧ s.get 6 = AV.int IntKind.i64 hi ∧ s.mem = m ∧
      bs (fun n => decide (tm xs ys n ≤ t)) lo hi = bs (fun n => decide (tm xs ys n ≤ t)) 1 1000000) ?_ 999999 _ ?_
    rotate_left
    · exact ⟨1, 1000000, by simp, by simp, by simp, by simp, by simp, by simp, by simp, by simp, by simp, by simp, by simp⟩
    rintro n s ⟨lo, hi, hn, hlo, hlh, hhi, e1, e2, e3, e7, e8, hm, hbs⟩
    have w1 : IntKind.wrap .i64 (hi - lo) = hi - lo := wrap64 (by omega) (by omega)
    have w2 : IntKind.wrap .i64 (hi - lo + 1) = hi - lo + 1 := wrap64 (by omega) (by omega)
    have w3 : (hi - lo + 1).tdiv 2 = (hi - lo + 1) / 2 := Int.tdiv_eq_ediv_of_nonneg (by omega)
    have w4 : IntKind.wrap .i64 ((hi - lo + 1) / 2) = (hi - lo + 1) / 2 := wrap64 (by omega) (by omega)
    have w6 : lo + (hi - lo + 1) / 2 = (lo + hi + 1) / 2 := by omega
    have w7 : IntKind.wrap .i64 ((lo + hi + 1) / 2) = (lo + hi + 1) / 2 := wrap64 (by omega) (by omega)
    have w5 : IntKind.wrap .i64 ((lo + hi + 1) / 2 - 1) = (lo + hi + 1) / 2 - 1 := wrap64 (by omega) (by omega)
    simp [e1, e2, e3, e7, e8, hm, w1, w2, w3, w4, w5, w6, w7, q21 xs ys nx ny ((lo + hi + 1) / 2) hg (by omega)]
    refine ⟨fun hlt => ⟨fun hp => ⟨(hi - (lo + hi + 1) / 2).toNat, by omega, _, hi, rfl, by omega, by omega, hhi, rfl, rfl, ?_⟩, fun hp => ⟨((lo + hi + 1) / 2 - 1 - lo).toNat, by omega, lo, _, rfl, hlo, by omega, by omega, rfl, rfl, ?_⟩⟩, fun hge => ?_⟩
    · rw [← hbs]; conv => rhs; rw [bs]
      simp [hlt, hp]
    · rw [← hbs]; conv => rhs; rw [bs]
      have : ¬ tm xs ys ((lo + hi + 1) / 2) ≤ t := by omega
      simp [hlt, this]
    · rw [← hbs, bs]
      have : ¬ lo < hi := by omega
      simp [this]
  · have hn3 : t < tm xs ys 1 := by omega
    simp [c22, q21 xs ys nx ny 1 hg (by omega), ht1, hn3]
end Go.Vm.Ch51
