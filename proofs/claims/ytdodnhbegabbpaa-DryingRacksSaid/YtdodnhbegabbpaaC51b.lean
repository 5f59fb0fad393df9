/- Chapter 51: what its functions compute. -/
import Derived.Test.YtdodnhbegabbpaaC51a
namespace Go.Vm.Ch51
open _root_.Ch51 (T51 c12 c13 c14 c15 c16 c17 c18 c19 c20 c21 c22 c35 c36 c37 c38 c39 c40 c50 c51 c52 c64 c65)
set_option maxRecDepth 10000
set_option maxHeartbeats 4000000
def badX (t : Int) : Bool := !decide (1 ≤ t ∧ t ≤ 1000000)
def badY (t : Int) : Bool := decide (t < 0 ∨ 1000000 < t)
def anyX (xs : List Int) : Bool := xs.any badX
def anyY (xs : List Int) : Bool := xs.any badY
def incrL : List Int → Bool
  | [] => true
  | [_] => true
  | a :: b :: r => decide (a < b) && incrL (b :: r)
theorem incrL_iff (zs : List Int) : incrL zs = true ↔ ∀ i (h : i + 1 < zs.length), zs[i] < zs[i+1] := by
  induction zs with
  | nil => simp [incrL]
  | cons a r ih =>
    cases r with
    | nil => simp [incrL]
    | cons b r =>
      simp only [incrL, Bool.and_eq_true, decide_eq_true_eq, ih]
      constructor
      · rintro ⟨h1, h2⟩ i h
        cases i with
        | zero => exact h1
        | succ i => exact h2 i (by simpa using h)
      · intro h
        exact ⟨h 0 (by simp), fun i hi => h (i + 1) (by simpa using hi)⟩

def chk (xs ys : List Int) : Int :=
  if xs.length < 1 ∨ 16 < xs.length ∨ ys.length ≠ xs.length then 1
  else if anyX xs ∨ anyY ys then 6
  else if incrL xs = false then 5
  else if sortedL ys = false then 10
  else 0

theorem q17 (xs ys : List Int) (nx ny : Bool) (hx : xs.length ≤ 20) (hy : ys.length ≤ 20) (m : Mem) : callL T51 17 [rv nx ny xs ys] m = some (AV.int IntKind.i64 (chk xs ys), m) := by
  have hb1 : ∀ m, callL T51 37 [iv nx xs, .fn (.func 38) []] m = some (.bool (anyX xs), m) := q37 xs nx 38 badX (fun z _ => q38 z []) (by omega)
  have hb2 : ∀ m, callL T51 37 [iv ny ys, .fn (.func 39) []] m = some (.bool (anyY ys), m) := q37 ys ny 39 badY (fun z _ => q39 z []) (by omega)
  have hb3 := q40 ys ny (by omega)
  apply callL_body (vf := c17) rfl rfl
  by_cases h1 : xs.length < 1
  · have : (xs.length : Int) < 1 := by omega
    simp [c17, chk, h1, this]
  by_cases h2 : 16 < xs.length
  · have e1 : ¬ (xs.length : Int) < 1 := by omega
    have e2 : 16 < (xs.length : Int) := by omega
    simp [c17, chk, h1, h2, e1, e2]
  by_cases h3 : ¬ ys.length = xs.length
  · have e1 : ¬ (xs.length : Int) < 1 := by omega
    have e2 : ¬ 16 < (xs.length : Int) := by omega
    have e3 : ¬ (ys.length : Int) = (xs.length : Int) := by omega
    simp [c17, chk, h1, h2, e1, e2, e3, h3]
  have e1 : ¬ (xs.length : Int) < 1 := by omega
  have e2 : ¬ 16 < (xs.length : Int) := by omega
  have e3 : (ys.length : Int) = (xs.length : Int) := by omega
  have ec : chk xs ys = if anyX xs ∨ anyY ys then 6 else if incrL xs = false then 5 else if sortedL ys = false then 10 else 0 := by
    unfold chk; rw [if_neg (by omega)]
  rw [ec]
  cases ha : anyX xs with
  | true => simp [c17, e1, e2, e3, hb1, ha]
  | false =>
    cases hb : anyY ys with
    | true => simp [c17, e1, e2, e3, hb1, hb2, ha, hb]
    | false =>
      simp [c17, e1, e2, e3, hb1, hb2, ha, hb]
      refine wp_loop (fun n s => ∃ i : Nat, n = xs.length - i ∧ 1 ≤ i ∧ i ≤ xs.length ∧ s.get 1 = .ptr (.loc 1 0) 0 ∧ s.loc 1 = [.cells false [iv nx xs, iv ny ys]] ∧ s.get 3 = AV.int IntKind.i64 i ∧ s.mem = m ∧ ∀ j (h : j + 1 < xs.length), j + 1 < i → xs[j] < xs[j+1]) ?_ (xs.length - 1) _ ?_
      rotate_left
      · exact ⟨1, by simp, by simp, by omega, by simp, by simp, by simp, by simp, fun j _ hj => by omega⟩
      rintro n s ⟨i, hn, hi1, hi, g1, g2, g3, hm, hbef⟩
      have w1 : IntKind.wrap .i64 ((i : Int) - 1) = (i : Int) - 1 := wrap64 (by omega) (by omega)
      have w2 : IntKind.wrap .i64 ((i : Int) + 1) = (i : Int) + 1 := wrap64 (by omega) (by omega)
      simp [g1, g2, g3, hm, hb3, w1, w2]
      refine ⟨fun hlt => ?_, fun hge => ?_⟩
      · obtain ⟨j, rfl⟩ : ∃ j, i = j + 1 := ⟨i - 1, by omega⟩
        have f1 : gi xs (((j + 1 : Nat) : Int) - 1) = xs[j] := by rw [show ((j + 1 : Nat) : Int) - 1 = (j : Nat) by omega]; exact gi_nat (by omega)
        have f2 : gi xs ((j + 1 : Nat) : Int) = xs[j + 1] := gi_nat (by omega)
        rw [f1, f2]
        refine ⟨by omega, hlt, fun hle => ?_, fun hl => ?_⟩
        · have : incrL xs = false := by
            rw [Bool.eq_false_iff]; intro ht
            have := (incrL_iff xs).1 ht j (by omega); omega
          simp [this]
        · refine ⟨xs.length - (j + 1 + 1), by omega, j + 1 + 1, rfl, by omega, by omega, by omega, fun j' h' hj' => ?_⟩
          by_cases hjj : j' = j
          · subst hjj; exact hl
          · exact hbef j' h' (by omega)
      · have : incrL xs = true := (incrL_iff xs).2 fun j hj => hbef j hj (by omega)
        simp [this]
end Go.Vm.Ch51
