/- Chapter 27: what its functions compute. -/
import Derived.Test.YtjlbiebejodecaaDoorC27qe
namespace Go.Vm.Ch27
open _root_.Ch27 (T27 c26 c56)
set_option maxRecDepth 10000
set_option maxHeartbeats 8000000
theorem q56 (P : List Prt) (nn : Bool) (w h : Int) (q : Plc) (hq : 0 ≤ q.part ∧ q.part < P.length) (hg : Good P) (hw : 1 ≤ w ∧ w ≤ 1000000) (hh : 1 ≤ h ∧ h ≤ 1000000) (m : Mem) : callL T27 56 [pv nn P, AV.int IntKind.i64 w, AV.int IntKind.i64 h, .agg (el q)] m = some (.bool (onB P w h q), m) := by
  have hpm := hg _ (gi_memP hq)
  unfold onB
  generalize hx : gi P q.part = x at *
  have hW : W64 (w - x.w) (w - x.w) := .mkI rfl (by omega) (by omega)
  have hH : W64 (h - x.h) (h - x.h) := .mkI rfl (by omega) (by omega)
  apply callL_body (vf := c56) rfl rfl
  by_cases k1 : 0 ≤ q.x
  · by_cases k2 : 0 ≤ q.y
    · by_cases k3 : q.x ≤ w - x.w
      · simp [c56, k1, k2, k3, hq, hx, hW.eq, hH.eq]
      · simp [c56, k1, k2, k3, hq, hx, hW.eq]
    · simp [c56, k1, k2]
  · simp [c56, k1]
/-- All indices below n are in a list of new ones exactly if there are n. -/
theorem countP_app (l : List Int) (k : Int) (hk : has l k = false) : ∀ n : Nat, (List.range n).countP (fun j : Nat => has (l ++ [k]) (j : Int)) = (List.range n).countP (fun j : Nat => has l (j : Int)) + (if 0 ≤ k ∧ k < n then 1 else 0)
  | 0 => by simp
  | n + 1 => by
    rw [List.range_succ, List.countP_append, List.countP_append, countP_app l k hk n]
    simp only [List.countP_cons, List.countP_nil, Nat.zero_add]
    rw [has_app]
    by_cases h1 : (n : Int) = k
    · have h2 : has l (n : Int) = false := by rw [h1]; exact hk
      have h3 : ¬ (0 ≤ k ∧ k < n) := by omega
      have h4 : 0 ≤ k ∧ k < ((n + 1 : Nat) : Int) := by omega
      rw [if_neg h3, if_pos h4, h2]
      simp [h1]
    · have h2 : ((n : Int) == k) = false := by simpa using h1
      rw [h2, Bool.or_false]
      by_cases h3 : 0 ≤ k ∧ k < n
      · have h5 : 0 ≤ k ∧ k < ((n + 1 : Nat) : Int) := by omega
        rw [if_pos h3, if_pos h5]; omega
      · have h5 : ¬ (0 ≤ k ∧ k < ((n + 1 : Nat) : Int)) := by omega
        rw [if_neg h3, if_neg h5]; try simp
theorem use_count {n : Nat} : ∀ (r l : List Int), useB n l r = true → (List.range n).countP (fun j : Nat => has (l ++ r) (j : Int)) = (List.range n).countP (fun j : Nat => has l (j : Int)) + r.length
  | [], l, _ => by simp
  | k :: r, l, h => by
    rw [useB, Bool.and_eq_true] at h
    have h1 := use_count r (l ++ [k]) h.2
    have h2 := h.1
    unfold newB at h2
    simp only [Bool.and_eq_true, decide_eq_true_eq, Bool.not_eq_true'] at h2
    rw [List.append_assoc, countP_app l k h2.2 n, if_pos h2.1] at h1
    simp only [List.singleton_append] at h1
    rw [h1, List.length_cons]; omega
theorem full_iff {n : Nat} {ks : List Int} (h : useB n [] ks = true) : fullB ks n = decide (ks.length = n) := by
  have hc := use_count ks [] h
  simp only [List.nil_append] at hc
  have h0 : (List.range n).countP (fun j : Nat => has [] (j : Int)) = 0 := by
    rw [List.countP_eq_zero]; intro a _; simp [has]
  rw [h0, Nat.zero_add] at hc
  have hall := List.countP_eq_length (p := fun j : Nat => has ks (j : Int)) (l := List.range n)
  rw [List.length_range, hc] at hall
  unfold fullB
  rw [Bool.eq_iff_iff, decide_eq_true_iff, List.all_eq_true]
  exact hall.symm
end Go.Vm.Ch27
