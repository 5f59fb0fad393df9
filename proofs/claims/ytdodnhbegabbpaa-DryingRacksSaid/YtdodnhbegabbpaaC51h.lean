/- Chapter 51: what its functions compute. -/
import Derived.Test.YtdodnhbegabbpaaC51c
import Derived.Test.YtdodnhbegabbpaaVF
import Derived.KernelRfl
namespace Go.Vm.Ch51
open _root_.Ch51 (T51 c23 c25 c27 c45 c53 c48 c63 c55 c66 c67 c68 c70 c73 c62 c54 c56 c57)
set_option maxRecDepth 10000
set_option maxHeartbeats 4000000
structure Bat where
  name : List UInt8
  arr : Int
  th : Int
  deriving DecidableEq, Inhabited
structure Sta where
  name : List UInt8
  place : Int
  frm : Int
  to : Int
  deriving DecidableEq, Inhabited
def eb (b : Bat) : List AV := [.str b.name, AV.int IntKind.i64 b.arr, AV.int IntKind.i64 b.th]
def es (b : Sta) : List AV := [.str b.name, AV.int IntKind.i64 b.place, AV.int IntKind.i64 b.frm, AV.int IntKind.i64 b.to]
abbrev bv (nn : Bool) (xs : List Bat) : AV := vv none nn (fun b => .agg (eb b)) xs
abbrev sv (nn : Bool) (xs : List Sta) : AV := vv none nn (fun b => .agg (es b)) xs

theorem q25 (xs : List Bat) (nn : Bool) (hlen : xs.length ≤ 1000000) (m : Mem) : callL T51 25 [bv nn xs] m = some (bv true xs, m) := by
  apply callL_body (vf := c25) rfl rfl
  simp [c25]
  refine wp_loop (fun w s => ∃ i : Nat, w = xs.length - i ∧ i ≤ xs.length ∧ s.get 0 = bv nn xs ∧ s.get 3 = vv (some 3) true (fun b => .agg (eb b)) (xs.take i) ∧ s.get 4 = AV.int IntKind.i64 i ∧ s.mem = m) ?_ xs.length _ ?_
  rotate_left
  · exact ⟨0, by simp, by simp, by simp, by simp [vv], by simp, by simp⟩
  rintro w s ⟨i, hn, hi, h0, h3, h4, hm⟩
  have w1 : IntKind.wrap .i64 ((i : Int) + 1) = (i : Int) + 1 := wrap64 (by omega) (by omega)
  simp [h0, h3, h4, hm, w1, eb, Nat.min_eq_left hi]
  refine ⟨fun h => ⟨h, ?_⟩, fun h => ?_⟩
  · simp only [gi_nat h]
    refine ⟨by omega, xs.length - (i + 1), by omega, i + 1, rfl, by omega, ?_, by omega⟩
    exact vv_snoc (e := fun b => .agg (eb b)) h
  · have : i = xs.length := by omega
    subst this
    simp; rfl
theorem q27 (xs : List Sta) (nn : Bool) (hlen : xs.length ≤ 1000000) (m : Mem) : callL T51 27 [sv nn xs] m = some (sv true xs, m) := by
  apply callL_body (vf := c27) rfl rfl
  simp [c27]
  refine wp_loop (fun w s => ∃ i : Nat, w = xs.length - i ∧ i ≤ xs.length ∧ s.get 0 = sv nn xs ∧ s.get 3 = vv (some 4) true (fun b => .agg (es b)) (xs.take i) ∧ s.get 4 = AV.int IntKind.i64 i ∧ s.mem = m) ?_ xs.length _ ?_
  rotate_left
  · exact ⟨0, by simp, by simp, by simp, by simp [vv], by simp, by simp⟩
  rintro w s ⟨i, hn, hi, h0, h3, h4, hm⟩
  have w1 : IntKind.wrap .i64 ((i : Int) + 1) = (i : Int) + 1 := wrap64 (by omega) (by omega)
  simp [h0, h3, h4, hm, w1, es, Nat.min_eq_left hi]
  refine ⟨fun h => ⟨h, ?_⟩, fun h => ?_⟩
  · simp only [gi_nat h]
    refine ⟨by omega, xs.length - (i + 1), by omega, i + 1, rfl, by omega, ?_, by omega⟩
    exact vv_snoc (e := fun b => .agg (es b)) h
  · have : i = xs.length := by omega
    subst this
    simp; rfl
theorem q23 (xs : List Bat) (nn : Bool) (n : Int) (hlen : (xs.length : Int) ≤ 9223372036854775807) (m : Mem) : callL T51 23 [bv nn xs, AV.int IntKind.i64 n] m = some (.bool (decide (xs.length ≤ n ∧ ∀ b ∈ xs, b.name.length ≤ 60)), m) := by
  apply callL_body (vf := c23) rfl rfl
  simp [c23]
  refine ⟨fun h => by omega, fun h => ?_⟩
  refine wp_loop (fun w s => ∃ i : Nat, w = xs.length - i ∧ i ≤ xs.length ∧ s.get 0 = bv nn xs ∧ s.get 5 = AV.int IntKind.i64 i ∧ s.mem = m ∧ ∀ j (h : j < xs.length), j < i → xs[j].name.length ≤ 60) ?_ xs.length _ ?_
  rotate_left
  · exact ⟨0, by simp⟩
  rintro w s ⟨i, hn, hi, h0, h5, hm, hbef⟩
  simp [h0, h5, hm, eb]
  refine ⟨fun h => ⟨h, ?_⟩, fun h => ?_⟩
  · have w1 : IntKind.wrap .i64 ((i : Int) + 1) = (i : Int) + 1 := wrap64 (by omega) (by omega)
    rw [gi_nat h, w1]
    refine ⟨fun hl => ?_, fun hl => ⟨xs.length - (i + 1), by omega, i + 1, rfl, by omega, by omega, fun j hj hlt => ?_⟩⟩
    · intro _
      exact ⟨_, List.getElem_mem h, by omega⟩
    · by_cases e : j = i
      · subst e; omega
      · exact hbef j hj (by omega)
  · refine ⟨by omega, fun b hb => ?_⟩
    obtain ⟨j, hj, rfl⟩ := List.getElem_of_mem hb
    exact hbef j hj (by omega)
end Go.Vm.Ch51
