/- Chapter 55: what its functions compute. -/
import Derived.Test.YtgmhcmmdfejcmaaDoorC55zb
namespace Go.Vm.Ch55
open _root_.Ch55 (T55 c6)
set_option maxRecDepth 10000
set_option maxHeartbeats 16000000
/-- The row of all records that have been added, beside a journal. -/
inductive AllAt (m : Mem) (j k : Nat) (oi : Option Nat) : AV → List (List UInt8) → Prop
  | nil (nn : Bool) : AllAt m j k oi (.zcap nn) []
  | row (x : Nat) (R : List (List UInt8)) (r : List AV) (h : m[x]? = some (some (LObj.cells false (R.map AV.str ++ r)))) (h1 : x ≠ j) (h2 : x ≠ k) (h3 : oi ≠ some x) : AllAt m j k oi (.orow 1 x R.length) R
theorem AllAt.sl {m : Mem} {j k : Nat} {oi : Option Nat} {v : AV} {R : List (List UInt8)} (h : AllAt m j k oi v R) : StrSl v.view m R := by
  cases h with
  | nil nn => exact StrSl.zcap nn m
  | row x R r h => exact StrSl.row h
theorem AllAt.len {m : Mem} {j k : Nat} {oi : Option Nat} {v : AV} {R : List (List UInt8)} (h : AllAt m j k oi v R) : lenSlV v = some (AV.int IntKind.i64 R.length) := by
  cases h <;> rfl
theorem AllAt.tk {m : Mem} {j k : Nat} {oi : Option Nat} {v : AV} {R : List (List UInt8)} (h : AllAt m j k oi v R) (s : St) (t : Nat) : takeV s t v = (v, s) := by
  cases h <;> rfl
/-- The row in another memory. -/
theorem AllAt.other {m m' : Mem} {j k j' : Nat} {oi oi' : Option Nat} {v : AV} {R : List (List UInt8)} (h : AllAt m j k oi v R)
    (hs : ∀ x, x < m.length → x ≠ j → x ≠ k → oi ≠ some x → m'[x]? = m[x]?) (hj : ∀ x, x < m.length → x ≠ j → x ≠ j') (ho : ∀ x, x < m.length → oi ≠ some x → oi' ≠ some x) : AllAt m' j' k oi' v R := by
  cases h with
  | nil nn => exact .nil nn
  | row x R r h h1 h2 h3 =>
    have hl := lt_of_get h
    exact .row x R r (by rw [hs x hl h1 h2 h3]; exact h) (hj x hl h1) h2 (ho x hl h3)
/-- The row is cut. -/
theorem AllAt.cut {m : Mem} {j k : Nat} {oi : Option Nat} {v : AV} {R : List (List UInt8)} (h : AllAt m j k oi v R) {n : Nat} (hn : n ≤ R.length) :
    ∃ v', slAny 1 none (some (AV.int IntKind.i64 n)) v = some v' ∧ AllAt m j k oi v' (R.take n) := by
  cases h with
  | nil nn =>
    have : n = 0 := by simpa using hn
    subst this
    exact ⟨.zcap nn, rfl, .nil nn⟩
  | row x R r h h1 h2 h3 =>
    refine ⟨.orow 1 x n, ?_, ?_⟩
    · simp; omega
    · have := AllAt.row (j := j) (k := k) (oi := oi) x (R.take n) ((R.drop n).map AV.str ++ r) (by rw [← List.append_assoc, ← List.map_append, List.take_append_drop]; exact h) h1 h2 h3
      rwa [List.length_take, Nat.min_eq_left hn] at this
/-- A record is added to the row. -/
theorem AllAt.app {m : Mem} {j k : Nat} {oi : Option Nat} {v : AV} {R : List (List UInt8)} (h : AllAt m j k oi v R) (hj : j < m.length) (hk : k < m.length) (ho : ∀ i, oi = some i → i < m.length) (hR : R.length ≤ 1000000) (t : List UInt8) :
    ∃ v' m', appO 1 16 m v [.str t] = some (v', m') ∧ AllAt m' j k oi v' (R ++ [t]) ∧ m'[j]? = m[j]? ∧ m'[k]? = m[k]? ∧ ∀ i, oi = some i → m'[i]? = m[i]? := by
  cases h with
  | nil nn =>
    refine ⟨.orow 1 m.length 1, m ++ [some (.cells false [.str t])], by simp [appO, flat], ?_, List.getElem?_append_left hj, List.getElem?_append_left hk, fun i e => List.getElem?_append_left (ho i e)⟩
    exact AllAt.row m.length [t] [] (by simp) (by omega) (by omega) (fun e => by have := ho _ e; omega)
  | row x R r h h1 h2 h3 =>
    have hl := lt_of_get h
    refine ⟨.orow 1 m.length (R.length + 1), m.set x none ++ [some (.cells false ((R ++ [t]).map AV.str))], ?_, ?_, ?_, ?_, ?_⟩
    · simp [appO, h, flat]
      omega
    · have := AllAt.row (m := m.set x none ++ [some (.cells false ((R ++ [t]).map AV.str))]) (j := j) (k := k) (oi := oi) m.length (R ++ [t]) [] (by rw [List.getElem?_append_right (by simp)]; simp) (by omega) (by omega) (fun e => by have := ho _ e; omega)
      simpa using this
    · rw [List.getElem?_append_left (by simpa using hj), List.getElem?_set_ne h1]
    · rw [List.getElem?_append_left (by simpa using hk), List.getElem?_set_ne h2]
    · intro i e
      rw [List.getElem?_append_left (by simpa using ho i e), List.getElem?_set_ne (fun e2 => h3 (by rw [e, e2]))]
end Go.Vm.Ch55
