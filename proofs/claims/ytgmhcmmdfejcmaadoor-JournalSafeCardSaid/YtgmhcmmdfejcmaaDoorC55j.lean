/- Chapter 55: what its functions compute. -/
import Derived.Test.YtgmhcmmdfejcmaaDoorC55i
namespace Go.Vm.Ch55
open _root_.Ch55 (T55 c10 c11 c3)
set_option maxRecDepth 10000
set_option maxHeartbeats 8000000
/-! ### moves -/
structure Mov where
  kind : Int
  text : List UInt8
  kept : Int
  at' : Int
  flip : UInt8
deriving Inhabited
def em (p : Mov) : List AV := [AV.int IntKind.i64 p.kind, .str p.text, AV.int IntKind.i64 p.kept, AV.int IntKind.i64 p.at', .int .u8 p.flip.toNat]
@[simp] theorem em_len (b : Mov) : (em b).length = 5 := rfl
@[simp] theorem em_view (b : Mov) : (em b).map AV.view = em b := rfl
@[simp] theorem em_one (b : Mov) : (∀ x ∈ em b, x.one = true) = True := by simp [em]
@[simp] theorem em_take (b : Mov) : (em b).take 5 = em b := rfl
@[simp] theorem em0 (b : Mov) : (em b)[0]? = some (AV.int IntKind.i64 b.kind) := rfl
@[simp] theorem em1 (b : Mov) : (em b)[1]? = some (.str b.text) := rfl
@[simp] theorem em2 (b : Mov) : (em b)[2]? = some (AV.int IntKind.i64 b.kept) := rfl
@[simp] theorem em3 (b : Mov) : (em b)[3]? = some (AV.int IntKind.i64 b.at') := rfl
@[simp] theorem em4 (b : Mov) : (em b)[4]? = some (.int .u8 b.flip.toNat) := rfl
abbrev mv (nn : Bool) (P : List Mov) : AV := vv none nn (fun p => .agg (em p)) P
def sumT (P : List Mov) : Nat := (P.map fun p => p.text.length).sum
theorem sumT_succ {P : List Mov} {i : Nat} (h : i < P.length) : sumT (P.take (i + 1)) = sumT (P.take i) + P[i].text.length := by
  unfold sumT
  rw [List.take_succ_eq_append_getElem h, List.map_append, List.sum_append]
  simp
theorem sumT_le {P : List Mov} {i : Nat} : sumT (P.take i) ≤ sumT P := by
  have : sumT P = sumT (P.take i) + sumT (P.drop i) := by
    unfold sumT
    rw [← List.sum_append, ← List.map_append, List.take_append_drop]
  omega
def isTrue : Option (AV × Mem) → Bool
  | some (.bool true, _) => true
  | _ => false
theorem isTrue_inv {r : Option (AV × Mem)} (h : isTrue r = true) : ∃ m, r = some (.bool true, m) := by
  match r, h with
  | some (.bool true, m), _ => exact ⟨m, rfl⟩
theorem awake : ∃ m, callL T55 10 [] [] = some (.bool true, m) := by
  obtain ⟨m, h⟩ := isTrue_inv (r := callN T55 400 10 [] []) (by kernel_rfl)
  exact ⟨m, callL_of h⟩
theorem q11 (P : List Mov) (nn : Bool) (n : Int) (hlen : (P.length : Int) ≤ 9223372036854775807) (m : Mem) : callL T55 11 [mv nn P, AV.int IntKind.i64 n] m = some (.bool (decide (P.length ≤ n ∧ sumT P ≤ 5000)), m) := by
  apply callL_body (vf := c11) rfl rfl
  by_cases h1 : n < P.length
  · have : ¬ ((P.length : Int) ≤ n ∧ sumT P ≤ 5000) := by omega
    simp [c11, h1, this]
  have h1' : (P.length : Int) ≤ n := by omega
  simp [c11, h1, h1']
  refine wp_loop (fun wx s => ∃ i : Nat, wx = P.length - i ∧ i ≤ P.length ∧ s.get 0 = mv nn P ∧ s.get 6 = AV.int IntKind.i64 i ∧ s.get 5 = AV.int IntKind.i64 ((5000 - sumT (P.take i) : Nat) : Int) ∧ s.mem = m ∧ sumT (P.take i) ≤ 5000) ?_ P.length _ ?_
  rotate_left
  · exact ⟨0, by simp [sumT]⟩
  rintro wx s ⟨i, hn, hi, e0, e6, e5, hm, hs⟩
  by_cases hlt : i < P.length
  · have w1 : W64 ((i : Int) + 1) ((i + 1 : Nat) : Int) := .mkI rfl (by omega) (by omega)
    have hss := sumT_succ hlt
    by_cases h2 : 5000 < sumT (P.take i) + P[i].text.length
    · have h3 := sumT_le (P := P) (i := i + 1)
      have h4 : ¬ sumT P ≤ 5000 := by omega
      have h5 : (5000 - sumT (P.take i)) < P[i].text.length := by omega
      simp [e0, e6, e5, hm, hlt, gi_nat hlt, h4, h5]

    · have h5 : ¬ (5000 - sumT (P.take i)) < P[i].text.length := by omega
      have w2 : W64 (((5000 - sumT (P.take i) : Nat) : Int) - P[i].text.length) ((5000 - sumT (P.take (i + 1)) : Nat) : Int) := .mkI (by omega) (by omega) (by omega)
      simp [e0, e6, e5, hm, hlt, gi_nat hlt, h5, w1.eq, w2.eq, -Int.natCast_add]
      exact ⟨P.length - (i + 1), by omega, i + 1, rfl, by omega, rfl, rfl, by omega⟩
  · have hie : i = P.length := by omega
    subst hie
    rw [List.take_length] at hs
    simp [e0, e6, hm, hs]
end Go.Vm.Ch55
