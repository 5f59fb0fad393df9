/- Chapter 09: what its functions compute. -/
import Derived.Test.YtijbapbijpdpiaaDoorC09y
import Derived.Test.YtijbapbijpdpiaaDoorC09x
namespace Go.Vm.Ch09
open _root_.Ch09 (T09 c8)
set_option maxRecDepth 10000
set_option maxHeartbeats 16000000
theorem joinN_snoc (P : List (List UInt8)) (x : List UInt8) : joinN (P ++ [x]) = joinN P ++ (x ++ [10]) := by simp [joinN]
theorem linesL_pre (s : List UInt8) : ∃ X, sp10 s = linesL s ++ X := by
  unfold linesL
  split
  · exact ⟨_, (List.dropLast_concat_getLast (sp10_ne s)).symm⟩
  · exact ⟨[], by simp⟩
theorem linesL_len (s : List UInt8) : (linesL s).length ≤ s.length + 1 := by
  obtain ⟨X, hX⟩ := linesL_pre s
  have h := sp10_len s
  have h2 := cnt_le s
  rw [hX, List.length_append] at h
  omega
theorem law8 (s : List UInt8) (_ : inL s.length) : ∃ m, callL T09 8 [.str s] [] = some (.bool true, m) := by
  have ha := awake
  by_cases h1 : 65536 < s.length
  · refine ⟨[], ?_⟩
    have hl := q21a s h1 []
    have h1i : (65536 : Int) < s.length := by omega
    apply callL_body (vf := c8) rfl rfl
    by_cases h2 : (65600 : Int) < s.length
    · simp [c8, ha, hl, h1i, h2]
    · simp [c8, ha, hl, h1i, h2]
  have hl := q21 s h1 []
  have h1i : ¬ (65536 : Int) < s.length := by omega
  obtain ⟨X, hX⟩ := linesL_pre s
  have hn := linesL_len s
  refine ⟨[lnO (sp10 s) 0], ?_⟩
  apply callL_body (vf := c8) rfl rfl
  by_cases h3 : (2000 : Int) < s.length
  · simp [c8, ha, hl, h1i, h3]
  have h22 := q22 s h1 []
  have hj := lines_join s
  rw [hX] at hl ⊢
  generalize linesL s = L at *
  simp [c8, ha, hl, h1i, h3, h22]
  refine wp_loop (fun n t => ∃ i : Nat, n = L.length - i ∧ i ≤ L.length ∧ t.get 0 = .str s ∧ t.get 3 = .row (.mem 0) 0 L.length ∧ t.get 5 = vv none true stE L ∧ t.get 7 = .str (joinN (L.take i)) ∧ t.get 8 = AV.int IntKind.i64 (i : Nat) ∧ t.mem = [lnO (L ++ X) 0]) ?_ L.length _ ?_
  rotate_left
  · exact ⟨0, by simp [joinN]⟩
  rintro n t ⟨i, hn, hi, e0, e3, e5, e7, e8, hm⟩
  by_cases hlt : i < L.length
  · have hli : (i : Int) < L.length := by omega
    have wi : W64 ((i : Int) + 1) ((i + 1 : Nat) : Int) := .mkI rfl (by omega) (by omega)
    have hg : (L.map AV.str ++ X.map AV.str)[i]? = some (.str L[i]) := by
      rw [List.getElem?_append_left (by simpa using hlt)]; simp [hlt]
    have ht : L.take (i + 1) = L.take i ++ [L[i]] := (List.take_append_getElem hlt).symm
    have hjn : joinN (L.take (i + 1)) = joinN (L.take i) ++ (L[i] ++ [10]) := by rw [ht, joinN_snoc]
    have hjl : (joinN (L.take (i + 1))).length ≤ (joinN L).length := by
      conv => rhs; rw [← List.take_append_drop (i + 1) L]
      unfold joinN; rw [List.flatMap_append, List.length_append]; omega
    have hjL : (joinN L).length ≤ s.length + 1 := by rcases hj with h | h <;> rw [h] <;> simp
    have hjs : (joinN (L.take i)).length + (L[i].length + 1) ≤ s.length + 1 := by rw [hjn] at hjl; simp only [List.length_append, List.length_cons, List.length_nil] at hjl; omega
    have hgi : L[i] = gi L (i : Int) := by simp [gi, hlt]
    generalize L[i] = li at *
    generalize hJ : joinN (L.take i) = J at *
    simp [e0, e3, e5, e7, e8, hm, hli, hg, wi.eq, -Int.natCast_add]
    refine ⟨hgi, fun _ => ?_⟩
    exact ⟨by omega, by omega, L.length - (i + 1), by omega, i + 1, rfl, by omega, hjn.symm, rfl⟩
  · have hli : ¬ (i : Int) < L.length := by omega
    have hii : i = L.length := by omega
    subst hii
    rw [List.take_length] at e7
    rcases hj with h | h
    · simp [e0, e3, e7, e8, hm, h]
    · simp [e0, e3, e7, e8, hm, h]
      omega
end Go.Vm.Ch09
