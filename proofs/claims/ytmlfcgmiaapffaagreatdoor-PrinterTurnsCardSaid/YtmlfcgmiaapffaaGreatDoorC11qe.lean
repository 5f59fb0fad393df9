/- Chapter 11: what its functions compute. -/
import Derived.Test.YtmlfcgmiaapffaaGreatDoorC11qd
namespace Go.Vm.Ch11
open _root_.Ch11 (T11 c50 c51)
set_option maxRecDepth 10000
set_option maxHeartbeats 16000000
def outC (L N M i : Nat) : List AV := (List.range (N + 1)).map fun j => if j < i then .vec none false [] else .row (.mem (L + 1 + (N - j))) 0 (M + 1)
theorem outC_len (L N M i : Nat) : (outC L N M i).length = N + 1 := by simp [outC]
theorem outC_get {L N M i j : Nat} (h : j ≤ N) (hi : i ≤ j) : (outC L N M i)[j]? = some (.row (.mem (L + 1 + (N - j))) 0 (M + 1)) := by
  have hnl : ¬ j < i := by omega
  simp [outC, hnl, show j < N + 1 by omega]
theorem outC_set {L N M r : Nat} (h : r ≤ N) : (outC L N M (r + 1)).set r (.row (.mem (L + 1 + (N - r))) 0 (M + 1)) = outC L N M r := by
  apply List.ext_getElem?
  intro j
  rw [List.getElem?_set, outC_len]
  by_cases hj : j < N + 1
  · by_cases e : r = j
    · subst e
      rw [if_pos rfl, if_pos hj, outC_get (by omega) (Nat.le_refl _)]
    · rw [if_neg e]
      have h1 : (j < r + 1) ↔ (j < r) := by omega
      simp [outC, hj, h1]
  · have h1 : (outC L N M r)[j]? = none := by rw [List.getElem?_eq_none_iff, outC_len]; omega
    have h2 : (outC L N M (r + 1))[j]? = none := by rw [List.getElem?_eq_none_iff, outC_len]; omega
    rw [h1, h2]
    split
    · split
      · omega
      · rfl
    · rfl
def rowsM (o n : List Rw) (i : Nat) : Mem := (List.range (o.length + 1 - i)).map fun q => some (.cells false (levC o n (o.length - q) 0))
theorem rowsM_len (o n : List Rw) (i : Nat) : (rowsM o n i).length = o.length + 1 - i := by simp [rowsM]
theorem rowsM_get {o n : List Rw} {i j : Nat} (h : j ≤ o.length) (hi : i ≤ j) : (rowsM o n i)[o.length - j]? = some (some (.cells false (levC o n j 0))) := by
  have h1 : o.length - j < o.length + 1 - i := by omega
  have h2 : o.length - (o.length - j) = j := by omega
  simp [rowsM, h1, h2]
theorem rowsM_succ {o n : List Rw} {r : Nat} (h : r ≤ o.length) : rowsM o n r = rowsM o n (r + 1) ++ [some (.cells false (levC o n r 0))] := by
  have h1 : o.length + 1 - r = (o.length + 1 - (r + 1)) + 1 := by omega
  have h2 : o.length - (o.length + 1 - (r + 1)) = r := by omega
  unfold rowsM
  rw [h1, List.range_succ, List.map_append]
  simp only [List.map_cons, List.map_nil, h2]
def tabM (m : Mem) (o n : List Rw) (i : Nat) : Mem := m ++ some (.cells false (outC m.length o.length n.length i)) :: rowsM o n i
theorem tabM_out (m : Mem) (o n : List Rw) (i : Nat) : (tabM m o n i)[m.length]? = some (some (.cells false (outC m.length o.length n.length i))) := by
  unfold tabM
  rw [List.getElem?_append_right (Nat.le_refl _), Nat.sub_self]; rfl
theorem tabM_row {m : Mem} {o n : List Rw} {i j : Nat} (h : j ≤ o.length) (hi : i ≤ j) : (tabM m o n i)[m.length + 1 + (o.length - j)]? = some (some (.cells false (levC o n j 0))) := by
  unfold tabM
  rw [List.getElem?_append_right (by omega), show m.length + 1 + (o.length - j) - m.length = (o.length - j) + 1 by omega, List.getElem?_cons_succ]
  exact rowsM_get h hi
theorem tabM_len (m : Mem) (o n : List Rw) (i : Nat) : (tabM m o n i).length = m.length + 1 + (o.length + 1 - i) := by
  unfold tabM; rw [List.length_append, List.length_cons, rowsM_len]; omega
theorem levC_zero (o n : List Rw) (r : Nat) : (flat (List.replicate (n.length + 1) (AV.int IntKind.i64 0))).map AV.view = levC o n r (n.length + 1) := by
  have h1 : levC o n r (n.length + 1) = List.replicate (n.length + 1) (AV.int IntKind.i64 0) := by
    apply List.ext_getElem?
    intro j
    by_cases hj : j < n.length + 1
    · simp [levC, hj]
    · rw [List.getElem?_eq_none_iff.2 (by rw [levC_len]; omega), List.getElem?_eq_none_iff.2 (by simp; omega)]
  rw [h1]
  have h2 : ∀ k, flat (List.replicate k (AV.int IntKind.i64 0)) = List.replicate k (AV.int IntKind.i64 0) := by
    intro k
    induction k with
    | zero => rfl
    | succ k ih =>
      simp only [flat, List.replicate_succ, List.flatMap_cons, AV.cells] at ih ⊢
      rw [ih]; rfl
  rw [h2, List.map_replicate]; rfl
theorem outC_zero (L N M : Nat) : (flat (List.replicate (N + 1) (AV.vec none false []))).map AV.view = outC L N M (N + 1) := by
  have h1 : outC L N M (N + 1) = List.replicate (N + 1) (AV.vec none false []) := by
    apply List.ext_getElem?
    intro j
    by_cases hj : j < N + 1
    · simp [outC, hj]
    · rw [List.getElem?_eq_none_iff.2 (by rw [outC_len]; omega), List.getElem?_eq_none_iff.2 (by simp; omega)]
  rw [h1]
  have h2 : ∀ k, flat (List.replicate k (AV.vec none false [])) = List.replicate k (AV.vec none false []) := by
    intro k
    induction k with
    | zero => rfl
    | succ k ih =>
      simp only [flat, List.replicate_succ, List.flatMap_cons, AV.cells] at ih ⊢
      rw [ih]; rfl
  rw [h2, List.map_replicate]; rfl
theorem q50 (o n : List Rw) (na nb : Bool) (ho : o.length ≤ 500) (hn : n.length ≤ 500) (m : Mem) : callL T11 50 [sv na o, sv nb n] m = some (.row (.mem m.length) 0 (o.length + 1), tabM m o n 0) := by
  apply callL_body (vf := c50) rfl rfl
  have w1 : W64 ((o.length : Int) + 1) ((o.length + 1 : Nat) : Int) := .mkI rfl (by omega) (by omega)
  have w2 : W64 ((n.length : Int) + 1) ((n.length + 1 : Nat) : Int) := .mkI rfl (by omega) (by omega)
  have hz := outC_zero m.length o.length n.length
  have w0 : W64 (o.length : Int) (o.length : Int) := .mkI rfl (by omega) (by omega)
  show wp T11 b50v _ _
  have hb1 : 24 * ((o.length + 1 : Nat) : Int) ≤ 140737488355328 ∧ ((o.length + 1 : Nat) : Int) < 9223372036854775808 := by omega
  have hb2 : 8 * ((n.length + 1 : Nat) : Int) ≤ 140737488355328 ∧ ((n.length + 1 : Nat) : Int) < 9223372036854775808 := by omega
  have hres : c50.results = [.tmp 4] := rfl
  simp [b50v, w1.eq, hb1, hres, -Int.natCast_add]
  refine wp_loop (fun w s => ∃ i : Nat, w = i ∧ i ≤ o.length + 1 ∧ s.get 0 = sv na o ∧ s.get 1 = sv nb n ∧ s.get 5 = .row (.mem m.length) 0 (o.length + 1) ∧ s.get 6 = AV.int IntKind.i64 ((i : Int) - 1) ∧ s.mem = tabM m o n i) ?_ (o.length + 1) _ ?_
  rotate_left
  · refine ⟨o.length + 1, rfl, Nat.le_refl _, ?_⟩
    simp [tabM, hz, rowsM]
  rintro w s ⟨i, rfl, hi, e0, e1, e5, e6, em⟩
  cases w with
  | zero =>
    simp [b50o, e5, e6, em]
  | succ r =>
  have hr : r ≤ o.length := by omega
  have e6 : s.get 6 = AV.int IntKind.i64 (r : Int) := by rw [e6]; congr 1; omega
  have w3 : W64 ((r : Int) - 1) ((r : Int) - 1) := .mkI rfl (by omega) (by omega)
  have htl := tabM_len m o n (r + 1)
  have hQe : (tabM m o n (r + 1)).length = m.length + 1 + (o.length - r) := by omega
  have mo : (tabM m o n (r + 1) ++ [some (.cells false (levC o n r (n.length + 1)))])[m.length]? = some (some (.cells false (outC m.length o.length n.length (r + 1)))) := by
    rw [List.getElem?_append_left (by omega)]; exact tabM_out m o n (r + 1)
  have hol := outC_len m.length o.length n.length (r + 1)
  have hset := outC_set (L := m.length) (N := o.length) (M := n.length) hr
  rw [← hQe] at hset
  have hb3 : (r : Int) < o.length + 1 := by omega
  have hb4 : r < o.length + 1 := by omega
  obtain ⟨TB, hTB⟩ : ∃ X, tabM m o n (r + 1) = X := ⟨_, rfl⟩
  rw [hTB] at em mo hset hQe
  simp [b50o, e1, e5, e6, em, w2.eq, hb2, mo, objCells, hol, hb4, levC_zero o n r, hset, -Int.natCast_add]
  refine ⟨hr, ?_⟩
  obtain ⟨TC, hTC⟩ : ∃ X, TB.set m.length (some (LObj.cells false (outC m.length o.length n.length r))) = X := ⟨_, rfl⟩
  have hTCl : TC.length = TB.length := by rw [← hTC]; simp
  have hTC2 : TC = m ++ some (LObj.cells false (outC m.length o.length n.length r)) :: rowsM o n (r + 1) := by
    rw [← hTC, ← hTB, tabM, List.set_append_right _ _ (Nat.le_refl _), Nat.sub_self]; rfl
  have hmm : ∀ z : Option LObj, (TB ++ [z]).set m.length (some (LObj.cells false (outC m.length o.length n.length r))) = TC ++ [z] := fun z => by
    rw [List.set_append_left _ _ (by omega), hTC]
  have hlast : ∀ z z' : Option LObj, (TC ++ [z]).set TB.length z' = TC ++ [z'] := fun z z' => by
    rw [← hTCl, List.set_append_right _ _ (Nat.le_refl _), Nat.sub_self]; rfl
  refine b50i_ok o n na nb ho hn r m.length TB.length hr (TC ++ [some (LObj.cells false (levC o n r (n.length + 1)))]) (outC m.length o.length n.length r) ?_ (by omega) ?_ (by simp [hTCl]) ?_ _ _ ?_ ?_ ?_ ?_ ?_ ?_ ?_
  · rw [List.getElem?_append_left (by omega), hTC2, List.getElem?_append_right (Nat.le_refl _), Nat.sub_self]; rfl
  · rw [hQe]; exact outC_get hr (Nat.le_refl _)
  · intro hlt
    refine ⟨m.length + 1 + (o.length - (r + 1)), by omega, outC_get (by omega) (by omega), ?_⟩
    rw [List.getElem?_append_left (by omega), hTC2, List.getElem?_append_right (by omega), show m.length + 1 + (o.length - (r + 1)) - m.length = (o.length - (r + 1)) + 1 by omega, List.getElem?_cons_succ]
    exact rowsM_get (by omega) (Nat.le_refl _)
  · simp [e0]
  · simp [e1]
  · simp [e5]
  · simp [e6]
  · simp
  · simp [em, hmm, hlast]
  · intro s' f0 f1 f5 f6 fm
    rw [hlast, hTC2] at fm
    have hfin : s'.mem = tabM m o n r := by
      rw [fm, tabM, rowsM_succ hr]; simp
    simp [f0, f1, f5, f6, hfin, w3.eq, -Int.natCast_add]
    exact ⟨r, by omega, by omega, rfl, rfl⟩
theorem q51 (o n : List Rw) (na nb : Bool) (ho : o.length ≤ 500) (hn : n.length ≤ 500) (m : Mem) : callL T11 51 [sv na o, sv nb n] m = some (.row (.mem m.length) 0 (o.length + 1), tabM m o n 0) := by
  have h := q50 o n na nb ho hn m
  obtain ⟨k, hk⟩ := callL_some h
  cases k with
  | zero => simp [callN] at hk
  | succ k =>
    exact callL_of (k := k + 1) (by rw [← hk]; rfl)
end Go.Vm.Ch11
