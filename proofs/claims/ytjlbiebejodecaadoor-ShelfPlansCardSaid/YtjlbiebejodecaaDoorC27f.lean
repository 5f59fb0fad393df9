/- Chapter 27: what its functions compute. -/
import Derived.Test.YtjlbiebejodecaaDoorC27e
namespace Go.Vm.Ch27
open _root_.Ch27 (T27 c16 c3 c12)
open Go.Vm.Stable
set_option maxRecDepth 10000
set_option maxHeartbeats 4000000
theorem q16 (P : List Prt) (nn : Bool) (w h kf : Int) (hs : Sml P) (m : Mem) : callL T27 16 [pv nn P, AV.int IntKind.i64 w, AV.int IntKind.i64 h, AV.int IntKind.i64 kf] m = some (AV.int IntKind.i64 (chk P w h kf), m) := by
  have hl := hs.len
  apply callL_body (vf := c16) rfl rfl
  unfold chk
  by_cases k1 : 64 < P.length
  · have k1' : (64 : Int) < P.length := by omega
    simp [c16, k1, k1']
  have k1' : ¬ (64 : Int) < P.length := by omega
  simp [c16, k1', k1, -List.any_eq_true]
  refine wp_loop (fun wx s => ∃ i : Nat, wx = P.length - i ∧ i ≤ P.length ∧ s.get 0 = pv nn P ∧ s.get 1 = AV.int IntKind.i64 w ∧ s.get 2 = AV.int IntKind.i64 h ∧ s.get 3 = AV.int IntKind.i64 kf ∧ s.get 9 = AV.int IntKind.i64 i ∧ s.mem = m ∧ ∀ j (h : j < P.length), j < i → nameOK P[j].name = true) ?_ P.length _ ?_
  rotate_left
  · exact ⟨0, by simp⟩
  rintro wx s ⟨i, hn, hi, e0, e1, e2, e3, e9, hm, hbef⟩
  have w1 : IntKind.wrap .i64 ((i : Int) + 1) = (i : Int) + 1 := wrap64 (by omega) (by omega)
  by_cases hlt : i < P.length
  · have h43 := q43 P[i].name (by have := hs.nm _ (List.getElem_mem hlt); omega) []
    cases hok : nameOK P[i].name
    · have : P.any (fun p => !nameOK p.name) = true := by
        rw [List.any_eq_true]; exact ⟨_, List.getElem_mem hlt, by simp [hok]⟩
      rw [hok] at h43
      simp [e0, e9, hm, hlt, gi_nat hlt, h43, this, -List.any_eq_true]
    · rw [hok] at h43
      simp [e0, e1, e2, e3, e9, hm, hlt, gi_nat hlt, h43, w1]
      refine ⟨P.length - (i + 1), by omega, i + 1, rfl, by omega, rfl, fun j hj hlt => ?_⟩
      by_cases e : j = i
      · subst e; exact hok
      · exact hbef j hj (by omega)
  have hna : P.any (fun p => !nameOK p.name) = false := by
    rw [List.any_eq_false]
    intro x hx
    obtain ⟨j, hj, rfl⟩ := List.getElem_of_mem hx
    simp [hbef j hj (by omega)]
  simp [e0, e9, hlt, hna, -List.any_eq_true]
  clear hbef hna w1 hlt
  refine wp_loop (fun wx s => ∃ i : Nat, wx = P.length - i ∧ i ≤ P.length ∧ s.get 0 = pv nn P ∧ s.get 1 = AV.int IntKind.i64 w ∧ s.get 2 = AV.int IntKind.i64 h ∧ s.get 3 = AV.int IntKind.i64 kf ∧ s.get 10 = AV.int IntKind.i64 i ∧ s.mem = m ∧ ∀ j (h : j < P.length), j < i → badP P[j] = false) ?_ P.length _ ?_
  rotate_left
  · exact ⟨0, by simp [e0, e1, e2, e3, hm]⟩
  clear e0 e1 e2 e3 e9 hm hn hi
  rintro wx s ⟨i, hn, hi, e0, e1, e2, e3, e10, hm, hbef⟩
  have w1 : IntKind.wrap .i64 ((i : Int) + 1) = (i : Int) + 1 := wrap64 (by omega) (by omega)
  by_cases hlt : i < P.length
  · have ha := q44 P[i].w []
    have hb := q44 P[i].h []
    cases hok : badP P[i]
    · have hnx : ∃ n', n' < wx ∧ ∃ i', n' = P.length - i' ∧ i' ≤ P.length ∧ (i : Int) + 1 = (i' : Int) ∧ ∀ j (h : j < P.length), j < i' → badP P[j] = false := by
        refine ⟨P.length - (i + 1), by omega, i + 1, rfl, by omega, rfl, fun j hj hlt => ?_⟩
        by_cases e : j = i
        · subst e; exact hok
        · exact hbef j hj (by omega)
      simp only [badP, Bool.not_eq_false', Bool.and_eq_true] at hok
      rw [hok.1] at ha
      rw [hok.2] at hb
      simp [e0, e1, e2, e3, e10, hm, hlt, gi_nat hlt, ha, hb, w1]
      exact hnx
    · have : P.any badP = true := by
        rw [List.any_eq_true]; exact ⟨_, List.getElem_mem hlt, hok⟩
      unfold badP at hok
      cases hA : sideB P[i].w
      · rw [hA] at ha
        simp [e0, e10, hm, hlt, gi_nat hlt, ha, this, -List.any_eq_true]
      · rw [hA] at ha hok
        simp at hok
        rw [hok] at hb
        simp [e0, e10, hm, hlt, gi_nat hlt, ha, hb, this, -List.any_eq_true]
  have hna : P.any badP = false := by
    rw [List.any_eq_false]
    intro x hx
    obtain ⟨j, hj, rfl⟩ := List.getElem_of_mem hx
    simp [hbef j hj (by omega)]
  have h1 := q44 w []
  have h2 := q44 h []
  generalize sideB w = SW at *
  generalize sideB h = SH at *
  cases SW
  · simp [e0, e1, e10, hm, hlt, hna, h1, -List.any_eq_true]
  cases SH
  · simp [e0, e1, e2, e10, hm, hlt, hna, h1, h2, -List.any_eq_true]
  by_cases k2 : kf < 0
  · simp [e0, e1, e2, e3, e10, hm, hlt, hna, h1, h2, k2, -List.any_eq_true]
  by_cases k3 : 1000 < kf
  · simp [e0, e1, e2, e3, e10, hm, hlt, hna, h1, h2, k2, k3, -List.any_eq_true]
  simp [e0, e1, e2, e3, e10, hm, hlt, hna, h1, h2, k2, k3, -List.any_eq_true]
def isTrue : Option (AV × Mem) → Bool
  | some (.bool true, _) => true
  | _ => false
theorem isTrue_inv {r : Option (AV × Mem)} (h : isTrue r = true) : ∃ m, r = some (.bool true, m) := by
  unfold isTrue at h
  split at h
  · exact ⟨_, rfl⟩
  · simp at h
theorem awake : ∃ m, callL T27 12 [] [] = some (.bool true, m) := by
  obtain ⟨m, h⟩ := isTrue_inv (r := callN T27 400 12 [] []) (by kernel_rfl)
  exact ⟨m, callL_of h⟩
end Go.Vm.Ch27
