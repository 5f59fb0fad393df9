/- Chapter 11: what its functions compute. -/
import Derived.Test.YtmlfcgmiaapffaaGreatDoorC11rb
import Derived.Test.YtmlfcgmiaapffaaGreatDoorVI
namespace Go.Vm.Ch11
open _root_.Ch11 (T11 c5 c6 c9 c10)
set_option maxRecDepth 10000
set_option maxHeartbeats 16000000
theorem callL_ex3 {T : FuncId → Option VF} {f : FuncId} {vf : VF} {args : List AV} {m : Mem} {v : AV} (hT : T f = some vf) (hl : args.length = vf.nparams)
    (h : wp T vf.body (St.init args m) (retK vf.results fun u _ => u = v)) : ∃ m', callL T f args m = some (v, m') := by
  obtain ⟨u, m', h1, h2⟩ := callL_exP hT hl h
  exact ⟨m', by rw [h1, h2]⟩
theorem app_len : ∀ (es : List Ed) (o r : List Rw), appF o es = some r → r.length ≤ es.length
  | [], [], r, h => by simp only [appF, Option.some.injEq] at h; subst h; simp
  | [], a :: o, r, h => by simp [appF] at h
  | (k, t) :: es, o, r, h => by
    by_cases hk : k = 2
    · subst hk
      rw [app2] at h
      cases ha : appF o es with
      | none => rw [ha] at h; simp at h
      | some n' =>
        rw [ha] at h
        simp only [Option.map_some, Option.some.injEq] at h; subst h
        have := app_len es o n' ha
        simp; omega
    · cases o with
      | nil => rw [app_nil (e := (k, t)) hk] at h; simp at h
      | cons a o' =>
        rw [app_cons (e := (k, t)) hk] at h
        split at h
        · split at h
          · have := app_len es o' r h
            simp; omega
          · cases ha : appF o' es with
            | none => rw [ha] at h; simp at h
            | some n' =>
              rw [ha] at h
              simp only [Option.map_some, Option.some.injEq] at h; subst h
              have := app_len es o' n' ha
              simp; omega
        · simp at h
theorem apR_nilS : sv false ([] : List Rw) = .vec none false [] := rfl
theorem q26n (A : List Rw) (na nb : Bool) (hl : A.length ≤ 1000) (m : Mem) : callL T11 26 [vv none na AV.str A, vv none nb AV.str A] m = some (.bool true, m) := by
  have := q26 A A na nb (by omega) m
  simpa using this
theorem law5 (o n : List Rw) (na nb : Bool) : ∃ m, callL T11 5 [sv na o, sv nb n] [] = some (.bool true, m) := by
  obtain ⟨mA, hw⟩ := Aw.awake
  have h27o := q27 o na 40 (by omega) []
  have h27n := q27 n nb 40 (by omega) []
  refine callL_ex3 (vf := c5) rfl rfl ?_
  by_cases a1 : o.length ≤ 500
  · have a1' : (o.length : Int) ≤ 500 := by omega
    have a1n : ¬ (500 : Int) < o.length := by omega
    by_cases s1 : shortS o 40 = true
    rotate_left
    · rw [Bool.not_eq_true] at s1
      rw [s1] at h27o
      simp [c5, hw, h27o, a1']
    rw [s1] at h27o
    by_cases a2 : n.length ≤ 500
    · have a2' : (n.length : Int) ≤ 500 := by omega
      have a2n : ¬ (500 : Int) < n.length := by omega
      by_cases s2 : shortS n 40 = true
      rotate_left
      · rw [Bool.not_eq_true] at s2
        rw [s2] at h27n
        simp [c5, hw, h27o, h27n, a1', a2']
      rw [s2] at h27n
      have h28 := q28 o n na nb a1 a2 mA
      have h30 := q30 o n na nb a1 a2 (tabM mA o n 0)
      have hdl := diffF_len (o.length + n.length) o n
      have h29 := q29 (diffL o n) (diffL o n) (!(diffL o n).isEmpty) true (by unfold diffL; omega) []
      simp at h29
      simp [c5, hw, h27o, h27n, a1', a2', a1n, a2n, h28, h30, h29]
    · have a2' : ¬ (n.length : Int) ≤ 500 := by omega
      have a2n : (500 : Int) < n.length := by omega
      have h28 := q28b o n na nb (.inr (by omega)) mA
      simp [c5, hw, h27o, a1', a2', a1n, a2n, h28]
  · have a1' : ¬ (o.length : Int) ≤ 500 := by omega
    have a1n : (500 : Int) < o.length := by omega
    have h28 := q28b o n na nb (.inl (by omega)) mA
    by_cases a2 : n.length ≤ 500
    · have a2' : (n.length : Int) ≤ 500 := by omega
      by_cases s2 : shortS n 40 = true
      · rw [s2] at h27n
        simp [c5, hw, h27n, a1', a2', a1n, h28]
      · rw [Bool.not_eq_true] at s2
        rw [s2] at h27n
        simp [c5, hw, h27n, a1', a2']
    · have a2' : ¬ (n.length : Int) ≤ 500 := by omega
      simp [c5, hw, a1', a2', a1n, h28]
theorem law6 (o : List Rw) (es : List Ed) (na nb : Bool) : ∃ m, callL T11 6 [sv na o, ev nb es] [] = some (.bool true, m) := by
  obtain ⟨mA, hw⟩ := Aw.awake
  have h27o := q27 o na 60 (by omega) []
  have h31 := q31 es nb 60 (by omega) []
  refine callL_ex3 (vf := c6) rfl rfl ?_
  by_cases s1 : shortS o 60 = true
  rotate_left
  · rw [Bool.not_eq_true] at s1
    rw [s1] at h27o
    simp [c6, hw, h27o]
  rw [s1] at h27o
  by_cases s2 : shortS (es.map (·.2)) 60 = true
  rotate_left
  · rw [Bool.not_eq_true] at s2
    rw [s2] at h31
    simp [c6, hw, h27o, h31]
  rw [s2] at h31
  have ho : o.length ≤ 60 := by unfold shortS at s1; simp at s1; omega
  have he : es.length ≤ 60 := by unfold shortS at s2; simp at s2; omega
  have h33 := q33 es nb (by omega) []
  have h32 := q32 o es na true (by omega) (by omega) []
  have h34 := q34 o es na nb (by omega) (by omega) []
  have h35 := q35 es true (by omega) []
  have h36 := q36 es nb (by omega) []
  have h29 := q29 (es.map invE) (es.map invE) (!es.isEmpty) true (by simp; omega) []
  simp at h29
  have h26n := q26n [] false false (by simp) []
  rw [show vv none false AV.str ([] : List Rw) = .vec none false [] from rfl] at h26n
  unfold apR at h32 h34
  by_cases hb : es.any badE = true
  · rw [if_pos hb] at h32 h34
    simp [c6, hw, h27o, h31, h33, h32, h34, h35, h36, h29, h26n]
  · rw [if_neg hb] at h32 h34
    cases hap : appF o es with
    | none =>
      rw [hap] at h32 h34
      simp only at h32 h34
      simp [c6, hw, h27o, h31, h33, h32, h34, h35, h36, h29, h26n]
    | some r =>
      rw [hap] at h32 h34
      simp only at h32 h34
      have hrl : r.length ≤ 1000 := by have := app_len es o r hap; omega
      have h26 := q26n r (!r.isEmpty) true hrl []
      simp [c6, hw, h27o, h31, h33, h32, h34, h35, h36, h29, h26]
end Go.Vm.Ch11
