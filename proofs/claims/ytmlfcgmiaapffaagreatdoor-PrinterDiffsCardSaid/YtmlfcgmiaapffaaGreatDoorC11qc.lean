/- Chapter 11: what its functions compute. -/
import Derived.Test.YtmlfcgmiaapffaaGreatDoorC11qb
namespace Go.Vm.Ch11
open _root_.Ch11 (T11 c32 c34)
set_option maxRecDepth 10000
set_option maxHeartbeats 16000000
def apR (f : List Rw → Bool) (o : List Rw) (es : List Ed) : AV := if es.any badE then .tup [.vec none false [], AV.int IntKind.i64 1] else match appF o es with
  | some r => .tup [sv (f r) r, AV.int IntKind.i64 0]
  | none => .tup [.vec none false [], AV.int IntKind.i64 10]
theorem app2 (o : List Rw) (t : Rw) (r : List Ed) : appF o ((2, t) :: r) = (appF o r).map (t :: ·) := by cases o <;> rfl
theorem app_nil {e : Ed} (h : e.1 ≠ 2) (r : List Ed) : appF [] (e :: r) = none := by
  obtain ⟨k, t⟩ := e
  simp only at h
  simp [appF, h]
theorem app_cons {e : Ed} (h : e.1 ≠ 2) (a : Rw) (o : List Rw) (r : List Ed) : appF (a :: o) (e :: r) = if a = e.2 then (if e.1 = 1 then appF o r else (appF o r).map (e.2 :: ·)) else none := by
  obtain ⟨k, t⟩ := e
  simp only at h
  simp [appF, h]
theorem map_snoc (X : Option (List Rw)) (out : List Rw) (t : Rw) : (X.map (t :: ·)).map (out ++ ·) = X.map ((out ++ [t]) ++ ·) := by cases X <;> simp
theorem q32 (o : List Rw) (es : List Ed) (na nb : Bool) (ho : o.length ≤ 1000) (he : es.length ≤ 1000) (m : Mem) : callL T11 32 [sv na o, ev nb es] m = some (apR (fun r => !r.isEmpty) o es, m) := by
  have h52 := q52 es nb he []
  apply callL_body (vf := c32) rfl rfl
  by_cases hb : es.any badE = true
  · rw [hb] at h52
    simp [c32, h52, apR, hb]
  rw [Bool.not_eq_true] at hb
  rw [hb] at h52
  simp [c32, h52]
  refine wp_loop (fun w s => ∃ (i : Nat) (o' out : List Rw), w = es.length - i ∧ i ≤ es.length ∧ s.get 0 = sv na o' ∧ s.get 6 = ov 1 AV.str out ∧ s.get 11 = ev nb es ∧ s.get 12 = AV.int IntKind.i64 es.length ∧ s.get 13 = AV.int IntKind.i64 i ∧ s.mem = m ∧ out.length ≤ i ∧ o'.length ≤ 1000 ∧ appF o es = (appF o' (es.drop i)).map (out ++ ·)) ?_ es.length _ ?_
  rotate_left
  · exact ⟨0, o, [], by simp [ov, ho]⟩
  rintro w s ⟨i, o', out, hn, hi, e0, e6, e11, e12, e13, em, hol, ho', hap⟩
  by_cases hlt : i < es.length
  · have w1 : W64 ((i : Int) + 1) ((i + 1 : Nat) : Int) := .mkI rfl (by omega) (by omega)
    have hd : es.drop i = es[i] :: es.drop (i + 1) := List.drop_eq_getElem_cons hlt
    rw [hd] at hap
    have hla : (out.length + 1) * 16 ≤ 140737488355328 := by omega
    obtain ⟨⟨k, t⟩, hE⟩ : ∃ e, es[i] = e := ⟨_, rfl⟩
    rw [hE] at hap
    have hgi : gi es (i : Int) = (k, t) := by rw [gi_nat hlt, hE]
    by_cases k2 : k = 2
    · have hap2 : appF o es = (appF o' (es.drop (i + 1))).map ((out ++ [t]) ++ ·) := by
        rw [hap, k2, app2, map_snoc]
      simp [e0, e6, e11, e12, e13, em, hlt, hgi, w1.eq, hla, k2, objCells, -Int.natCast_add]
      exact ⟨es.length - (i + 1), by omega, i + 1, rfl, by omega, o', rfl, out ++ [t], ov_snoc, rfl, by simp; omega, ho', hap2⟩
    · cases o' with
      | nil =>
        rw [app_nil (e := (k, t)) k2] at hap
        simp [e0, e6, e11, e12, e13, em, hlt, hgi, w1.eq, hla, k2, objCells, apR, hb, hap, -Int.natCast_add]
      | cons a o2 =>
        rw [app_cons (e := (k, t)) k2] at hap
        have hg0 : gi (a :: o2) 0 = a := rfl
        have ho2 : o2.length ≤ 1000 := by simp at ho'; omega
        have h1l : (1 : Int) ≤ ((o2.length + 1 : Nat) : Int) := by omega
        by_cases ht : a = t
        rotate_left
        · rw [if_neg ht] at hap
          simp [e0, e6, e11, e12, e13, em, hlt, hgi, w1.eq, hla, k2, objCells, apR, hb, hap, ht, hg0, -Int.natCast_add]
        · rw [if_pos ht] at hap
          subst ht
          by_cases k1 : k = 1
          · rw [if_pos k1] at hap
            have k2' : ¬ (1 : Int) = 2 := by decide
            simp [e0, e6, e11, e12, e13, em, hlt, hgi, w1.eq, hla, k1, objCells, hg0, h1l, -Int.natCast_add]
            exact ⟨es.length - (i + 1), by omega, i + 1, rfl, by omega, o2, rfl, out, rfl, rfl, by omega, ho2, hap⟩
          · rw [if_neg k1, map_snoc] at hap
            simp [e0, e6, e11, e12, e13, em, hlt, hgi, w1.eq, hla, k1, k2, objCells, hg0, h1l, -Int.natCast_add]
            exact ⟨es.length - (i + 1), by omega, i + 1, rfl, by omega, o2, rfl, out ++ [a], ov_snoc, rfl, by simp; omega, ho2, hap⟩
  · have hi' : i = es.length := by omega
    subst hi'
    rw [List.drop_length] at hap
    cases o' with
    | nil =>
      have hap2 : appF o es = some out := by rw [hap]; simp [appF]
      simp [e0, e6, e11, e12, e13, em, apR, hb, hap2, ovn]
    | cons a o2 =>
      have hap2 : appF o es = none := by rw [hap]; simp [appF]
      have h1l : (0 : Int) < ((o2.length + 1 : Nat) : Int) := by omega
      simp [e0, e6, e11, e12, e13, em, apR, hb, hap2, -Int.natCast_add]
theorem q34 (o : List Rw) (es : List Ed) (na nb : Bool) (ho : o.length ≤ 1000) (he : es.length ≤ 1000) (m : Mem) : callL T11 34 [sv na o, ev nb es] m = some (apR (fun _ => true) o es, m) := by
  apply callL_body (vf := c34) rfl rfl
  simp [c34]
  refine wp_loop (fun w s => ∃ i : Nat, w = es.length - i ∧ i ≤ es.length ∧ s.get 0 = sv na o ∧ s.get 1 = ev nb es ∧ s.get 6 = AV.int IntKind.i64 i ∧ s.mem = m ∧ (es.take i).any badE = false) ?_ es.length _ ?_
  rotate_left
  · exact ⟨0, by simp⟩
  rintro w s ⟨i, hn, hi, e0, e1, e6, em, hbef⟩
  by_cases hlt : i < es.length
  · have w1 : W64 ((i : Int) + 1) ((i + 1 : Nat) : Int) := .mkI rfl (by omega) (by omega)
    obtain ⟨⟨k, t⟩, hE⟩ : ∃ e, es[i] = e := ⟨_, rfl⟩
    have hgi : gi es (i : Int) = (k, t) := by rw [gi_nat hlt, hE]
    have hany : badE (k, t) = true → es.any badE = true := fun h => List.any_eq_true.2 ⟨(k, t), hE ▸ List.getElem_mem hlt, h⟩
    by_cases k0 : k < 0
    · have hb := hany (by simp [badE, k0])
      simp [e0, e1, e6, em, hlt, hgi, k0, apR, hb, -Int.natCast_add]
    · by_cases k2 : 2 < k
      · have hb := hany (by simp [badE, k2])
        simp [e0, e1, e6, em, hlt, hgi, k0, k2, apR, hb, -Int.natCast_add]
      · have hbe : badE (k, t) = false := by simp [badE]; omega
        have hnew : (es.take (i + 1)).any badE = false := by
          rw [List.take_succ_eq_append_getElem hlt, List.any_append, hbef, hE]
          simp [hbe]
        simp [e0, e1, e6, em, hlt, hgi, k0, k2, w1.eq, -Int.natCast_add]
        exact ⟨es.length - (i + 1), by omega, i + 1, rfl, by omega, rfl, by simpa using hnew⟩
  have hi' : i = es.length := by omega
  subst hi'
  rw [List.take_length] at hbef
  simp [e1, e6]
  refine wp_loop (fun w s => ∃ (i a : Nat) (out : List Rw), w = es.length - i ∧ i ≤ es.length ∧ a ≤ o.length ∧ s.get 0 = sv na o ∧ s.get 1 = ev nb es ∧ s.get 7 = vv (some 1) true AV.str out ∧ s.get 8 = AV.int IntKind.i64 a ∧ s.get 9 = AV.int IntKind.i64 i ∧ s.mem = m ∧ out.length ≤ i ∧ appF o es = (appF (o.drop a) (es.drop i)).map (out ++ ·)) ?_ es.length _ ?_
  rotate_left
  · refine ⟨0, 0, [], ?_⟩
    simp [vv, e0, e1, em]
  clear e0 e1 e6 em
  rintro w s ⟨i, a, out, hn, hi, ha, e0, e1, e7, e8, e9, em, hol, hap⟩
  by_cases hlt : i < es.length
  · have w1 : W64 ((i : Int) + 1) ((i + 1 : Nat) : Int) := .mkI rfl (by omega) (by omega)
    have hd : es.drop i = es[i] :: es.drop (i + 1) := List.drop_eq_getElem_cons hlt
    rw [hd] at hap
    have hla : (out.length + 1) * 16 ≤ 140737488355328 := by omega
    obtain ⟨⟨k, t⟩, hE⟩ : ∃ e, es[i] = e := ⟨_, rfl⟩
    rw [hE] at hap
    have hgi : gi es (i : Int) = (k, t) := by rw [gi_nat hlt, hE]
    by_cases k2 : k = 2
    · have hap2 : appF o es = (appF (o.drop a) (es.drop (i + 1))).map ((out ++ [t]) ++ ·) := by
        rw [hap, k2, app2, map_snoc]
      simp [e0, e1, e7, e8, e9, em, hlt, hgi, w1.eq, hla, k2, -Int.natCast_add]
      exact ⟨es.length - (i + 1), by omega, i + 1, rfl, by omega, a, ha, out ++ [t], by simp [vv], rfl, rfl, by simp; omega, hap2⟩
    · by_cases hao : a < o.length
      rotate_left
      · rw [List.drop_eq_nil_of_le (Nat.le_of_not_lt hao), app_nil (e := (k, t)) k2] at hap
        simp [e0, e1, e7, e8, e9, em, hlt, hgi, w1.eq, hla, k2, hao, apR, hap, hbef, -Int.natCast_add]
      · have hdo : o.drop a = o[a] :: o.drop (a + 1) := List.drop_eq_getElem_cons hao
        have w2 : W64 ((a : Int) + 1) ((a + 1 : Nat) : Int) := .mkI rfl (by omega) (by omega)
        have hao' : ¬ o.length ≤ a := by omega
        rw [hdo, app_cons (e := (k, t)) k2] at hap
        obtain ⟨z, hz⟩ : ∃ z, o[a] = z := ⟨_, rfl⟩
        have hgo : gi o (a : Int) = z := by rw [gi_nat hao, hz]
        rw [hz] at hap
        by_cases ht : z = t
        rotate_left
        · rw [if_neg ht] at hap
          simp [e0, e1, e7, e8, e9, em, hlt, hgi, w1.eq, hla, k2, hao, hao', hgo, ht, apR, hap, hbef, -Int.natCast_add]
        · rw [if_pos ht] at hap
          subst ht
          by_cases k1 : k = 1
          · rw [if_pos k1] at hap
            simp [e0, e1, e7, e8, e9, em, hlt, hgi, w1.eq, w2.eq, hla, k1, hao, hao', hgo, -Int.natCast_add]
            exact ⟨es.length - (i + 1), by omega, i + 1, rfl, by omega, a + 1, by omega, out, rfl, rfl, rfl, by omega, hap⟩
          · rw [if_neg k1, map_snoc] at hap
            simp [e0, e1, e7, e8, e9, em, hlt, hgi, w1.eq, w2.eq, hla, k1, k2, hao, hao', hgo, -Int.natCast_add]
            exact ⟨es.length - (i + 1), by omega, i + 1, rfl, by omega, a + 1, by omega, out ++ [z], by simp [vv], rfl, rfl, by simp; omega, hap⟩
  · have hi' : i = es.length := by omega
    subst hi'
    rw [List.drop_length] at hap
    by_cases hao : a < o.length
    · have hap2 : appF o es = none := by rw [hap, List.drop_eq_getElem_cons hao]; simp [appF]
      simp [e0, e1, e7, e8, e9, em, apR, hbef, hap2, hao, -Int.natCast_add]
    · have hap2 : appF o es = some out := by rw [hap, List.drop_eq_nil_of_le (Nat.le_of_not_lt hao)]; simp [appF]
      simp [e0, e1, e7, e8, e9, em, apR, hbef, hap2, hao, -Int.natCast_add]
end Go.Vm.Ch11
