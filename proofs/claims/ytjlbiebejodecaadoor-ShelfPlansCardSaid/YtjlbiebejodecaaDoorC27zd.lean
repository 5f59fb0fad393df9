/- Chapter 27: what its functions compute. -/
import Derived.Test.YtjlbiebejodecaaDoorC27zc
namespace Go.Vm.Ch27
open _root_.Ch27 (T27 c59 c74 c75)
set_option maxRecDepth 10000
set_option maxHeartbeats 8000000
theorem q74 (a b : Bool) (pl pl' : List Plc) (hl : pl.length ≤ 1000000) (m : Mem) : callL T27 74 [lv a pl, lv b pl'] m = some (.bool (decide (pl = pl')), m) := by
  apply callL_body (vf := c74) rfl rfl
  by_cases h1 : pl.length = pl'.length
  rotate_left
  · have h1' : ¬ (pl.length : Int) = pl'.length := by omega
    have hd : ¬ pl = pl' := by intro e; rw [e] at h1; exact absurd rfl h1
    simp [c74, h1', hd]
  have h1' : (pl.length : Int) = pl'.length := by omega
  simp [c74, h1']
  refine wp_loop (fun n s => ∃ (i : Nat), n = pl.length - i ∧ i ≤ pl.length ∧ s.get 0 = lv a pl ∧ s.get 1 = lv b pl' ∧ s.get 12 = AV.int IntKind.i64 pl'.length ∧ s.get 13 = AV.int IntKind.i64 i ∧ s.mem = m ∧ ∀ j, j < i → pl[j]? = pl'[j]?) ?_ pl.length _ ?_
  rotate_left
  · exact ⟨0, by simp⟩
  rintro n s ⟨i, hn, hi, e0, e1, e12, e13, hm, hbef⟩
  have w1 : IntKind.wrap .i64 ((i : Int) + 1) = (i : Int) + 1 := wrap64 (by omega) (by omega)
  by_cases hlt : i < pl.length
  · have hlt' : i < pl'.length := by omega
    by_cases he : pl[i] = pl'[i]
    · simp [e0, e1, e12, e13, hm, hlt, hlt', gi_nat hlt, gi_nat hlt', he, w1]
      refine ⟨pl.length - (i + 1), by omega, i + 1, rfl, by omega, rfl, ?_⟩
      intro j hj
      by_cases hji : j = i
      · subst hji; simp [hlt, hlt', he]
      · exact hbef j (by omega)
    · have hd : ¬ pl = pl' := by intro e; subst e; exact he rfl
      have hpe := plc_eq pl[i] pl'[i]
      simp only [he, decide_false] at hpe
      have gp := gi_nat hlt
      have gp' := gi_nat hlt'
      generalize pl[i] = p at *
      generalize pl'[i] = p' at *
      simp [e0, e1, e12, e13, hm, hlt, hlt', gp, gp', hpe, hd, -eqCells]
  · have hlt' : ¬ i < pl'.length := by omega
    have hd : pl = pl' := by
      apply List.ext_getElem?
      intro j
      by_cases hj : j < i
      · exact hbef j hj
      · rw [List.getElem?_eq_none (by omega), List.getElem?_eq_none (by omega)]
    simp [e0, e12, e13, hm, hlt', hd]
theorem q75 (a b : Bool) (zs zs' : List Int) (hl : zs.length ≤ 1000000) (m : Mem) : callL T27 75 [iv a zs, iv b zs'] m = some (.bool (decide (zs = zs')), m) := by
  apply callL_body (vf := c75) rfl rfl
  by_cases h1 : zs.length = zs'.length
  rotate_left
  · have h1' : ¬ (zs.length : Int) = zs'.length := by omega
    have hd : ¬ zs = zs' := by intro e; rw [e] at h1; exact absurd rfl h1
    simp [c75, h1', hd]
  have h1' : (zs.length : Int) = zs'.length := by omega
  simp [c75, h1']
  refine wp_loop (fun n s => ∃ (i : Nat), n = zs.length - i ∧ i ≤ zs.length ∧ s.get 0 = iv a zs ∧ s.get 1 = iv b zs' ∧ s.get 12 = AV.int IntKind.i64 zs'.length ∧ s.get 13 = AV.int IntKind.i64 i ∧ s.mem = m ∧ ∀ j, j < i → zs[j]? = zs'[j]?) ?_ zs.length _ ?_
  rotate_left
  · exact ⟨0, by simp⟩
  rintro n s ⟨i, hn, hi, e0, e1, e12, e13, hm, hbef⟩
  have w1 : IntKind.wrap .i64 ((i : Int) + 1) = (i : Int) + 1 := wrap64 (by omega) (by omega)
  by_cases hlt : i < zs.length
  · have hlt' : i < zs'.length := by omega
    by_cases he : zs[i] = zs'[i]
    · simp [e0, e1, e12, e13, hm, hlt, hlt', gi_nat hlt, gi_nat hlt', he, w1]
      refine ⟨zs.length - (i + 1), by omega, i + 1, rfl, by omega, rfl, ?_⟩
      intro j hj
      by_cases hji : j = i
      · subst hji; simp [hlt, hlt', he]
      · exact hbef j (by omega)
    · have hd : ¬ zs = zs' := by intro e; subst e; exact he rfl
      simp [e0, e1, e12, e13, hm, hlt, hlt', gi_nat hlt, gi_nat hlt', he, hd]
  · have hlt' : ¬ i < zs'.length := by omega
    have hd : zs = zs' := by
      apply List.ext_getElem?
      intro j
      by_cases hj : j < i
      · exact hbef j hj
      · rw [List.getElem?_eq_none (by omega), List.getElem?_eq_none (by omega)]
    simp [e0, e12, e13, hm, hlt', hd]
theorem q59 (a b c d : Bool) (pl pl' : List Plc) (lf lf' : List Int) (hl : pl.length ≤ 1000000) (hl2 : lf.length ≤ 1000000) (m : Mem) :
    callL T27 59 [lay a b pl lf, lay c d pl' lf'] m = some (.bool (decide (pl = pl' ∧ lf = lf')), m) := by
  have h74 := q74 a c pl pl' hl []
  have h75 := q75 b d lf lf' hl2 []
  apply callL_body (vf := c59) rfl rfl
  by_cases h1 : pl = pl'
  · by_cases h2 : lf = lf' <;> simp [c59, h1, h2] at h74 h75 ⊢ <;> simp [h74, h75]
  · simp [h1] at h74
    simp [c59, h74, h1]
end Go.Vm.Ch27
