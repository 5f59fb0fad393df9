/- Chapter 51: what its functions compute. -/
import Derived.Test.YtdodnhbegabbpaaC51r
namespace Go.Vm.Ch51
open _root_.Ch51 (T51 c32 c34)
open Go.Vm.Stable
set_option maxRecDepth 10000
set_option maxHeartbeats 8000000
theorem bnd_step {v t w pl : Int} (hp : 1 ≤ pl ∧ pl ≤ 1000) (hv : 0 ≤ v ∧ v ≤ 1000000000) (ht : 0 ≤ t ∧ t ≤ 1000000) (hw : 0 ≤ w ∧ w ≤ 1000000000) :
    W64 (v + t) (v + t) ∧ W64 (w + pl) (w + pl) ∧ W64 (w + pl - 1) (w + pl - 1) ∧ W64 ((w + pl - 1).tdiv pl) ((w + pl - 1).tdiv pl) ∧ W64 (v + (w + pl - 1).tdiv pl) (v + (w + pl - 1).tdiv pl) := by
  have q0 : 0 ≤ (w + pl - 1).tdiv pl := Int.tdiv_nonneg (by omega) (by omega)
  have q1 : (w + pl - 1).tdiv pl ≤ w + pl - 1 := by
    rw [Int.tdiv_eq_ediv_of_nonneg (by omega)]
    exact Int.ediv_le_self _ (by omega)
  exact ⟨.mk' (by omega) (by omega) rfl, .mk' (by omega) (by omega) rfl, .mk' (by omega) (by omega) rfl, .mk' (by omega) (by omega) rfl, .mk' (by omega) (by omega) rfl⟩
theorem q34 (xs ys : List Int) (nx ny nn : Bool) (pl : Int) (list : List Bat) (hg : Good xs ys) (hp : 1 ≤ pl ∧ pl ≤ 1000) (hlen : list.length ≤ 1000) (hb : ∀ b ∈ list, BOK b) (m : Mem) :
    callL T51 34 [rv nx ny xs ys, AV.int IntKind.i64 pl, bv nn list] m = some (AV.int IntKind.i64 (bnd (tm xs ys) pl list list), m) := by
  have ht : ∀ n, 0 ≤ tm xs ys n ∧ tm xs ys n ≤ 1000000 := fun n => tm_bounds0 hg n
  apply callL_body (vf := c34) rfl rfl
  simp [c34]
  refine wp_loop (fun w s => ∃ i : Nat, w = list.length - i ∧ i ≤ list.length ∧ s.get 1 = AV.int IntKind.i64 pl ∧ s.get 2 = bv nn list ∧ s.get 3 = .ptr (.loc 3 0) 0 ∧ s.loc 3 = [.cells false [iv nx xs, iv ny ys]] ∧ s.get 7 = AV.int IntKind.i64 (bnd (tm xs ys) pl list (list.take i)) ∧ s.get 8 = AV.int IntKind.i64 i ∧ s.mem = m) ?_ list.length _ ?_
  rotate_left
  · exact ⟨0, by simp [bnd]⟩
  rintro w s ⟨i, hwl, hi, e1, e2, e3, l3, e7, e8, hm⟩
  by_cases h : i < list.length
  rotate_left
  · have hiL : i = list.length := by omega
    subst hiL
    rw [List.take_length] at e7
    simp [e2, e7, e8, hm]
  have hbi := hb _ (List.getElem_mem h)
  have hbt := bnd_take (t := tm xs ys) (pl := pl) (list := list) h
  generalize bnd (tm xs ys) pl list (list.take i) = B at *
  simp [e2, e8, h]
  refine wp_loop (fun w s => ∃ k : Nat, w = list.length - k ∧ k ≤ list.length ∧ s.get 1 = AV.int IntKind.i64 pl ∧ s.get 2 = bv nn list ∧ s.get 3 = .ptr (.loc 3 0) 0 ∧ s.loc 3 = [.cells false [iv nx xs, iv ny ys]] ∧ s.get 7 = AV.int IntKind.i64 B ∧ s.get 8 = AV.int IntKind.i64 i ∧ s.mem = m ∧ s.get 9 = AV.int IntKind.i64 (work (tm xs ys) list[i].arr (list.take k)) ∧ s.get 10 = AV.int IntKind.i64 k) ?_ list.length _ ?_
  rotate_left
  · exact ⟨0, by simp, by simp, by simp [e1], by simp [e2], by simp [e3], by simp [l3], by simp [e7], by simp [e8], by simp [hm], by simp [work], by simp⟩
  clear e1 e2 e3 l3 e7 e8 hm
  rintro w2 s ⟨k, hw2, hk, e1, e2, e3, l3, e7, e8, hm, e9, e10⟩
  by_cases hkl : k < list.length
  · have hbk := hb _ (List.getElem_mem hkl)
    have w1 : W64 ((k : Int) + 1) ((k + 1 : Nat) : Int) := .mk' (by omega) (by omega) (by omega)
    have hwt := work_take (t := tm xs ys) (a := list[i].arr) hkl
    have hwl2 := work_le ht list[i].arr (list.take k)
    have h21 := q21 xs ys nx ny list[k].th hg ⟨hbk.2.2.1, hbk.2.2.2⟩ []
    have htk := ht list[k].th
    have hlk : (list.take k).length ≤ 1000 := by simp; omega
    generalize work (tm xs ys) list[i].arr (list.take k) = W at *
    generalize tm xs ys list[k].th = t at *
    have w2' : W64 (W + t) (W + t) := .mk' (by omega) (by omega) rfl
    by_cases hge : list[i].arr ≤ list[k].arr
    · rw [if_pos hge] at hwt
      simp [e1, e2, e3, l3, e7, e8, hm, e9, e10, hkl, h, gi_nat h, gi_nat hkl, eb, hge, h21, w1.eq, w2'.eq, -Int.natCast_add]
      exact ⟨list.length - (k + 1), by omega, k + 1, rfl, by omega, by rw [hwt], rfl⟩
    · rw [if_neg hge] at hwt
      simp [e1, e2, e3, l3, e7, e8, hm, e9, e10, hkl, h, gi_nat h, gi_nat hkl, eb, hge, w1.eq, -Int.natCast_add]
      exact ⟨list.length - (k + 1), by omega, k + 1, rfl, by omega, by rw [hwt], rfl⟩
  · have hkL : k = list.length := by omega
    rw [hkL, List.take_length] at e9
    have w1 : W64 ((i : Int) + 1) ((i + 1 : Nat) : Int) := .mk' (by omega) (by omega) (by omega)
    have h21 := q21 xs ys nx ny list[i].th hg ⟨hbi.2.2.1, hbi.2.2.2⟩ []
    have htk := ht list[i].th
    have hwl2 := work_le ht list[i].arr list
    obtain ⟨v1, v2, v3, v4, v5⟩ := bnd_step (v := list[i].arr) (t := tm xs ys list[i].th) (w := work (tm xs ys) list[i].arr list) hp ⟨hbi.1, hbi.2.1⟩ htk ⟨hwl2.1, by omega⟩
    generalize work (tm xs ys) list[i].arr list = W at *
    generalize tm xs ys list[i].th = t at *
    have hp0 : ¬ pl = 0 := by omega
    simp [e1, e2, e3, l3, e7, e8, hm, e9, e10, hkl, h, gi_nat h, eb, h21, w1.eq, v1.eq, v2.eq, v3.eq, v4.eq, v5.eq, hp0, max_if, -Int.natCast_add]
    exact ⟨list.length - (i + 1), by omega, i + 1, rfl, by omega, by rw [hbt]; omega, rfl⟩
theorem q32_ok (xs ys : List Int) (nx ny nn : Bool) (pl : Int) (list : List Bat) (hx : xs.length ≤ 20) (hy : ys.length ≤ 20) (hname : ∀ b ∈ list, (b.name.length : Int) < 4611686018427387904) (hlen : list.length ≤ 1000) (hr : rdy xs ys pl list = 0) (m : Mem) :
    callL T51 32 [rv nx ny xs ys, AV.int IntKind.i64 pl, bv nn list] m = some (.tup [AV.int IntKind.i64 (bnd (tm xs ys) pl list list), AV.int IntKind.i64 0], m) := by
  have h41 := q41 xs ys nx ny nn pl list hx hy (by omega) hname []
  obtain ⟨hg, hp1, hp2, hl128, -⟩ := rdy_ok hr
  have hp : 1 ≤ pl ∧ pl ≤ 1000 := ⟨hp1, hp2⟩
  have hb := rdy_bok hr
  have ht : ∀ n, 0 ≤ tm xs ys n ∧ tm xs ys n ≤ 1000000 := fun n => tm_bounds0 hg n
  rw [hr] at h41
  apply callL_body (vf := c32) rfl rfl
  simp [c32, h41]
  refine wp_loop (fun w s => ∃ i : Nat, w = list.length - i ∧ i ≤ list.length ∧ s.get 1 = AV.int IntKind.i64 pl ∧ s.get 2 = bv nn list ∧ s.get 3 = .ptr (.loc 3 0) 0 ∧ s.loc 3 = [.cells false [iv nx xs, iv ny ys]] ∧ s.get 9 = AV.int IntKind.i64 (bnd (tm xs ys) pl list (list.take i)) ∧ s.get 22 = bv nn list ∧ s.get 23 = AV.int IntKind.i64 list.length ∧ s.get 24 = AV.int IntKind.i64 i ∧ s.mem = m) ?_ list.length _ ?_
  rotate_left
  · exact ⟨0, by simp [bnd]⟩
  rintro w s ⟨i, hwl, hi, e1, e2, e3, l3, e9, e22, e23, e24, hm⟩
  by_cases h : i < list.length
  rotate_left
  · have hiL : i = list.length := by omega
    subst hiL
    rw [List.take_length] at e9
    simp [e9, e23, e24, hm]
  have hbi := hb _ (List.getElem_mem h)
  have hbt := bnd_take (t := tm xs ys) (pl := pl) (list := list) h
  generalize bnd (tm xs ys) pl list (list.take i) = B at *
  simp [e2, e22, e23, e24, h, gi_nat h]
  refine wp_loop (fun w s => ∃ (k : Nat) (os : List LObj), w = list.length - k ∧ k ≤ list.length ∧ s.get 1 = AV.int IntKind.i64 pl ∧ s.get 2 = bv nn list ∧ s.get 3 = .ptr (.loc 3 0) 0 ∧ s.loc 3 = [.cells false [iv nx xs, iv ny ys]] ∧ s.get 9 = AV.int IntKind.i64 B ∧ s.get 22 = bv nn list ∧ s.get 23 = AV.int IntKind.i64 list.length ∧ s.get 24 = AV.int IntKind.i64 i ∧ s.mem = m ∧ s.get 12 = AV.int IntKind.i64 (work (tm xs ys) list[i].arr (list.take k)) ∧ s.get 28 = bv nn list ∧ s.get 29 = AV.int IntKind.i64 list.length ∧ s.get 30 = AV.int IntKind.i64 k ∧
    s.get 11 = .ptr (.loc 11 os.length) 0 ∧ s.loc 11 = os ++ [.cells false (eb list[i])]) ?_ list.length _ ?_
  rotate_left
  · exact ⟨0, s.loc 11, by simp, by simp, by simp [e1], by simp [e2], by simp [e3], by simp [l3], by simp [e9], by simp [e22], by simp [e23], by simp [e24], by simp [hm], by simp [work], by simp, by simp, by simp, by simp, by simp⟩
  clear e1 e2 e3 l3 e9 e22 e23 e24 hm
  rintro w2 s ⟨k, os, hw2, hk, e1, e2, e3, l3, e9, e22, e23, e24, hm, e12, e28, e29, e30, e11, l11⟩
  by_cases hkl : k < list.length
  · have hbk := hb _ (List.getElem_mem hkl)
    have w1 : W64 ((k : Int) + 1) ((k + 1 : Nat) : Int) := .mk' (by omega) (by omega) (by omega)
    have hwt := work_take (t := tm xs ys) (a := list[i].arr) hkl
    have hwl2 := work_le ht list[i].arr (list.take k)
    have h36 := q36 xs ys nx ny list[k].th hg ⟨hbk.2.2.1, hbk.2.2.2⟩ []
    have htk := ht list[k].th
    have hlk : (list.take k).length ≤ 1000 := by simp; omega
    generalize work (tm xs ys) list[i].arr (list.take k) = W at *
    generalize tm xs ys list[k].th = t at *
    have w2' : W64 (W + t) (W + t) := .mk' (by omega) (by omega) rfl
    by_cases hge : list[i].arr ≤ list[k].arr
    · rw [if_pos hge] at hwt
      simp [e1, e2, e3, l3, e9, e22, e23, e24, hm, e12, e28, e29, e30, e11, l11, hkl, gi_nat hkl, hge, h36, w1.eq, w2'.eq, -Int.natCast_add]
      exact ⟨list.length - (k + 1), by omega, k + 1, rfl, by omega, by rw [hwt], rfl⟩
    · rw [if_neg hge] at hwt
      simp [e1, e2, e3, l3, e9, e22, e23, e24, hm, e12, e28, e29, e30, e11, l11, hkl, gi_nat hkl, hge, w1.eq, -Int.natCast_add]
      exact ⟨list.length - (k + 1), by omega, k + 1, rfl, by omega, by rw [hwt], rfl⟩
  · have hkL : k = list.length := by omega
    rw [hkL, List.take_length] at e12
    have w1 : W64 ((i : Int) + 1) ((i + 1 : Nat) : Int) := .mk' (by omega) (by omega) (by omega)
    have h36 := q36 xs ys nx ny list[i].th hg ⟨hbi.2.2.1, hbi.2.2.2⟩ []
    have htk := ht list[i].th
    have hwl2 := work_le ht list[i].arr list
    obtain ⟨v1, v2, v3, v4, v5⟩ := bnd_step (v := list[i].arr) (t := tm xs ys list[i].th) (w := work (tm xs ys) list[i].arr list) hp ⟨hbi.1, hbi.2.1⟩ htk ⟨hwl2.1, by omega⟩
    generalize work (tm xs ys) list[i].arr list = W at *
    generalize tm xs ys list[i].th = t at *
    have hp0 : ¬ pl = 0 := by omega
    simp [e1, e2, e3, l3, e9, e22, e23, e24, hm, e12, e29, e30, e11, l11, hkl, h36, w1.eq, v1.eq, v2.eq, v3.eq, v4.eq, v5.eq, hp0, max_if, -Int.natCast_add]
    exact ⟨list.length - (i + 1), by omega, i + 1, rfl, by omega, by rw [hbt]; omega, rfl⟩
end Go.Vm.Ch51
