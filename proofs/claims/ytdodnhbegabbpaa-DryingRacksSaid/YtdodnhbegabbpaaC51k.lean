/- Chapter 51: what its functions compute. -/
import Derived.Test.YtdodnhbegabbpaaC51j
import Derived.Test.YtdodnhbegabbpaaVF
namespace Go.Vm.Ch51
open _root_.Ch51 (T51 c26 c41 c43)
set_option maxRecDepth 10000
set_option maxHeartbeats 4000000
@[simp] theorem eb_len (b : Bat) : (eb b).length = 3 := rfl
@[simp] theorem eb_view (b : Bat) : (eb b).map AV.view = eb b := rfl
@[simp] theorem eb_one (b : Bat) : (∀ x ∈ eb b, x.one = true) = True := by simp [eb]
@[simp] theorem eb_take (b : Bat) : (eb b).take 3 = eb b := rfl
@[simp] theorem eb0 (b : Bat) : (eb b)[0]? = some (.str b.name) := rfl
@[simp] theorem eb1 (b : Bat) : (eb b)[1]? = some (AV.int IntKind.i64 b.arr) := rfl
@[simp] theorem eb2 (b : Bat) : (eb b)[2]? = some (AV.int IntKind.i64 b.th) := rfl
@[simp] theorem es_len (b : Sta) : (es b).length = 4 := rfl
@[simp] theorem es_view (b : Sta) : (es b).map AV.view = es b := rfl
@[simp] theorem es_one (b : Sta) : (∀ x ∈ es b, x.one = true) = True := by simp [es]
@[simp] theorem es_take (b : Sta) : (es b).take 4 = es b := rfl
@[simp] theorem es0 (b : Sta) : (es b)[0]? = some (.str b.name) := rfl
@[simp] theorem es1 (b : Sta) : (es b)[1]? = some (AV.int IntKind.i64 b.place) := rfl
@[simp] theorem es2 (b : Sta) : (es b)[2]? = some (AV.int IntKind.i64 b.frm) := rfl
@[simp] theorem es3 (b : Sta) : (es b)[3]? = some (AV.int IntKind.i64 b.to) := rfl
def dupB (list : List Bat) : Bool := !decide (list.map Bat.name).Nodup
/-- The first error of places and batches. -/
def bat (places : Int) (list : List Bat) : Int :=
  if places < 1 ∨ 1000 < places then 6 else if 128 < list.length then 7 else if list.any (fun b => !nameOK b.name) then 4 else if list.any badB then 6 else if dupB list then 5 else 0
def rdy (xs ys : List Int) (places : Int) (list : List Bat) : Int := if chk xs ys = 0 then bat places list else chk xs ys
theorem nodup_iff (list : List Bat) : (list.map Bat.name).Nodup ↔ ∀ i j (h : j < list.length) (h' : i < j), list[i].name ≠ list[j].name := by
  unfold List.Nodup
  rw [List.pairwise_iff_getElem]
  simp
  constructor
  · intro h i j hj hij; exact h i j (by omega) hj hij
  · intro h i j _ hj hij; exact h i j hj hij
theorem q41 (xs ys : List Int) (nx ny nn : Bool) (places : Int) (list : List Bat) (hx : xs.length ≤ 20) (hy : ys.length ≤ 20) (hlen : (list.length : Int) < 4611686018427387904) (hname : ∀ b ∈ list, (b.name.length : Int) < 4611686018427387904) (m : Mem) :
    callL T51 41 [rv nx ny xs ys, AV.int IntKind.i64 places, bv nn list] m = some (AV.int IntKind.i64 (rdy xs ys places list), m) := by
  have h17 := q17 xs ys nx ny hx hy []
  apply callL_body (vf := c41) rfl rfl
  by_cases hc : chk xs ys = 0
  rotate_left
  · simp [c41, h17, hc, rdy]
  simp only [rdy, hc, if_true, bat]
  rw [hc] at h17
  by_cases hp : places < 1
  · simp [c41, h17, hp]
  by_cases hp2 : 1000 < places
  · simp [c41, h17, hp, hp2]
  by_cases hl : 128 < list.length
  · have hl' : (128 : Int) < list.length := by omega
    simp [c41, h17, hp, hp2, hl, hl']
  have hl' : ¬ (128 : Int) < list.length := by omega
  have h53 := fun p => q53 list nn 54 [] p
  have h53a := q53 list nn 54 [] (fun b => !nameOK b.name) (fun z hz => q54 z (hname z hz) []) (by omega) []
  have h53b := q53 list nn 56 [] badB (fun z _ => q56 z []) (by omega) []
  cases ha : list.any (fun b => !nameOK b.name)
  rotate_left
  · rw [ha] at h53a
    simp [c41, h17, hp, hp2, hl, hl', h53a]
  cases hb : list.any badB
  rotate_left
  · rw [ha] at h53a
    rw [hb] at h53b
    simp [c41, h17, hp, hp2, hl, hl', h53a, h53b]
  rw [ha] at h53a
  rw [hb] at h53b
  simp [c41, h17, hp, hp2, hl, hl', h53a, h53b]
  refine wp_loop (fun w s => ∃ i : Nat, w = list.length - i ∧ i ≤ list.length ∧ s.get 2 = bv nn list ∧ s.get 28 = bv nn list ∧ s.get 29 = AV.int IntKind.i64 list.length ∧ s.get 30 = AV.int IntKind.i64 i ∧ s.mem = m ∧ ∀ j k (h : k < list.length) (h' : j < k), k < i → list[j].name ≠ list[k].name) ?_ list.length _ ?_
  rotate_left
  · exact ⟨0, by simp⟩
  rintro w s ⟨i, hn, hi, e2, e28, e29, e30, hm, hbef⟩
  have w1 : IntKind.wrap .i64 ((i : Int) + 1) = (i : Int) + 1 := wrap64 (by omega) (by omega)
  by_cases h : i < list.length
  rotate_left
  · have : dupB list = false := by
      simp only [dupB, Bool.not_eq_false', decide_eq_true_eq, nodup_iff]
      intro j k hk hjk; exact hbef j k hk hjk (by omega)
    simp [e28, e29, e30, hm, h, this]
  have h53c := q53 (list.take i) nn 57 [.vptr (eb list[i]) 0] (fun x => x.name == list[i].name) (fun z _ => q57 z list[i] []) (by simp; omega) []
  cases hd : (list.take i).any fun x => x.name == list[i].name
  · rw [hd] at h53c
    simp [e2, e28, e29, e30, hm, h, w1, gi_nat h, h53c]
    refine ⟨hi, list.length - (i + 1), by omega, i + 1, rfl, by omega, rfl, fun j k hk hjk hki => ?_⟩
    by_cases e : k = i
    · subst e
      rw [List.any_eq_false] at hd
      have := hd list[j] (by rw [List.mem_take_iff_getElem]; exact ⟨j, by omega, rfl⟩)
      simpa using this
    · exact hbef j k hk hjk (by omega)
  · have hdup : dupB list = true := by
      simp only [dupB, Bool.not_eq_true', decide_eq_false_iff_not, nodup_iff]
      intro hno
      rw [List.any_eq_true] at hd
      obtain ⟨x, hx, hxe⟩ := hd
      rw [List.mem_take_iff_getElem] at hx
      obtain ⟨j, hj, rfl⟩ := hx
      exact hno j i h (by omega) (by simpa using hxe)
    rw [hd] at h53c
    simp [e2, e28, e29, e30, hm, h, gi_nat h, h53c, hdup]
    exact hi
theorem q43 (nn : Bool) (places : Int) (list : List Bat) (hlen : (list.length : Int) < 4611686018427387904) (hname : ∀ b ∈ list, (b.name.length : Int) < 4611686018427387904) (m : Mem) :
    callL T51 43 [AV.int IntKind.i64 places, bv nn list] m = some (AV.int IntKind.i64 (bat places list), m) := by
  apply callL_body (vf := c43) rfl rfl
  unfold bat
  by_cases hp : places < 1
  · simp [c43, hp]
  by_cases hp2 : 1000 < places
  · simp [c43, hp, hp2]
  by_cases hl : 128 < list.length
  · have hl' : (128 : Int) < list.length := by omega
    simp [c43, hp, hp2, hl, hl']
  have hl' : ¬ (128 : Int) < list.length := by omega
  simp [c43, hp, hp2, hl, hl', -List.any_eq_true]
  refine wp_loop (fun w s => ∃ i : Nat, w = list.length - i ∧ i ≤ list.length ∧ s.get 1 = bv nn list ∧ s.get 5 = AV.int IntKind.i64 i ∧ s.mem = m ∧ ∀ j (h : j < list.length), j < i → nameOK list[j].name = true) ?_ list.length _ ?_
  rotate_left
  · exact ⟨0, by simp⟩
  rintro w s ⟨i, hn, hi, e1, e5, hm, hbef⟩
  have w1 : IntKind.wrap .i64 ((i : Int) + 1) = (i : Int) + 1 := wrap64 (by omega) (by omega)
  by_cases h : i < list.length
  · have h62 := q62 list[i].name (hname _ (List.getElem_mem h)) []
    cases hok : nameOK list[i].name
    · have : list.any (fun b => !nameOK b.name) = true := by
        rw [List.any_eq_true]; exact ⟨_, List.getElem_mem h, by simp [hok]⟩
      rw [hok] at h62
      simp [e1, e5, hm, h, gi_nat h, h62, this, -List.any_eq_true]
    · rw [hok] at h62
      simp [e1, e5, hm, h, w1, gi_nat h, h62]
      refine ⟨list.length - (i + 1), by omega, i + 1, rfl, by omega, rfl, fun j hj hlt => ?_⟩
      by_cases e : j = i
      · subst e; exact hok
      · exact hbef j hj (by omega)
  have hna : list.any (fun b => !nameOK b.name) = false := by
    rw [List.any_eq_false]
    intro x hx
    obtain ⟨j, hj, rfl⟩ := List.getElem_of_mem hx
    simp [hbef j hj (by omega)]
  simp [e1, e5, h, hna, -List.any_eq_true]
  refine wp_loop (fun w s => ∃ i : Nat, w = list.length - i ∧ i ≤ list.length ∧ s.get 1 = bv nn list ∧ s.get 6 = AV.int IntKind.i64 i ∧ s.mem = m ∧ ∀ j (h : j < list.length), j < i → badB list[j] = false) ?_ list.length _ ?_
  rotate_left
  · exact ⟨0, by simp [e1, hm]⟩
  clear w1 h hi hn e1 e5 hm hbef
  rintro w s ⟨i, hn, hi, e1, e6, hm, hbef⟩
  have w1 : IntKind.wrap .i64 ((i : Int) + 1) = (i : Int) + 1 := wrap64 (by omega) (by omega)
  by_cases h : i < list.length
  · cases hok : badB list[i]
    rotate_left
    · have : list.any badB = true := by
        rw [List.any_eq_true]; exact ⟨_, List.getElem_mem h, hok⟩
      unfold badB at hok
      rw [decide_eq_true_iff] at hok
      by_cases g1 : list[i].arr < 0
      · simp [e1, e6, hm, h, gi_nat h, this, g1, -List.any_eq_true]
      by_cases g2 : 1000000000 < list[i].arr
      · simp [e1, e6, hm, h, gi_nat h, this, g1, g2, -List.any_eq_true]
      have g3 : ¬ (1 ≤ list[i].th ∧ list[i].th ≤ 1000000) := by omega
      simp [e1, e6, hm, h, gi_nat h, this, g1, g2, q20, g3, -List.any_eq_true]
    · have hok' := hok
      unfold badB at hok
      rw [decide_eq_false_iff_not] at hok
      have g1 : ¬ list[i].arr < 0 := by omega
      have g2 : ¬ 1000000000 < list[i].arr := by omega
      have g3 : 1 ≤ list[i].th ∧ list[i].th ≤ 1000000 := by omega
      simp [e1, e6, hm, h, w1, gi_nat h, g1, g2, q20, g3]
      refine ⟨list.length - (i + 1), by omega, i + 1, rfl, by omega, rfl, fun j hj hlt => ?_⟩
      by_cases e : j = i
      · subst e; exact hok'
      · exact hbef j hj (by omega)
  have hnb : list.any badB = false := by
    rw [List.any_eq_false]
    intro x hx
    obtain ⟨j, hj, rfl⟩ := List.getElem_of_mem hx
    simp [hbef j hj (by omega)]
  simp [e1, e6, h, hnb]
  refine wp_loop (fun w s => ∃ i : Nat, w = list.length - i ∧ i ≤ list.length ∧ s.get 1 = bv nn list ∧ s.get 7 = AV.int IntKind.i64 i ∧ s.mem = m ∧ ∀ j k (h : k < list.length) (h' : j < k), k < i → list[j].name ≠ list[k].name) ?_ list.length _ ?_
  rotate_left
  · exact ⟨0, by simp [e1, hm]⟩
  rintro w s ⟨i, hn, hi, e1, e7, hm, hbef⟩
  have w1 : IntKind.wrap .i64 ((i : Int) + 1) = (i : Int) + 1 := wrap64 (by omega) (by omega)
  by_cases h : i < list.length
  rotate_left
  · have : dupB list = false := by
      simp only [dupB, Bool.not_eq_false', decide_eq_true_eq, nodup_iff]
      intro j k hk hjk; exact hbef j k hk hjk (by omega)
    simp [e1, e7, hm, h, this]
  simp [e1, e7, hm, h]
  refine wp_loop (fun w s => ∃ j : Nat, w = i - j ∧ j ≤ i ∧ s.get 1 = bv nn list ∧ s.get 7 = AV.int IntKind.i64 i ∧ s.get 8 = AV.int IntKind.i64 j ∧ s.mem = m ∧ ∀ k (h : k < list.length), k < j → list[k].name ≠ list[i].name) ?_ i _ ?_
  rotate_left
  · exact ⟨0, by simp [e1, e7, hm]⟩
  clear e1 e7 hm
  rintro w2 s ⟨j, hn2, hj, e1, e7, e8, hm, hbef2⟩
  have w2 : IntKind.wrap .i64 ((j : Int) + 1) = (j : Int) + 1 := wrap64 (by omega) (by omega)
  by_cases hji : j < i
  · have hjl : j < list.length := by omega
    by_cases he : list[i].name = list[j].name
    · have hdup : dupB list = true := by
        simp only [dupB, Bool.not_eq_true', decide_eq_false_iff_not, nodup_iff]
        intro hno
        exact hno j i h hji he.symm
      simp [e1, e7, e8, hm, h, hji, hjl, gi_nat h, gi_nat hjl, he, hdup]
    · simp [e1, e7, e8, hm, h, w2, hji, hjl, gi_nat h, gi_nat hjl, he]
      refine ⟨i - (j + 1), by omega, j + 1, rfl, by omega, rfl, fun k hk hlt => ?_⟩
      by_cases e : k = j
      · subst e; exact fun h => he h.symm
      · exact hbef2 k hk (by omega)
  · simp [e1, e7, e8, hm, w1, hji]
    refine ⟨list.length - (i + 1), by omega, i + 1, rfl, by omega, rfl, fun j' k hk hjk hki => ?_⟩
    by_cases e : k = i
    · subst e
      exact hbef2 j' (by omega) (by omega)
    · exact hbef j' k hk hjk (by omega)
theorem q26 (xs ys : List Int) (nx ny nn : Bool) (places : Int) (list : List Bat) (hx : xs.length ≤ 20) (hy : ys.length ≤ 20) (hlen : (list.length : Int) < 4611686018427387904) (hname : ∀ b ∈ list, (b.name.length : Int) < 4611686018427387904) (m : Mem) :
    callL T51 26 [rv nx ny xs ys, AV.int IntKind.i64 places, bv nn list] m = some (AV.int IntKind.i64 (rdy xs ys places list), m) := by
  have h13 := q13 xs ys nx ny hx hy []
  apply callL_body (vf := c26) rfl rfl
  by_cases hc : chk xs ys = 0
  · rw [hc] at h13
    simp [c26, h13, rdy, hc, q43 nn places list hlen hname]
  · simp [c26, h13, rdy, hc]
end Go.Vm.Ch51
