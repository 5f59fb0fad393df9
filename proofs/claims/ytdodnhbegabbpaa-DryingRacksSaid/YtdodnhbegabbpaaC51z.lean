/- Chapter 51: what its functions compute. -/
import Derived.Test.YtdodnhbegabbpaaC51u
namespace Go.Vm.Ch51
open _root_.Ch51 (T51 c4 c25)
open Go.Vm.Stable
set_option maxRecDepth 10000
set_option maxHeartbeats 8000000
theorem q25L (xs : List Bat) (nn : Bool) (hlen : (xs.length : Int) * 32 ≤ 140737488355328) (m : Mem) : callL T51 25 [bv nn xs] m = some (bv true xs, m) := by
  apply callL_body (vf := c25) rfl rfl
  simp [c25]
  refine wp_loop (fun w s => ∃ i : Nat, w = xs.length - i ∧ i ≤ xs.length ∧ s.get 0 = bv nn xs ∧ s.get 3 = vv (some 3) true (fun b => .agg (eb b)) (xs.take i) ∧ s.get 4 = AV.int IntKind.i64 i ∧ s.mem = m) ?_ xs.length _ ?_
  rotate_left
  · exact ⟨0, by simp, by simp, by simp, by simp [vv], by simp, by simp⟩
  rintro w s ⟨i, hn, hi, h0, h3, h4, hm⟩
  have w1 : IntKind.wrap .i64 ((i : Int) + 1) = (i : Int) + 1 := wrap64 (by omega) (by omega)
  simp [h0, h3, h4, hm, w1, eb, Nat.min_eq_left hi]
  refine ⟨fun h => ⟨h, ?_⟩, fun h => ?_⟩
  · simp only [gi_nat h]
    refine ⟨by omega, xs.length - (i + 1), by omega, i + 1, rfl, by omega, ?_, by omega⟩
    exact vv_snoc (e := fun b => .agg (eb b)) h
  · have : i = xs.length := by omega
    subst this
    simp; rfl
theorem bat_many (places : Int) (list : List Bat) (hl : 128 < list.length) : bat places list = if places < 1 ∨ 1000 < places then 6 else 7 := by
  unfold bat
  rw [if_pos hl]
/-- A rack with too many batches is refused before their names are looked at. -/
theorem q41_many (xs ys : List Int) (nx ny nn : Bool) (places : Int) (list : List Bat) (hx : xs.length ≤ 20) (hy : ys.length ≤ 20) (hl : 128 < list.length) (m : Mem) :
    callL T51 41 [rv nx ny xs ys, AV.int IntKind.i64 places, bv nn list] m = some (AV.int IntKind.i64 (rdy xs ys places list), m) := by
  have h17 := q17 xs ys nx ny hx hy []
  apply callL_body (vf := _root_.Ch51.c41) rfl rfl
  by_cases hc : chk xs ys = 0
  rotate_left
  · simp [_root_.Ch51.c41, h17, hc, rdy]
  simp only [rdy, hc, if_true, bat_many places list hl]
  rw [hc] at h17
  by_cases hp : places < 1
  · simp [_root_.Ch51.c41, h17, hp]
  by_cases hp2 : 1000 < places
  · simp [_root_.Ch51.c41, h17, hp, hp2]
  have hl' : (128 : Int) < list.length := by omega
  simp [_root_.Ch51.c41, h17, hp, hp2, hl']
theorem q26_many (xs ys : List Int) (nx ny nn : Bool) (places : Int) (list : List Bat) (hx : xs.length ≤ 20) (hy : ys.length ≤ 20) (hl : 128 < list.length) (m : Mem) :
    callL T51 26 [rv nx ny xs ys, AV.int IntKind.i64 places, bv nn list] m = some (AV.int IntKind.i64 (rdy xs ys places list), m) := by
  have h13 := q13 xs ys nx ny hx hy []
  have h43 : callL T51 43 [AV.int IntKind.i64 places, bv nn list] [] = some (AV.int IntKind.i64 (bat places list), []) := by
    apply callL_body (vf := _root_.Ch51.c43) rfl rfl
    rw [bat_many places list hl]
    by_cases hp : places < 1
    · simp [_root_.Ch51.c43, hp]
    by_cases hp2 : 1000 < places
    · simp [_root_.Ch51.c43, hp, hp2]
    have hl' : (128 : Int) < list.length := by omega
    simp [_root_.Ch51.c43, hp, hp2, hl']
  apply callL_body (vf := _root_.Ch51.c26) rfl rfl
  by_cases hc : chk xs ys = 0
  · rw [hc] at h13
    simp [_root_.Ch51.c26, h13, rdy, hc, h43]
  · simp [_root_.Ch51.c26, h13, rdy, hc]
theorem q24_many (xs ys : List Int) (nx ny nn : Bool) (places : Int) (list : List Bat) (hx : xs.length ≤ 20) (hy : ys.length ≤ 20) (hl : 128 < list.length) (m : Mem) :
    callL T51 24 [rv nx ny xs ys, AV.int IntKind.i64 places, bv nn list] m = some (.tup [.vec none false [], AV.int IntKind.i64 (rdy xs ys places list)], m) ∧ rdy xs ys places list ≠ 0 := by
  have hr : rdy xs ys places list ≠ 0 := fun h => by have := (rdy_ok h).2.2.2.1; omega
  have h41 := q41_many xs ys nx ny nn places list hx hy hl []
  refine ⟨?_, hr⟩
  apply callL_body (vf := _root_.Ch51.c24) rfl rfl
  simp [_root_.Ch51.c24, h41, hr]
theorem eqAgg_stay (a : Sta) : eqCells (es a) (es a) [(0, 1), (1, 0), (2, 0), (3, 0)] = some true := by
  simp [es]
theorem law4 (xs ys : List Int) (nx ny nn : Bool) (places : Int) (list : List Bat) (hl : (list.length : Int) ≤ 9223372036854775807) (hl2 : (list.length : Int) * 32 ≤ 140737488355328) : ∃ g, callL T51 4 [rv nx ny xs ys, AV.int IntKind.i64 places, bv nn list] [] = some (.bool true, g) := by
  obtain ⟨g, haw⟩ := awake
  have h23 := q23 list nn 30 hl []
  by_cases hsh : xs.length ≤ 20 ∧ ys.length ≤ 20
  rotate_left
  · refine ⟨g, callL_body (vf := c4) rfl rfl ?_⟩
    simp [c4, haw, q12, hsh]
  have h25 := q25L list nn hl2 []
  by_cases hmany : 128 < list.length
  · have e : decide (list.length ≤ (30 : Int) ∧ ∀ b ∈ list, b.name.length ≤ 60) = false := by
      rw [decide_eq_false_iff_not]; intro h; have := h.1; omega
    rw [e] at h23
    have h26 := q26_many xs ys nx ny nn places list hsh.1 hsh.2 hmany []
    obtain ⟨h24, hr⟩ := q24_many xs ys nx ny true places list hsh.1 hsh.2 hmany g
    have hmI : ¬ (list.length : Int) ≤ 128 := by omega
    have hmN : ¬ list.length ≤ 128 := by omega
    generalize rdy xs ys places list = r at *
    refine ⟨g, callL_body (vf := c4) rfl rfl ?_⟩
    simp [c4, haw, q12, hsh, h23, hmI, q15, h25, h24, h26, hr]
  by_cases hf : (list.length ≤ (30 : Int) ∧ ∀ b ∈ list, b.name.length ≤ 60)
  rotate_left
  · have e : decide (list.length ≤ (30 : Int) ∧ ∀ b ∈ list, b.name.length ≤ 60) = false := by simpa using hf
    rw [e] at h23
    have hmI : (list.length : Int) ≤ 128 := by omega
    refine ⟨g, callL_body (vf := c4) rfl rfl ?_⟩
    simp [c4, haw, q12, hsh, h23, hmI]
  have e : decide (list.length ≤ (30 : Int) ∧ ∀ b ∈ list, b.name.length ≤ 60) = true := by simpa using hf
  rw [e] at h23
  have hnm : ∀ b ∈ list, (b.name.length : Int) < 4611686018427387904 := fun b hb => by have := hf.2 b hb; omega
  have h26 := q26 xs ys nx ny nn places list hsh.1 hsh.2 (by omega) hnm []
  by_cases hr : rdy xs ys places list = 0
  rotate_left
  · have h24 := q24_err xs ys nx ny true places list hsh.1 hsh.2 (by omega) hnm hr g
    generalize rdy xs ys places list = r at *
    refine ⟨g, callL_body (vf := c4) rfl rfl ?_⟩
    simp [c4, haw, q12, hsh, h23, q15, h25, h24, h26, hr]
  obtain ⟨hg, hp1, hp2, hl128, -⟩ := rdy_ok hr
  obtain ⟨pl, rfl⟩ : ∃ pl : Nat, places = pl := ⟨places.toNat, by omega⟩
  have hb := rdy_bok hr
  have h24 := q24_ok xs ys nx ny pl list hsh.1 hsh.2 hnm (by omega) hr g
  have h28 := q28 xs ys nx ny nn pl list hg (by omega) (by omega) hb []
  have hLl : (rackS xs ys pl list).length = list.length := rackS_len
  have h27 := q27 (rackS xs ys pl list) true (by rw [hLl]; omega) []
  rw [hr] at h26
  generalize rackS xs ys pl list = L at *
  generalize decide (list ≠ []) = nz at *
  refine ⟨rmem list g, callL_body (vf := c4) rfl rfl ?_⟩
  generalize rmem list g = M at *
  simp [c4, haw, q12, hsh, h23, q15, h25, h24, h26, h28, h27]
  refine wp_loop (fun w s => ∃ i : Nat, w = L.length - i ∧ i ≤ L.length ∧ s.get 7 = sv nz L ∧ s.get 10 = sv true L ∧ s.get 11 = AV.int IntKind.i64 i ∧ s.mem = M) ?_ L.length _ ?_
  rotate_left
  · exact ⟨0, by simp⟩
  rintro w s ⟨i, hwl, hi, e7, e10, e11, hm⟩
  by_cases h : i < L.length
  · have w1 : W64 ((i : Int) + 1) ((i + 1 : Nat) : Int) := .mk' (by omega) (by omega) (by omega)
    have heq := eqAgg_stay L[i]
    simp [e7, e10, e11, hm, h, gi_nat h, w1.eq, heq, -eqCells, -Int.natCast_add]
    exact ⟨L.length - (i + 1), by omega, i + 1, rfl, by omega, rfl⟩
  · simp [e7, e11, hm, h]
end Go.Vm.Ch51
