/- Chapter 51: what its functions compute. -/
import Derived.Test.YtdodnhbegabbpaaC51q
namespace Go.Vm.Ch51
open _root_.Ch51 (T51 c24 c31 c32 c33 c34)
open Go.Vm.Stable
set_option maxRecDepth 10000
set_option maxHeartbeats 8000000
def endT (L : List Sta) : Int := L.foldl (fun n s => max n s.to) 0
theorem rdy_bok {xs ys : List Int} {places : Int} {list : List Bat} (h : rdy xs ys places list = 0) : ∀ b ∈ list, BOK b := (rdy_ok h).2.2.2.2.2.1
theorem endT_snoc (L : List Sta) (s : Sta) : endT (L ++ [s]) = max (endT L) s.to := by simp [endT]
theorem endT_take {L : List Sta} {i : Nat} (h : i < L.length) : endT (L.take (i + 1)) = max (endT (L.take i)) L[i].to := by
  rw [List.take_succ_eq_append_getElem h, endT_snoc]
theorem max_if (a b : Int) : (if a < b then b else a) = max a b := by split <;> omega
theorem q33 (xs ys : List Int) (nx ny nn : Bool) (pl : Nat) (list : List Bat) (hg : Good xs ys) (hp : 1 ≤ pl ∧ pl ≤ 1000) (hlen : list.length ≤ 1000) (hb : ∀ b ∈ list, BOK b) (m : Mem) :
    callL T51 33 [rv nx ny xs ys, AV.int IntKind.i64 pl, bv nn list] m = some (AV.int IntKind.i64 (endT (rackS xs ys pl list)), m) := by
  have h28 := q28 xs ys nx ny nn pl list hg hp hlen hb []
  have hl : (rackS xs ys pl list).length ≤ 1000 := by unfold rackS; rw [rackGo_len, srt_len swoB]; exact hlen
  apply callL_body (vf := c33) rfl rfl
  generalize rackS xs ys pl list = L at *
  simp [c33, h28]
  refine wp_loop (fun w s => ∃ i : Nat, w = L.length - i ∧ i ≤ L.length ∧ s.get 7 = AV.int IntKind.i64 (endT (L.take i)) ∧ s.get 8 = sv true L ∧ s.get 9 = AV.int IntKind.i64 i ∧ s.mem = m) ?_ L.length _ ?_
  rotate_left
  · exact ⟨0, by simp [endT]⟩
  rintro w s ⟨i, hwl, hi, e7, e8, e9, hm⟩
  by_cases h : i < L.length
  · have w1 : W64 ((i : Int) + 1) ((i + 1 : Nat) : Int) := .mk' (by omega) (by omega) (by omega)
    simp [e7, e8, e9, hm, h, gi_nat h, w1.eq, max_if, -Int.natCast_add]
    exact ⟨L.length - (i + 1), by omega, i + 1, rfl, by omega, by rw [endT_take h], rfl⟩
  · have hiL : i = L.length := by omega
    subst hiL
    rw [List.take_length] at e7
    simp [e7, e8, e9, hm]
theorem q31_err (xs ys : List Int) (nx ny nn : Bool) (places : Int) (list : List Bat) (hx : xs.length ≤ 20) (hy : ys.length ≤ 20) (hlen : (list.length : Int) < 4611686018427387904) (hname : ∀ b ∈ list, (b.name.length : Int) < 4611686018427387904) (hr : rdy xs ys places list ≠ 0) (m : Mem) :
    callL T51 31 [rv nx ny xs ys, AV.int IntKind.i64 places, bv nn list] m = some (.tup [AV.int IntKind.i64 0, AV.int IntKind.i64 (rdy xs ys places list)], m) := by
  have h41 := q41 xs ys nx ny nn places list hx hy hlen hname []
  apply callL_body (vf := c31) rfl rfl
  simp [c31, h41, hr]
theorem q24_err (xs ys : List Int) (nx ny nn : Bool) (places : Int) (list : List Bat) (hx : xs.length ≤ 20) (hy : ys.length ≤ 20) (hlen : (list.length : Int) < 4611686018427387904) (hname : ∀ b ∈ list, (b.name.length : Int) < 4611686018427387904) (hr : rdy xs ys places list ≠ 0) (m : Mem) :
    callL T51 24 [rv nx ny xs ys, AV.int IntKind.i64 places, bv nn list] m = some (.tup [.vec none false [], AV.int IntKind.i64 (rdy xs ys places list)], m) := by
  have h41 := q41 xs ys nx ny nn places list hx hy hlen hname []
  apply callL_body (vf := c24) rfl rfl
  simp [c24, h41, hr]
theorem q32_err (xs ys : List Int) (nx ny nn : Bool) (places : Int) (list : List Bat) (hx : xs.length ≤ 20) (hy : ys.length ≤ 20) (hlen : (list.length : Int) < 4611686018427387904) (hname : ∀ b ∈ list, (b.name.length : Int) < 4611686018427387904) (hr : rdy xs ys places list ≠ 0) (m : Mem) :
    callL T51 32 [rv nx ny xs ys, AV.int IntKind.i64 places, bv nn list] m = some (.tup [AV.int IntKind.i64 0, AV.int IntKind.i64 (rdy xs ys places list)], m) := by
  have h41 := q41 xs ys nx ny nn places list hx hy hlen hname []
  apply callL_body (vf := c32) rfl rfl
  simp [c32, h41, hr]
theorem q24_ok (xs ys : List Int) (nx ny : Bool) (pl : Nat) (list : List Bat) (hx : xs.length ≤ 20) (hy : ys.length ≤ 20) (hname : ∀ b ∈ list, (b.name.length : Int) < 4611686018427387904) (hlen : list.length ≤ 1000) (hr : rdy xs ys pl list = 0) (m : Mem) :
    callL T51 24 [rv nx ny xs ys, AV.int IntKind.i64 pl, bv true list] m = some (.tup [sv (decide (list ≠ [])) (rackS xs ys pl list), AV.int IntKind.i64 0], rmem list m) := by
  have h41 := q41 xs ys nx ny true pl list hx hy (by omega) hname []
  obtain ⟨hg, hp1, hp2, hl128, -⟩ := rdy_ok hr
  have h42 := q42 xs ys nx ny pl list hg (by omega) hlen (rdy_bok hr) m
  rw [hr] at h41
  apply callL_body (vf := c24) rfl rfl
  simp [c24, h41, h42]
theorem q31_ok (xs ys : List Int) (nx ny : Bool) (pl : Nat) (list : List Bat) (hx : xs.length ≤ 20) (hy : ys.length ≤ 20) (hname : ∀ b ∈ list, (b.name.length : Int) < 4611686018427387904) (hlen : list.length ≤ 1000) (hr : rdy xs ys pl list = 0) (m : Mem) :
    callL T51 31 [rv nx ny xs ys, AV.int IntKind.i64 pl, bv true list] m = some (.tup [AV.int IntKind.i64 (endT (rackS xs ys pl list)), AV.int IntKind.i64 0], rmem list m) := by
  have h41 := q41 xs ys nx ny true pl list hx hy (by omega) hname []
  obtain ⟨hg, hp1, hp2, hl128, -⟩ := rdy_ok hr
  have h42 := q42 xs ys nx ny pl list hg (by omega) hlen (rdy_bok hr) m
  have hl : (rackS xs ys pl list).length ≤ 1000 := by unfold rackS; rw [rackGo_len, srt_len swoB]; exact hlen
  rw [hr] at h41
  apply callL_body (vf := c31) rfl rfl
  generalize rackS xs ys pl list = L at *
  generalize rmem list m = M at *
  generalize decide (list ≠ []) = nz at *
  simp [c31, h41, h42]
  refine wp_loop (fun w s => ∃ i : Nat, w = L.length - i ∧ i ≤ L.length ∧ s.get 9 = AV.int IntKind.i64 (endT (L.take i)) ∧ s.get 22 = sv nz L ∧ s.get 23 = AV.int IntKind.i64 L.length ∧ s.get 24 = AV.int IntKind.i64 i ∧ s.mem = M) ?_ L.length _ ?_
  rotate_left
  · exact ⟨0, by simp [endT]⟩
  rintro w s ⟨i, hwl, hi, e9, e22, e23, e24, hm⟩
  by_cases h : i < L.length
  · have w1 : W64 ((i : Int) + 1) ((i + 1 : Nat) : Int) := .mk' (by omega) (by omega) (by omega)
    simp [e9, e22, e23, e24, hm, h, gi_nat h, w1.eq, max_if, -Int.natCast_add]
    exact ⟨L.length - (i + 1), by omega, i + 1, rfl, by omega, by rw [endT_take h], rfl⟩
  · have hiL : i = L.length := by omega
    subst hiL
    rw [List.take_length] at e9
    simp [e9, e23, e24, hm]
/-- The drying times of those that arrive at a minute or later. -/
def work (t : Int → Int) (a : Int) (L : List Bat) : Int := L.foldl (fun n x => if a ≤ x.arr then n + t x.th else n) 0
def bnd (t : Int → Int) (pl : Int) (list : List Bat) : List Bat → Int
  | L => L.foldl (fun n b => max (max n (b.arr + t b.th)) (b.arr + (work t b.arr list + pl - 1).tdiv pl)) 0
theorem work_take {t : Int → Int} {a : Int} {L : List Bat} {i : Nat} (h : i < L.length) : work t a (L.take (i + 1)) = if a ≤ L[i].arr then work t a (L.take i) + t L[i].th else work t a (L.take i) := by
  rw [List.take_succ_eq_append_getElem h, work, List.foldl_append]; rfl
theorem bnd_take {t : Int → Int} {pl : Int} {list L : List Bat} {i : Nat} (h : i < L.length) : bnd t pl list (L.take (i + 1)) = max (max (bnd t pl list (L.take i)) (L[i].arr + t L[i].th)) (L[i].arr + (work t L[i].arr list + pl - 1).tdiv pl) := by
  rw [List.take_succ_eq_append_getElem h, bnd, List.foldl_append]; rfl
theorem work_le {t : Int → Int} (ht : ∀ n, 0 ≤ t n ∧ t n ≤ 1000000) (a : Int) (L : List Bat) : 0 ≤ work t a L ∧ work t a L ≤ 1000000 * (L.length : Int) := by
  have key : ∀ (L : List Bat) (z : Int), 0 ≤ z → 0 ≤ L.foldl (fun n x => if a ≤ x.arr then n + t x.th else n) z ∧ L.foldl (fun n x => if a ≤ x.arr then n + t x.th else n) z ≤ z + 1000000 * (L.length : Int) := by
    intro L
    induction L with
    | nil => intro z hz; simpa using hz
    | cons b L ih =>
      intro z hz
      have h1 := ht b.th
      have := ih (if a ≤ b.arr then z + t b.th else z) (by split <;> omega)
      simp only [List.foldl_cons, List.length_cons]
      have h2 : (if a ≤ b.arr then z + t b.th else z) ≤ z + 1000000 := by split <;> omega
      omega
  have := key L 0 (Int.le_refl _)
  unfold work; omega
end Go.Vm.Ch51
