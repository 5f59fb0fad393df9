/- Chapter 51: what its functions compute. -/
import Derived.Test.YtdodnhbegabbpaaC51ga
import Derived.Test.YtdodnhbegabbpaaC51gb
namespace Go.Vm.Ch51
open _root_.Ch51 (T51 c3 c7 c11)
set_option maxRecDepth 10000
set_option maxHeartbeats 4000000
theorem law7 (xs ys : List Int) (nx ny : Bool) (a b mn : Int) : ∃ g, callL T51 7 [rv nx ny xs ys, AV.int IntKind.i64 a, AV.int IntKind.i64 b, AV.int IntKind.i64 mn] [] = some (.bool true, g) := by
  obtain ⟨g, haw⟩ := awake
  refine ⟨g, ?_⟩
  by_cases hs : xs.length ≤ 20 ∧ ys.length ≤ 20
  rotate_left
  · apply callL_body (vf := c7) rfl rfl
    simp [c7, haw, q12, hs]
  have h17 := fun m => q17 xs ys nx ny hs.1 hs.2 m
  have h14 := fun t => q14 xs ys nx ny t (chk xs ys) [] (h17 []) good_of
  have h16 := q16 xs ys nx ny mn (chk xs ys) [] (h17 []) good_of
  by_cases he : chk xs ys = 0
  rotate_left
  · simp only [he, if_false] at h14 h16
    apply callL_body (vf := c7) rfl rfl
    simp [c7, haw, q12, hs, h14, h16, q15, he]
  have hg := good_of he
  have hone := hg.one
  have hsame := hg.same
  have hmost := hg.most
  simp only [he, if_true] at h14 h16
  have hyl : ¬ ys.length = 0 := by omega
  have hyn : ¬ ys = [] := by intro e; rw [e] at hyl; simp at hyl
  have w1 : IntKind.wrap .i64 ((ys.length : Int) - 1) = (ys.length : Int) - 1 := wrap64 (by omega) (by omega)
  have e0 : gi ys 0 = ys[0]'(by omega) := gi_nat (i := 0) (by omega)
  have e1 : gi ys ((ys.length : Int) - 1) = ys[ys.length - 1]'(by omega) := by rw [show (ys.length : Int) - 1 = ((ys.length - 1 : Nat) : Int) by omega]; exact gi_nat (by omega)
  -- what the first question asks
  have ha14 : ∃ x e : Int, callL T51 14 [rv nx ny xs ys, AV.int IntKind.i64 a] [] = some (.tup [AV.int IntKind.i64 x, AV.int IntKind.i64 e], []) ∧ ((e = 0 ∧ (1 ≤ a ∧ a ≤ 1000000) ∧ x = tm xs ys a) ∨ ¬ e = 0) := by
    by_cases ht : 1 ≤ a ∧ a ≤ 1000000
    · exact ⟨_, 0, by rw [h14, if_pos ht], .inl ⟨rfl, ht, rfl⟩⟩
    · exact ⟨0, 6, by rw [h14, if_neg ht], .inr (by decide)⟩
  have hb14 : ∃ x e : Int, callL T51 14 [rv nx ny xs ys, AV.int IntKind.i64 b] [] = some (.tup [AV.int IntKind.i64 x, AV.int IntKind.i64 e], []) ∧ ((e = 0 ∧ x = tm xs ys b) ∨ ¬ e = 0) := by
    by_cases ht : 1 ≤ b ∧ b ≤ 1000000
    · exact ⟨_, 0, by rw [h14, if_pos ht], .inl ⟨rfl, rfl⟩⟩
    · exact ⟨0, 6, by rw [h14, if_neg ht], .inr (by decide)⟩
  obtain ⟨x, e, hx, hxe⟩ := ha14
  obtain ⟨y, f, hy, hyf⟩ := hb14
  have q1 : e = 0 → ¬ x < gi ys 0 := fun h => by
    rcases hxe with ⟨_, _, rfl⟩ | h'
    · have := (tm_between hg a).2.2.1; omega
    · exact absurd h h'
  have q2 : e = 0 → ¬ gi ys ((ys.length : Int) - 1) < x := fun h => by
    rcases hxe with ⟨_, _, rfl⟩ | h'
    · have := (tm_between hg a).2.2.2; omega
    · exact absurd h h'
  have q3 : e = 0 → f = 0 → a ≤ b → ¬ y < x := fun h h2 h3 => by
    rcases hxe with ⟨_, _, rfl⟩ | h'
    · rcases hyf with ⟨_, rfl⟩ | h''
      · have := tm_mono hg h3; omega
      · exact absurd h2 h''
    · exact absurd h h'
  have hlen0 : (0 : Int) < ys.length := by omega
  have hlen1 : (0 : Int) ≤ (ys.length : Int) - 1 := by omega
  have hrest : ∃ r s : Int, callL T51 16 [rv nx ny xs ys, AV.int IntKind.i64 mn] [] = some (.tup [AV.int IntKind.i64 r, AV.int IntKind.i64 s], []) ∧ ((¬ s = 0 ∧ r = 0) ∨ (s = 0 ∧ (1 ≤ r ∧ r ≤ 1000000) ∧ tm xs ys r ≤ mn ∧ (r = 1000000 ∨ mn < tm xs ys (r + 1)))) := by
    by_cases hm : 0 ≤ mn ∧ mn ≤ 1000000000
    · by_cases h1 : tm xs ys 1 ≤ mn
      · refine ⟨_, 0, by rw [h16, if_pos hm, if_pos h1], .inr ⟨rfl, ?_⟩⟩
        have hge := bs_ge (fun n => decide (tm xs ys n ≤ mn)) 1 1000000
        obtain ⟨s1, s2, s3⟩ := bs_spec (fun n => decide (tm xs ys n ≤ mn)) 1000000 _ 1 1000000 rfl (by omega) (by omega) (by simpa using h1) (.inl rfl)
        refine ⟨⟨hge, s1⟩, by simpa using s2, ?_⟩
        rcases s3 with h | h
        · exact .inl h
        · exact .inr (by simpa using h)
      · exact ⟨0, 9, by rw [h16, if_pos hm, if_neg h1], .inl ⟨by decide, rfl⟩⟩
    · exact ⟨0, 6, by rw [h16, if_neg hm], .inl ⟨by decide, rfl⟩⟩
  obtain ⟨r, s, hr, hrs⟩ := hrest
  have hfin : s = 0 → ∃ r2 s2 : Int, callL T51 14 [rv nx ny xs ys, AV.int IntKind.i64 r] [] = some (.tup [AV.int IntKind.i64 (tm xs ys r), AV.int IntKind.i64 0], []) ∧ callL T51 14 [rv nx ny xs ys, AV.int IntKind.i64 (IntKind.wrap .i64 (r + 1))] [] = some (.tup [AV.int IntKind.i64 r2, AV.int IntKind.i64 s2], []) ∧ ¬ mn < tm xs ys r ∧ (r = 1000000 ∨ (s2 = 0 ∧ mn < r2)) := by
    intro h
    rcases hrs with ⟨h', _⟩ | ⟨_, hr1, hr2, hr3⟩
    · exact absurd h h'
    · rw [wrap64 (n := r + 1) (by omega) (by omega), h14 r, if_pos hr1, h14 (r + 1)]
      by_cases hr4 : r = 1000000
      · exact ⟨0, 6, rfl, by rw [if_neg (by omega)], by omega, .inl hr4⟩
      · refine ⟨_, 0, rfl, by rw [if_pos (by omega)], by omega, .inr ⟨rfl, ?_⟩⟩
        rcases hr3 with h5 | h5
        · exact absurd h5 hr4
        · exact h5
  by_cases hs0 : s = 0
  · obtain ⟨r2, s2, z1, z2, z3, z4⟩ := hfin hs0
    exact law7_some xs ys nx ny a b mn g x e y f r s haw hs hx hy hr hyl w1 hlen0 q1 q2 q3 hs0 r2 s2 z1 z2 z3 z4
  · have hr0 : r = 0 := by rcases hrs with ⟨_, h⟩ | ⟨h, _⟩; exact h; exact absurd h hs0
    exact law7_none xs ys nx ny a b mn g x e y f r s haw hs hx hy hr hyl w1 hlen0 q1 q2 q3 hs0 hr0
end Go.Vm.Ch51
