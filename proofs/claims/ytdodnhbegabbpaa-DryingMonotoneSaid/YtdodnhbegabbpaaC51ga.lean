/- Chapter 51: what its functions compute. -/
import Derived.Test.YtdodnhbegabbpaaC51f
namespace Go.Vm.Ch51
open _root_.Ch51 (T51 c7)
set_option maxRecDepth 10000
set_option maxHeartbeats 4000000
theorem law7_some (xs ys : List Int) (nx ny : Bool) (a b mn : Int) (g : Mem) (x e y f r s : Int) (haw : callL T51 11 [] [] = some (.bool true, g)) (hs : xs.length ≤ 20 ∧ ys.length ≤ 20)
    (hx : callL T51 14 [rv nx ny xs ys, AV.int IntKind.i64 a] [] = some (.tup [AV.int IntKind.i64 x, AV.int IntKind.i64 e], [])) (hy : callL T51 14 [rv nx ny xs ys, AV.int IntKind.i64 b] [] = some (.tup [AV.int IntKind.i64 y, AV.int IntKind.i64 f], [])) (hr : callL T51 16 [rv nx ny xs ys, AV.int IntKind.i64 mn] [] = some (.tup [AV.int IntKind.i64 r, AV.int IntKind.i64 s], []))
    (hyl : ¬ ys.length = 0) (w1 : IntKind.wrap .i64 ((ys.length : Int) - 1) = (ys.length : Int) - 1) (hlen0 : (0 : Int) < ys.length)
    (q1 : e = 0 → ¬ x < gi ys 0) (q2 : e = 0 → ¬ gi ys ((ys.length : Int) - 1) < x) (q3 : e = 0 → f = 0 → a ≤ b → ¬ y < x)
    (hs0 : s = 0) (r2 s2 : Int) (z1 : callL T51 14 [rv nx ny xs ys, AV.int IntKind.i64 r] [] = some (.tup [AV.int IntKind.i64 (tm xs ys r), AV.int IntKind.i64 0], [])) (z2 : callL T51 14 [rv nx ny xs ys, AV.int IntKind.i64 (IntKind.wrap .i64 (r + 1))] [] = some (.tup [AV.int IntKind.i64 r2, AV.int IntKind.i64 s2], [])) (z3 : ¬ mn < tm xs ys r) (z4 : r = 1000000 ∨ (s2 = 0 ∧ mn < r2)) :
    callL T51 7 [rv nx ny xs ys, AV.int IntKind.i64 a, AV.int IntKind.i64 b, AV.int IntKind.i64 mn] [] = some (.bool true, g) := by
  apply callL_body (vf := c7) rfl rfl
  subst hs0
  by_cases he0 : e = 0
  · have p1 := q1 he0; have p2 := q2 he0
    by_cases hf0 : f = 0
    · by_cases hab : a ≤ b
      · have p3 := q3 he0 hf0 hab
        simp [c7, haw, q12, hs, q15, hx, hy, hr, z1, z2, z3, he0, hf0, hab, hyl, w1, p1, p2, p3]
        omega
      · simp [c7, haw, q12, hs, q15, hx, hy, hr, z1, z2, z3, he0, hf0, hab, hyl, w1, p1, p2]
        omega
    · simp [c7, haw, q12, hs, q15, hx, hy, hr, z1, z2, z3, he0, hf0, hyl, w1, p1, p2]
      omega
  · simp [c7, haw, q12, hs, q15, hx, hy, hr, z1, z2, z3, he0]
    omega
end Go.Vm.Ch51
