/- Chapter 51: what its functions compute. -/
import Derived.Test.YtdodnhbegabbpaaC51s
import Derived.Test.YtdodnhbegabbpaaC51d
namespace Go.Vm.Ch51
open _root_.Ch51 (T51 c6)
open Go.Vm.Stable
set_option maxRecDepth 10000
set_option maxHeartbeats 8000000
theorem law6 (xs ys : List Int) (nx ny nn : Bool) (places : Int) (list : List Bat) (hl : (list.length : Int) ≤ 9223372036854775807) : ∃ g, callL T51 6 [rv nx ny xs ys, AV.int IntKind.i64 places, bv nn list] [] = some (.bool true, g) := by
  obtain ⟨g, haw⟩ := awake
  have h23 := q23 list nn 30 hl []
  by_cases hsh : xs.length ≤ 20 ∧ ys.length ≤ 20
  rotate_left
  · refine ⟨g, callL_body (vf := c6) rfl rfl ?_⟩
    simp [c6, haw, q12, hsh]
  by_cases hf : (list.length ≤ (30 : Int) ∧ ∀ b ∈ list, b.name.length ≤ 60)
  rotate_left
  · have e : decide (list.length ≤ (30 : Int) ∧ ∀ b ∈ list, b.name.length ≤ 60) = false := by simpa using hf
    rw [e] at h23
    refine ⟨g, callL_body (vf := c6) rfl rfl ?_⟩
    simp [c6, haw, q12, hsh, h23]
  have e : decide (list.length ≤ (30 : Int) ∧ ∀ b ∈ list, b.name.length ≤ 60) = true := by simpa using hf
  rw [e] at h23
  have hnm : ∀ b ∈ list, (b.name.length : Int) < 4611686018427387904 := fun b hb => by have := hf.2 b hb; omega
  have h25 := q25 list nn (by omega) []
  have h26 := q26 xs ys nx ny nn places list hsh.1 hsh.2 (by omega) hnm []
  by_cases hr : rdy xs ys places list = 0
  rotate_left
  · have h31 := q31_err xs ys nx ny true places list hsh.1 hsh.2 (by omega) hnm hr g
    have h32 := q32_err xs ys nx ny true places list hsh.1 hsh.2 (by omega) hnm hr []
    generalize rdy xs ys places list = r at *
    refine ⟨g, callL_body (vf := c6) rfl rfl ?_⟩
    simp [c6, haw, q12, hsh, h23, q15, h25, h31, h32, h26, hr]
  obtain ⟨hg, hp1, hp2, hl128, -⟩ := rdy_ok hr
  obtain ⟨pl, rfl⟩ : ∃ pl : Nat, places = pl := ⟨places.toNat, by omega⟩
  have hb := rdy_bok hr
  have h31 := q31_ok xs ys nx ny pl list hsh.1 hsh.2 hnm (by omega) hr g
  have h32 := q32_ok xs ys nx ny true pl list hsh.1 hsh.2 hnm (by omega) hr []
  have h33 := q33 xs ys nx ny nn pl list hg (by omega) (by omega) hb []
  have h34 := q34 xs ys nx ny nn pl list hg ⟨hp1, hp2⟩ (by omega) hb []
  rw [hr] at h26
  generalize endT (rackS xs ys pl list) = E at *
  generalize bnd (tm xs ys) pl list list = B at *
  refine ⟨rmem list g, callL_body (vf := c6) rfl rfl ?_⟩
  simp [c6, haw, q12, hsh, h23, q15, h25, h31, h32, h26, h33, h34]
end Go.Vm.Ch51
