/- Chapter 11: what its functions compute. -/
import Derived.Test.YtmlfcgmiaapffaaGreatDoorC11c
namespace Go.Vm.Ch11
open _root_.Ch11 (T11 c96)
set_option maxRecDepth 10000
set_option maxHeartbeats 4000000
theorem q96 (b : List UInt8) (hlen : (b.length : Int) < 4611686018427387904) (m : Mem) : callL T11 96 [.str b] m = some (.bool (labelOK b), m) := by
  have h23 := q80 b 117 (fun c => labN c.toNat) (fun c _ => q117 c) hlen []
  have hall := tw_all (fun c : UInt8 => labN c.toNat) b
  apply callL_body (vf := c96) rfl rfl
  by_cases h0 : b = []
  · subst h0
    simp [c96, labelOK]
  have hpos : 0 < b.length := List.length_pos_iff.2 h0
  by_cases h1 : b.length ≤ 40
  rotate_left
  · have h1I : (40 : Int) < b.length := by omega
    have hf : labelOK b = false := by unfold labelOK; simp; omega
    simp [c96, h0, h1I, hf]
  have h1I : ¬ (40 : Int) < b.length := by omega
  obtain ⟨e1, e2⟩ := lab_ends hpos
  have hr : labelOK b = (b.all (fun c => labN c.toNat) && !decide ((b[0].toNat : Int) = 32) && !decide ((b[b.length - 1].toNat : Int) = 32)) := by
    unfold labelOK
    rw [e1, e2]
    have : decide (1 ≤ b.length ∧ b.length ≤ 40) = true := by simp; omega
    rw [this, Bool.true_and]
  rw [hr]
  have w1 : IntKind.wrap .i64 ((b.length : Int) - 1) = ((b.length - 1 : Nat) : Int) := by rw [wrap64 (by omega) (by omega)]; omega
  have g0 : b[0]? = some b[0] := List.getElem?_eq_getElem hpos
  have gL : b[b.length - 1]? = some b[b.length - 1] := List.getElem?_eq_getElem (by omega)
  have ee : (((b.takeWhile (fun c => labN c.toNat)).length : Int) == (b.length : Int)) = b.all (fun c => labN c.toNat) := by
    rw [Bool.eq_iff_iff, ← hall]; simp; omega
  generalize (b.takeWhile (fun c => labN c.toNat)).length = W at *
  clear hall
  generalize b.all (fun c => labN c.toNat) = AL at *
  generalize b[0] = x0 at *
  generalize b[b.length - 1] = xl at *
  generalize b.length - 1 = l at *
  by_cases k1 : (x0.toNat : Int) = 32
  · simp [c96, h0, h1I, g0, k1]
  · by_cases k2 : (xl.toNat : Int) = 32
    · simp [c96, h0, h1I, g0, k1, w1, gL, k2]
    · simp [c96, h0, h1I, g0, k1, w1, gL, k2, h23, ee]
end Go.Vm.Ch11
