/- Chapter 51: what its functions compute. -/
import Derived.Test.YtdodnhbegabbpaaC51c
import Derived.KernelRfl
namespace Go.Vm.Ch51
open _root_.Ch51 (T51 c3 c7 c11)
set_option maxRecDepth 10000
set_option maxHeartbeats 4000000
def isT : Option (AV × Mem) → Bool
  | some (.bool true, _) => true
  | _ => false
theorem isT_inv {r : Option (AV × Mem)} (h : isT r = true) : ∃ g, r = some (.bool true, g) := by
  unfold isT at h
  split at h
  · exact ⟨_, rfl⟩
  · simp at h
theorem awake : ∃ g, callL T51 11 [] [] = some (.bool true, g) := by
  obtain ⟨g, hg⟩ := isT_inv (r := callN T51 400 11 [] []) (by kernel_rfl)
  exact ⟨g, callL_of hg⟩
theorem bs_ge (p : Int → Bool) (lo hi : Int) : lo ≤ bs p lo hi := by
  generalize hn : (hi - lo).toNat = n
  induction n using Nat.strongRecOn generalizing lo hi with
  | ind n ih =>
    rw [bs]
    split
    · split
      · have := ih _ (by omega) ((lo + hi + 1) / 2) hi rfl; omega
      · exact ih _ (by omega) lo _ rfl
    · exact Int.le_refl _
theorem stone_same (x y z : Int) (m : Mem) : ∃ v, callL T51 18 [stone x y z] m = some (AV.int IntKind.i64 v, m) ∧ callL T51 19 [stone x y z] m = some (AV.int IntKind.i64 v, m) :=
  ⟨_, callL_body (vf := _root_.Ch51.c18) rfl rfl (by simp [_root_.Ch51.c18]; rfl), callL_body (vf := _root_.Ch51.c19) rfl rfl (by simp [_root_.Ch51.c19])⟩

end Go.Vm.Ch51
