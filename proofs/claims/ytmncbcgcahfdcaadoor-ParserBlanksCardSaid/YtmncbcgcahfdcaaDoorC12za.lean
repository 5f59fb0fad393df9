/- Chapter 12: what its functions compute. -/
import Derived.Test.YtmncbcgcahfdcaaDoorC12xf
namespace Go.Vm.Ch12
open _root_.Ch12 (T12)
set_option maxRecDepth 10000
set_option maxHeartbeats 16000000
/-! ### small trees -/
mutual
def leftL : List Ln → Int → Nat → Int
  | [], n, _ => n
  | x :: r, n, d => if n < 0 then n else leftL r (leftN x n d) d
def leftN : Ln → Int → Nat → Int
  | .mk T _ K _, n, d => if d = 0 ∨ n < T.length then -1 else if T.any (fun p => decide (200 < p.t.length)) then -1 else leftL K (n - 1 - T.length) (d - 1)
end
mutual
theorem leftL_neg : ∀ (K : List Ln) (n : Int) (d : Nat), n < 0 → leftL K n d = n
  | [], n, d, h => rfl
  | x :: r, n, d, h => by rw [leftL, if_pos h]
end
mutual
theorem leftL_le : ∀ (K : List Ln) (n : Int) (d : Nat), 0 ≤ leftL K n d → leftL K n d + szL K ≤ n
  | [], n, d, h => by simp [leftL, szL]
  | x :: r, n, d, h => by
    rw [leftL] at h ⊢
    split
    · rename_i hn; rw [if_pos hn] at h; omega
    · rename_i hn
      rw [if_neg hn] at h
      have h1 := leftL_le r (leftN x n d) d h
      have h2 : 0 ≤ leftN x n d := by omega
      have h3 := leftN_le x n d h2
      rw [szL]; omega
theorem leftN_le : ∀ (x : Ln) (n : Int) (d : Nat), 0 ≤ leftN x n d → leftN x n d + szN x ≤ n
  | .mk T h K a, n, d, h0 => by
    rw [leftN] at h0 ⊢
    split
    · rename_i hn; rw [if_pos hn] at h0; omega
    · rename_i hn
      rw [if_neg hn] at h0
      split
      · rename_i hp; rw [if_pos hp] at h0; omega
      · rename_i hp
        rw [if_neg hp] at h0
        have := leftL_le K (n - 1 - T.length) (d - 1) h0
        rw [szN]; omega
end
mutual
theorem leftL_ge : ∀ (K : List Ln) (n : Int) (d : Nat), -1 ≤ n → -1 ≤ leftL K n d ∧ leftL K n d ≤ n
  | [], n, d, h => ⟨h, Int.le_refl _⟩
  | x :: r, n, d, h => by
    rw [leftL]
    split
    · exact ⟨h, Int.le_refl _⟩
    · rename_i hn
      have h1 := leftN_ge x n d (by omega)
      have h2 := leftL_ge r (leftN x n d) d h1.1
      omega
theorem leftN_ge : ∀ (x : Ln) (n : Int) (d : Nat), 0 ≤ n → -1 ≤ leftN x n d ∧ leftN x n d < n
  | .mk T h K a, n, d, hn => by
    rw [leftN]
    split
    · omega
    · rename_i h1
      split
      · omega
      · have := leftL_ge K (n - 1 - T.length) (d - 1) (by omega)
        omega
end
end Go.Vm.Ch12
