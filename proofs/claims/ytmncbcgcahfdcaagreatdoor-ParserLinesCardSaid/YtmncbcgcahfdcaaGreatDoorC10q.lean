/- Chapter 10: what its functions compute. -/
import Derived.Test.YtmncbcgcahfdcaaGreatDoorC10i
import Derived.Test.YtmncbcgcahfdcaaGreatDoorVI
namespace Go.Vm.Ch10
open _root_.Ch10 (T10)
set_option maxRecDepth 10000
set_option maxHeartbeats 16000000
theorem lexL_len : ∀ (f : Nat) (x : List UInt8) (i : Nat) (acc T : List Tk) (cm : List UInt8), acc.length ≤ 64 → lexL f x i acc = .ok T cm → T.length ≤ 64
  | 0, _, _, _, _, _, _, h => by simp [lexL] at h
  | f + 1, [], _, acc, T, cm, ha, h => by
    simp only [lexL, Res.ok.injEq] at h
    rw [← h.1]; exact ha
  | f + 1, c :: r, i, acc, T, cm, ha, h => by
    simp only [lexL] at h
    split at h
    · exact lexL_len f _ _ _ _ _ ha h
    · split at h
      · simp only [Res.ok.injEq] at h
        rw [← h.1]; exact ha
      · split at h
        · simp at h
        · split at h
          · exact lexL_len f _ _ _ _ _ (by simp; omega) h
          · simp at h
theorem scan_len {b : List UInt8} {ind : Int} {T : List Tk} {hd : Bool} {cm : List UInt8} (h : scanS b = .ok ind T hd cm) : T.length ≤ 64 := by
  unfold scanS at h
  split at h
  · cases h
  · split at h
    · simp only [Scn.ok.injEq] at h; rw [← h.2.1]; simp
    · split at h
      · cases h
      · split at h
        · cases h
        · split at h
          · cases h
          · rename_i T' cm' hT
            have := lexL_len _ _ _ _ _ _ (by simp) hT
            unfold finS at h
            split at h
            · split at h
              · cases h
              · simp only [Scn.ok.injEq] at h
                rw [← h.2.1]; simp; omega
            · simp only [Scn.ok.injEq] at h
              rw [← h.2.1]; exact this
end Go.Vm.Ch10
