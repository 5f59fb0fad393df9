/- Chapter 09: what its functions compute. -/
import Derived.Test.YtijbapbijpdpiaaDoorC09p
import Derived.Test.YtijbapbijpdpiaaDoorVI
namespace Go.Vm.Ch09
open _root_.Ch09 (T09 c12 c3)
set_option maxRecDepth 10000
set_option maxHeartbeats 16000000
theorem q12 (T : List Tk) (n1 n2 : Bool) (hl : T.length ≤ 1000000) (m : Mem) : callL T09 12 [vv none n1 tv T, vv none n2 tv T] m = some (.bool true, m) := by
  apply callL_body (vf := c12) rfl rfl
  simp [c12]
  refine wp_loop (fun n t => ∃ j : Nat, n = T.length - j ∧ j ≤ T.length ∧ t.get 0 = vv none n1 tv T ∧ t.get 1 = vv none n2 tv T ∧ t.get 5 = AV.int IntKind.i64 j ∧ t.mem = m) ?_ T.length _ ?_
  rotate_left
  · exact ⟨0, by simp⟩
  rintro n t ⟨j, hn, hj, e0, e1, e5, hm⟩
  by_cases hlt : j < T.length
  · have w1 : W64 ((j : Int) + 1) ((j + 1 : Nat) : Int) := .mkI rfl (by omega) (by omega)
    simp [e0, e1, e5, hlt, gi_nat hlt, w1.eq, et, -et_def, -Int.natCast_add]
    exact ⟨T.length - (j + 1), by omega, j + 1, rfl, by omega, rfl, hm⟩
  · simp [e0, e5, hlt, hm]
theorem lexL_len : ∀ (f : Nat) (x : List UInt8) (i : Nat) (acc T : List Tk) (cm : List UInt8), acc.length ≤ 64 → lexL f x i acc = .ok T cm → T.length ≤ 64
  | 0, _, _, _, _, _, _, h => by simp [lexL] at h
  | f + 1, [], _, acc, T, cm, ha, h => by
    simp only [lexL, Res.ok.injEq] at h
    rw [← h.1]; exact ha
  | f + 1, c :: r, i, acc, T, cm, ha, h => by
    simp only [lexL] at h
    split at h
    · exact lexL_len f _ _ _ _ _ ha h
    · split at h
      · simp only [Res.ok.injEq] at h
        rw [← h.1]; exact ha
      · split at h
        · simp at h
        · split at h
          · exact lexL_len f _ _ _ _ _ (by simp; omega) h
          · simp at h
theorem scan_len {b : List UInt8} {ind : Int} {T : List Tk} {hd : Bool} {cm : List UInt8} (h : scanS b = .ok ind T hd cm) : T.length ≤ 64 := by
  unfold scanS at h
  split at h
  · cases h
  · split at h
    · simp only [Scn.ok.injEq] at h; rw [← h.2.1]; simp
    · split at h
      · cases h
      · split at h
        · cases h
        · split at h
          · cases h
          · rename_i T' cm' hT
            have := lexL_len _ _ _ _ _ _ (by simp) hT
            unfold finS at h
            split at h
            · split at h
              · cases h
              · simp only [Scn.ok.injEq] at h
                rw [← h.2.1]; simp; omega
            · simp only [Scn.ok.injEq] at h
              rw [← h.2.1]; exact this
theorem law3 (b : List UInt8) (_ : inL b.length) : callL T09 3 [.str b] [] = some (.bool true, []) := by
  apply callL_body (vf := c3) rfl rfl
  have ha := awake
  by_cases h1 : 1100 < b.length
  · have h1i : (1100 : Int) < b.length := by omega
    simp [c3, ha, h1i]
  have h1i : ¬ (1100 : Int) < b.length := by omega
  have h10 := q10 b (by omega) []
  have h11 := q11 b (by omega) []
  cases hs : scanS b with
  | fault e c =>
    rw [hs] at h10 h11
    simp only [scV] at h10 h11
    have h12 := q12 [] false false (by simp) []
    simp [vv] at h12
    simp [c3, ha, h1i, h10, h11, h12, objCells]
  | ok ind T hd cm =>
    have hT := scan_len hs
    rw [hs] at h10 h11
    simp only [scV] at h10 h11
    have h12 := q12 T (!T.isEmpty) (!T.isEmpty) (by omega) []
    simp [c3, ha, h1i, h10, h11, h12, objCells]
end Go.Vm.Ch09
