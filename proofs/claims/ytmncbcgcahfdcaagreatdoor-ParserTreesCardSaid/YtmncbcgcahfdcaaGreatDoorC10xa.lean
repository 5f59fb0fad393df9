/- Chapter 10: what its functions compute. -/
import Derived.Test.YtmncbcgcahfdcaaGreatDoorC10x
namespace Go.Vm.Ch10
open _root_.Ch10 (T10 c11)
set_option maxRecDepth 10000
set_option maxHeartbeats 16000000
theorem mostF_snoc (acc : List (Nat × L0)) (d : Nat) (l : L0) : mostF (acc ++ [(d, l)]) = if l.head then d + 1 else d := by simp [mostF]
theorem q11 (s : List UInt8) : callL T10 11 [.str s] [] = some (parV (parR s), []) := by
  apply callL_body (vf := c11) rfl rfl
  by_cases h1 : 65536 < s.length
  · have h1i : (65536 : Int) < s.length := by omega
    simp [c11, h1i, parR, h1, parV, objCells]
  have h1i : ¬ (65536 : Int) < s.length := by omega
  have hll := linesL_len s
  obtain ⟨R, hR⟩ : ∃ R, linesL s = R := ⟨_, rfl⟩
  have h32 := q32 s h1 []
  rw [hR] at h32 hll
  simp [c11, h1i, h32, parR, h1, hR]
  refine wp_loop (fun n t => ∃ (i : Nat) (acc : List (Nat × L0)), n = R.length - i ∧ i ≤ R.length ∧ t.get 0 = .str s ∧ t.get 4 = vv none true stE R ∧ t.get 6 = ov 4 l0V acc ∧ t.get 7 = ov 1 l0d acc ∧ t.get 8 = AV.int .i64 (i : Nat) ∧ t.mem = [] ∧ t.get 3 = .ptr (.loc 3 0) 0 ∧ t.loc 3 = [.cells false [AV.int .i64 0, AV.int .i64 0, AV.int .i64 0]] ∧ acc.length ≤ i ∧ mostF acc ≤ 7 ∧ parF (R.drop i) i acc = parF R 0 []) ?_ R.length _ ?_
  rotate_left
  · exact ⟨0, [], by simp [ov, mostF]⟩
  rintro n t ⟨i, acc, hn, hi, e0, e4, e6, e7, e8, hm, e3, l3, hal, hmo, hE⟩
  by_cases hlt : i < R.length
  rotate_left
  · have hli : ¬ (i : Int) < R.length := by omega
    rw [List.drop_eq_nil_of_le (by omega)] at hE
    simp only [parF] at hE
    have h34 : callL T10 34 [vv none (!acc.isEmpty) l0V acc, vv none (!acc.isEmpty) l0d acc, AV.int .i64 0] [] = _ := q34 (acc.length + 1) 0 acc (!acc.isEmpty) (!acc.isEmpty) (by omega) (by omega) (by omega)
    simp [e3, e4, e6, e7, e8, hm, hli, ← hE, parV, h34, lnsV_eq, l3, objCells]
  have hli : (i : Int) < R.length := by omega
  obtain ⟨row, hrow⟩ : ∃ x, gi R (i : Int) = x := ⟨_, rfl⟩
  have hd : R.drop i = row :: R.drop (i + 1) := by rw [← hrow, gi_nat hlt]; simp
  have hmem : row ∈ linesL s := by rw [hR, ← hrow, gi_nat hlt]; exact List.getElem_mem _
  have h33 := q33 row (by have := linesL_row hmem; omega) []
  rw [hd] at hE
  have w1 : W64 ((i : Int) + 1) ((i + 1 : Nat) : Int) := .mkI rfl (by omega) (by omega)
  cases hsc : scanS row with
  | fault e c =>
    have he := scan_e hsc
    simp only [parF, hsc] at hE
    simp only [hsc, scV] at h33
    simp [e0, e3, e4, e6, e7, e8, hm, hli, hrow, h33, he, ← hE, parV, l3, objCells, w1.eq, -Int.natCast_add]
  | ok ind T hd cm =>
    obtain ⟨d, rfl, hd6⟩ := scan_ind hsc
    have hT := scan_len hsc
    simp only [parF, hsc] at hE
    simp only [hsc, scV] at h33
    cases T with
    | nil =>
      simp only at hE
      simp [e0, e3, e4, e6, e7, e8, hm, hli, hrow, h33, l3, objCells, w1.eq, -Int.natCast_add]
      exact ⟨R.length - (i + 1), by omega, i + 1, rfl, by omega, acc, rfl, rfl, rfl, by omega, hmo, hE⟩
    | cons x T =>
      simp only at hE
      have hTl : ¬ (T.length : Int) + 1 = 0 := by omega
      have hg0 : gi (x :: T) (0 : Int) = x := rfl
      have fin : ∀ acc' : List (Nat × L0), acc' = acc ++ [(d, ⟨x :: T, hd, (i + 1 : Nat)⟩)] → parF (R.drop (i + 1)) (i + 1) acc' = parF R 0 [] → acc'.length ≤ i + 1 ∧ mostF acc' ≤ 7 ∧ parF (R.drop (i + 1)) (i + 1) acc' = parF R 0 [] := by
        rintro _ rfl hE'
        refine ⟨by simp; omega, ?_, hE'⟩
        rw [mostF_snoc]; dsimp only; split <;> omega
      rcases List.eq_nil_or_concat acc with rfl | ⟨A, ⟨d0, y⟩, hA⟩
      · by_cases hc : 0 < d
        · have hci : (0 : Int) < d := by omega
          rw [if_pos (by simpa [mostF] using hc)] at hE
          simp [e0, e3, e4, e6, e7, e8, hm, hli, hrow, h33, l3, objCells, w1.eq, hc, hg0, et, ← hE, parV, -et_def, -Int.natCast_add]
        · have hci : ¬ (0 : Int) < d := by omega
          rw [if_neg (by simpa [mostF] using hc)] at hE
          simp [e0, e3, e4, e6, e7, e8, hm, hli, hrow, h33, l3, objCells, w1.eq, hc, hg0, et, -et_def, -Int.natCast_add]
          exact ⟨R.length - (i + 1), by omega, i + 1, rfl, by omega, [] ++ [(d, ⟨x :: T, hd, (i + 1 : Nat)⟩)], rfl, rfl, rfl, fin _ rfl hE⟩
      · rw [List.concat_eq_append] at hA
        have hAl : acc.length = A.length + 1 := by simp [hA]
        obtain ⟨k, hk⟩ : ∃ k, A.length = k := ⟨_, rfl⟩
        rw [hk] at hAl
        have hga : gi acc (k : Int) = (d0, y) := by rw [gi_nat (by omega)]; simp [hA, ← hk]
        have hmf : mostF acc = if y.head then d0 + 1 else d0 := by rw [hA, mostF_snoc]
        have w2 : W64 ((acc.length : Int) - 1) (k : Int) := .mkI (by omega) (by omega) (by omega)
        have w3 : W64 ((d0 : Int) + 1) ((d0 + 1 : Nat) : Int) := .mkI rfl (by omega) (by rw [hmf] at hmo; split at hmo <;> omega)
        have hk1 : (k : Int) < acc.length := by omega
        have hk2 : (0 : Int) < acc.length := by omega
        have hk3 : 0 < acc.length := by omega
        have hk4 : k < acc.length := by omega
        obtain ⟨yt, yh, ya⟩ := y
        cases yh with
        | true =>
          simp only [if_true] at hmf
          by_cases hc : d0 + 1 < d
          · have hci : ((d0 + 1 : Nat) : Int) < (d : Int) := by omega
            rw [if_pos (by rw [hmf]; exact hci)] at hE
            simp [e0, e3, e4, e6, e7, e8, hm, hli, hrow, h33, l3, objCells, w1.eq, w2.eq, w3.eq, hga, hk1, hk3, hci, hg0, et, ← hE, parV, -et_def, -Int.natCast_add]
          · have hci : ¬ ((d0 + 1 : Nat) : Int) < (d : Int) := by omega
            rw [if_neg (by rw [hmf]; exact hci)] at hE
            simp [e0, e3, e4, e6, e7, e8, hm, hli, hrow, h33, l3, objCells, w1.eq, w2.eq, w3.eq, hga, hk1, hk3, hci, hg0, et, -et_def, -Int.natCast_add]
            exact ⟨by omega, by omega, R.length - (i + 1), by omega, i + 1, rfl, by omega, acc ++ [(d, ⟨x :: T, hd, (i + 1 : Nat)⟩)], ov_snoc (e := l0V) (x := (d, ⟨x :: T, hd, (i + 1 : Nat)⟩)), ov_snoc (e := l0d) (x := (d, ⟨x :: T, hd, (i + 1 : Nat)⟩)), rfl, fin _ rfl hE⟩
        | false =>
          simp only [Bool.false_eq_true, if_false] at hmf
          by_cases hc : d0 < d
          · have hci : (d0 : Int) < (d : Int) := by omega
            rw [if_pos (by rw [hmf]; exact hci)] at hE
            simp [e0, e3, e4, e6, e7, e8, hm, hli, hrow, h33, l3, objCells, w1.eq, w2.eq, w3.eq, hga, hk1, hk3, hci, hg0, et, ← hE, parV, -et_def, -Int.natCast_add]
          · have hci : ¬ (d0 : Int) < (d : Int) := by omega
            rw [if_neg (by rw [hmf]; exact hci)] at hE
            simp [e0, e3, e4, e6, e7, e8, hm, hli, hrow, h33, l3, objCells, w1.eq, w2.eq, w3.eq, hga, hk1, hk3, hci, hg0, et, -et_def, -Int.natCast_add]
            exact ⟨by omega, by omega, R.length - (i + 1), by omega, i + 1, rfl, by omega, acc ++ [(d, ⟨x :: T, hd, (i + 1 : Nat)⟩)], ov_snoc (e := l0V) (x := (d, ⟨x :: T, hd, (i + 1 : Nat)⟩)), ov_snoc (e := l0d) (x := (d, ⟨x :: T, hd, (i + 1 : Nat)⟩)), rfl, fin _ rfl hE⟩
end Go.Vm.Ch10
