/- Chapter 11: what its functions compute. -/
import Derived.Test.YtmlfcgmiaapffaaGreatDoorC11se
namespace Go.Vm.Ch11
open _root_.Ch11 (T11 c41 c14 c15 c16)
set_option maxRecDepth 10000
set_option maxHeartbeats 16000000
def srcR (R : List (List UInt8)) : List UInt8 := R.flatMap (· ++ [10])
def srcF (K : List Ln) : List UInt8 := srcR (rowsL 0 K)
def longR (R : List (List UInt8)) : Bool := R.any fun r => decide (1000 < r.length)
def codeP (K : List Ln) : Int := if codeF K = 0 then (if longR (rowsL 0 K) || decide (65536 < (srcF K).length) then 7 else 0) else codeF K
def printV (K : List Ln) : AV := if codeP K = 0 then .tup [ovn lnV (numL 0 1 K), .str (srcF K), AV.int .i64 0] else .tup [.vec none false [], .str [], AV.int .i64 (codeP K)]
theorem form_vT : ∀ K, formL K = true → allL vT K = true := by
  have key : ∀ N K, szL K < N → formL K = true → allL vT K = true := by
    intro N
    induction N with
    | zero => intro K h; omega
    | succ N ih =>
      intro K
      induction K with
      | nil => intro _ _; rfl
      | cons x r ihr =>
        intro h hf
        obtain ⟨T, hd, K', a⟩ := x
        simp only [szL, szN] at h
        simp only [formL, formN, formP, Bool.and_eq_true] at hf
        simp only [allL, allN, Bool.and_eq_true]
        refine ⟨⟨?_, ih K' (by omega) ?_⟩, ihr (by omega) ?_⟩ <;> simp_all
  exact fun K => key _ K (Nat.lt_succ_self _)
theorem code0 {K : List Ln} (h : codeF K = 0) : formL K = true ∧ crowL K = false ∧ dL K ≤ 7 := by
  unfold codeF at h
  split at h
  · rename_i h1
    split at h
    · rename_i h2
      simp only [Bool.and_eq_true, Bool.not_eq_true', decide_eq_true_eq] at h2
      exact ⟨h1, h2.1, h2.2⟩
    · cases h
  · cases h
theorem srcR_take {R : List (List UInt8)} {i : Nat} (h : i < R.length) : srcR (R.take (i + 1)) = srcR (R.take i) ++ gi R (i : Int) ++ [10] := by
  rw [List.take_succ_eq_append_getElem h, gi_nat h]
  simp only [srcR, List.flatMap_append, List.flatMap_cons, List.flatMap_nil, List.append_nil, List.append_assoc]
theorem srcR_len : ∀ (R : List (List UInt8)), longR R = false → (srcR R).length ≤ 1001 * R.length
  | [], _ => by simp [srcR]
  | r :: R, h => by
    simp only [longR, List.any_cons, Bool.or_eq_false_iff, decide_eq_false_iff_not] at h
    have := srcR_len R h.2
    simp only [srcR, List.flatMap_cons, List.length_append, List.length_cons, List.length_nil] at this ⊢
    omega
theorem longR_take {R : List (List UInt8)} {i : Nat} (h : i < R.length) : longR (R.take (i + 1)) = (longR (R.take i) || decide (1000 < (gi R (i : Int)).length)) := by
  rw [List.take_succ_eq_append_getElem h, gi_nat h]
  simp only [longR, List.any_append, List.any_cons, List.any_nil, Bool.or_false]
theorem longR_app (A B : List (List UInt8)) : longR (A ++ B) = (longR A || longR B) := by simp [longR]
theorem q41 (K : List Ln) (v : AV) (m : Mem) (lo hi : Nat) (hs : szL K ≤ 250000) (hall : allL tkOK K = true) (hK : TV m lo hi K v) (hhi : hi ≤ m.length) :
    ∃ u m', callL T11 41 [v] m = some (u, m') ∧ u = printV K ∧ m.length ≤ m'.length ∧ ∀ i, i < m.length → m'[i]? = m[i]? := by
  have h61 := q61 K v m lo hi (by omega) hall hK
  obtain ⟨⟨es, he, -⟩⟩ := hK.at
  apply callL_exP (vf := c41) rfl rfl
  by_cases hc : codeF K = 0
  rotate_left
  · have hcp : codeP K = codeF K := by unfold codeP; rw [if_neg hc]
    have hcp0 : ¬ codeP K = 0 := by rw [hcp]; exact hc
    simp [c41, he.view, he.nl, h61, hc, printV, hcp0]
    rw [hcp]
  obtain ⟨f1, f2, f3⟩ := code0 hc
  rw [hc] at h61
  obtain ⟨u2, m2, h62, rfl, hl2, hf2⟩ := q62 K v m lo hi hs f3 (form_vT K f1) hK hhi
  have hrl := rowsL_len 0 K
  have hcs := (mea_sz K).1
  have hcp : codeP K = if longR (rowsL 0 K) || decide (65536 < (srcF K).length) then 7 else 0 := by unfold codeP; rw [if_pos hc]
  obtain ⟨R, hR⟩ : ∃ R, rowsL 0 K = R := ⟨_, rfl⟩
  have hsrc : srcF K = srcR R := by rw [srcF, hR]
  rw [hR] at h62 hrl hcp
  rw [hsrc] at hcp
  obtain ⟨N, hN⟩ : ∃ N, numL 0 1 K = N := ⟨_, rfl⟩
  rw [hN] at h62
  simp [c41, he.view, he.nl, h61, h62, unsfV]
  refine wp_loop (fun n t => ∃ (i : Nat), n = R.length - i ∧ i ≤ R.length ∧ t.get 6 = ovn lnV N ∧ t.get 8 = .ptr (.mem m2.length) 0 ∧ t.get 21 = ovn AV.str R ∧ t.get 22 = AV.int .i64 R.length ∧ t.get 23 = AV.int .i64 (i : Nat) ∧ Bld t.mem m2.length (srcR (R.take i)) ∧ longR (R.take i) = false ∧ (∀ j, j < m.length → t.mem[j]? = m[j]?) ∧ m.length ≤ t.mem.length) ?_ R.length _ ?_
  rotate_left
  · refine ⟨0, ?_⟩
    simp
    refine ⟨⟨_, _, by rw [List.getElem?_append_right (Nat.le_refl _), Nat.sub_self]; rfl, .inl rfl, .inl ⟨rfl, rfl⟩⟩, rfl, fun j hj => ?_, by omega⟩
    rw [List.getElem?_append_left (by omega)]
    exact hf2 j hj
  rintro n t ⟨i, hn, hi', e6, e8, e21, e22, e23, hB, hL, hF, hM⟩
  obtain ⟨mm, hmm⟩ : ∃ mm, t.mem = mm := ⟨_, rfl⟩
  rw [hmm] at hB hF hM
  have hsl := srcR_len _ hL
  have htl := List.length_take_le i R
  by_cases hlt : i < R.length
  rotate_left
  · have hli : ¬ (i : Int) < R.length := by omega
    have hie : i = R.length := by omega
    rw [hie, List.take_length] at hB hL hsl
    have h65 := q65 mm m2.length _ hB
    obtain ⟨m5, h66, hf5, hl5⟩ := q66 mm m2.length _ hB (by omega)
    rw [hL] at hcp
    by_cases hbig : 65536 < (srcR R).length
    · have hbi : (65536 : Int) < (srcR R).length := by omega
      have hcp7 : codeP K = 7 := by rw [hcp]; simp [hbig]
      simp [e6, e8, e21, e22, e23, hmm, hli, h65, hbi, printV, hcp7]
      exact ⟨hM, hF⟩
    · have hbi : ¬ (65536 : Int) < (srcR R).length := by omega
      have hcp7 : codeP K = 0 := by rw [hcp]; simp [hbig]
      simp [e6, e8, e21, e22, e23, hmm, hli, h65, h66, hbi, printV, hcp7, hN, hsrc]
      exact ⟨by omega, fun j hj => by rw [hf5 j (by omega)]; exact hF j hj⟩
  have hli : (i : Int) < R.length := by omega
  have w1 : W64 ((i : Int) + 1) ((i + 1 : Nat) : Int) := .mkI rfl (by omega) (by omega)
  have htk := srcR_take hlt
  have hlk := longR_take hlt
  have hsp : R = R.take i ++ gi R (i : Int) :: R.drop (i + 1) := by rw [gi_nat hlt]; simp
  obtain ⟨r, hr⟩ : ∃ r, gi R (i : Int) = r := ⟨_, rfl⟩
  rw [hr] at htk hlk hsp
  by_cases hbig : 1000 < r.length
  · have hbi : (1000 : Int) < r.length := by omega
    have hlg : longR R = true := by rw [hsp, longR_app]; simp [longR, hbig]
    have hcp7 : codeP K = 7 := by rw [hcp]; simp [hlg]
    simp [e8, e21, e22, e23, hmm, hli, hr, hbi, printV, hcp7]
    exact ⟨hM, hF⟩
  · have hbi : ¬ (1000 : Int) < r.length := by omega
    obtain ⟨m3, h63, hB3, hf3, hl3⟩ := q63 mm m2.length _ r hB (by omega)
    obtain ⟨m4, h64, hB4, hf4, hl4⟩ := q64 m3 m2.length _ 10 hB3 (by simp; omega)
    rw [← htk] at hB4
    rw [show (((10 : UInt8).toNat : Nat) : Int) = 10 from rfl] at h64
    simp [e6, e8, e21, e22, e23, hmm, hli, hr, hbi, h63, h64, w1.eq, -Int.natCast_add]
    refine ⟨R.length - (i + 1), by omega, i + 1, rfl, by omega, rfl, hB4, ?_, fun j hj => ?_, by omega⟩
    · rw [hlk, hL]; simp; omega
    · rw [hf4 j (by omega), hf3 j (by omega)]; exact hF j hj
end Go.Vm.Ch11
