/- Chapter 10: what its functions compute. -/
import Derived.Test.YtmncbcgcahfdcaaGreatDoorC10o
namespace Go.Vm.Ch10
open _root_.Ch10 (T10 c33)
set_option maxRecDepth 10000
set_option maxHeartbeats 16000000
theorem lexA_blk {b : List UInt8} (h2 : blk b = b.length ∨ (b[blk b]?).map UInt8.toNat = some 35) : lexA (b.drop (blk b)) (blk b) [] = .ok [] (b.drop (blk b + 1)) := by
  rcases h2 with h2 | h2
  · rw [List.drop_eq_nil_of_le (by omega), lexA_nil, List.drop_eq_nil_of_le (by omega)]
  · have hlt : blk b < b.length := by
      refine Classical.byContradiction fun hn => ?_
      rw [List.getElem?_eq_none (by omega)] at h2
      simp at h2
    have h35 : b[blk b].toNat = 35 := by
      rw [List.getElem?_eq_getElem hlt] at h2
      simpa using h2
    have hd : b.drop (blk b) = b[blk b] :: b.drop (blk b + 1) := by simp
    rw [hd, lexA_cons, if_neg (by omega), if_pos h35]
theorem q33 (b : List UInt8) (hl : b.length ≤ 281474976710656) (m : Mem) : callL T10 33 [.str b] m = some (scV (scanS b), m) := by
  have hbl := blk_le b
  obtain ⟨X, hX⟩ : ∃ X, scanS b = X := ⟨_, rfl⟩
  rw [hX]
  unfold scanS at hX
  apply callL_body (vf := c33) rfl rfl
  by_cases h1 : 1000 < b.length
  · have h1i : (1000 : Int) < b.length := by omega
    rw [if_pos h1] at hX
    have h27 := q61 7 1001 []
    subst hX
    simp [c33, h1i, h27, objCells, scV]
  rw [if_neg h1] at hX
  have h1i : ¬ (1000 : Int) < b.length := by omega
  simp [c33, h1i, objCells]
  refine wp_loop (fun n t => ∃ j : Nat, n = b.length - j ∧ j ≤ b.length ∧ t.get 0 = .str b ∧ t.get 2 = .ptr (.loc 2 0) 0 ∧ t.get 3 = .ptr (.loc 3 0) 0 ∧ t.get 4 = .ptr (.loc 4 0) 0 ∧ t.get 5 = AV.int IntKind.i64 j ∧ t.mem = m ∧ t.loc 2 = [sc0] ∧ t.loc 3 = [.cells false [AV.int IntKind.i64 0, AV.int IntKind.i64 0, AV.int IntKind.i64 0]] ∧ t.loc 4 = [sc0] ∧ j + (blk (b.drop j)) = blk b) ?_ b.length _ ?_
  rotate_left
  · exact ⟨0, by simp⟩
  rintro n t ⟨j, hn, hj, e0, e2, e3, e4, e5, hm, l2, l3, l4, hjE⟩
  by_cases hgo : j < b.length ∧ ∃ h : j < b.length, b[j].toNat = 32
  · obtain ⟨hlt, _, h32⟩ := hgo
    have hd : b.drop j = b[j] :: b.drop (j + 1) := by simp
    have w1 : W64 ((j : Int) + 1) ((j + 1 : Nat) : Int) := .mkI rfl (by omega) (by omega)
    have h32i : (b[j].toNat : Int) = 32 := by omega
    rw [hd] at hjE
    unfold blk at hjE
    simp only [List.takeWhile_cons, h32, decide_true, if_true, List.length_cons] at hjE
    simp [e0, e5, hlt, h32i, w1.eq, -Int.natCast_add]
    exact ⟨b.length - (j + 1), by omega, j + 1, rfl, by omega, e2, e3, e4, rfl, hm, l2, l3, l4, by unfold blk; omega⟩
  have hjb : j = blk b := by
    by_cases hlt : j < b.length
    · have h32 : b[j].toNat ≠ 32 := fun h => hgo ⟨hlt, hlt, h⟩
      have hd : b.drop j = b[j] :: b.drop (j + 1) := by simp
      rw [hd] at hjE
      unfold blk at hjE
      simp only [List.takeWhile_cons, h32, decide_false, Bool.false_eq_true, if_false, List.length_nil] at hjE
      exact hjE
    · rw [List.drop_eq_nil_of_le (by omega)] at hjE
      simpa [blk] using hjE
  subst hjb
  clear hgo hjE
  by_cases h2 : blk b = b.length ∨ (b[blk b]?).map UInt8.toNat = some 35
  · rw [if_pos h2] at hX
    have hR := lexA_blk h2
    subst hX
    rcases h2 with h2 | h2
    · have h2i : ¬ (blk b : Int) < b.length := by omega
      simp [e0, e2, e3, e4, e5, h2i, hm]
      refine lp11 b (by omega) 0 m _ _ ?_ ?_ _ (blk b) [] hbl (by simp) ⟨by simp [e0], by simp [e2], by simp [e3], by simp [e4], by simp [l2], by simp [hm]⟩ (by simp [l3]) (by simp [l4, ov]) (by simp [e5]) hR
      · intro s e c he hs l3
        simp at he
      · intro s i T cm he hT hs l3 l4 e5 hi hcm
        simp only [Res.ok.injEq] at he
        obtain ⟨rfl, hcm2⟩ := he
        have hil : i < b.length ∨ ¬ i < b.length := Classical.em _
        have wi : W64 ((i : Int) + 1) ((i + 1 : Nat) : Int) := .mkI rfl (by omega) (by omega)
        rcases hil with hil | hil
        · simp [hs.e0, hs.e2, hs.e3, hs.e4, hs.l2, l3, l4, e5, hs.hm, hil, wi.eq, objCells, scV, hcm2, hcm, -Int.natCast_add]
          omega
        · have hcn : b.drop (i + 1) = [] := List.drop_eq_nil_of_le (by omega)
          simp [hs.e0, hs.e2, hs.e3, hs.e4, hs.l2, l3, l4, e5, hs.hm, hil, wi.eq, objCells, scV, hcm2, hcm, hcn, -Int.natCast_add]
    · have hlt : blk b < b.length := by
        refine Classical.byContradiction fun hn => ?_
        rw [List.getElem?_eq_none (by omega)] at h2
        simp at h2
      have h35 : (b[blk b].toNat : Int) = 35 := by
        rw [List.getElem?_eq_getElem hlt] at h2
        simp at h2; omega
      simp [e0, e2, e3, e4, e5, hlt, h35, hm]
      refine lp11 b (by omega) 0 m _ _ ?_ ?_ _ (blk b) [] hbl (by simp) ⟨by simp [e0], by simp [e2], by simp [e3], by simp [e4], by simp [l2], by simp [hm]⟩ (by simp [l3]) (by simp [l4, ov]) (by simp [e5]) hR
      · intro s e c he hs l3
        simp at he
      · intro s i T cm he hT hs l3 l4 e5 hi hcm
        simp only [Res.ok.injEq] at he
        obtain ⟨rfl, hcm2⟩ := he
        have hil : i < b.length ∨ ¬ i < b.length := Classical.em _
        have wi : W64 ((i : Int) + 1) ((i + 1 : Nat) : Int) := .mkI rfl (by omega) (by omega)
        rcases hil with hil | hil
        · simp [hs.e0, hs.e2, hs.e3, hs.e4, hs.l2, l3, l4, e5, hs.hm, hil, wi.eq, objCells, scV, hcm2, hcm, -Int.natCast_add]
          omega
        · have hcn : b.drop (i + 1) = [] := List.drop_eq_nil_of_le (by omega)
          simp [hs.e0, hs.e2, hs.e3, hs.e4, hs.l2, l3, l4, e5, hs.hm, hil, wi.eq, objCells, scV, hcm2, hcm, hcn, -Int.natCast_add]
  rw [if_neg h2] at hX
  have hlt : blk b < b.length := by
    refine Classical.byContradiction fun hn => ?_
    exact h2 (.inl (by omega))
  have n35 : b[blk b].toNat ≠ 35 := fun h => h2 (.inr (by rw [List.getElem?_eq_getElem hlt]; simp [h]))
  have n35i : ¬ (b[blk b].toNat : Int) = 35 := by omega
  have n32 := blk_at hlt
  have n32i : ¬ (b[blk b].toNat : Int) = 32 := by omega
  have w1 : W64 ((blk b : Int) + 1) ((blk b + 1 : Nat) : Int) := .mkI rfl (by omega) (by omega)
  have hmod : ((blk b : Int)).tmod 2 = ((blk b % 2 : Nat) : Int) := rfl
  by_cases h3 : blk b % 2 = 1
  · rw [if_pos h3] at hX
    have h27 := q61 2 ((blk b + 1 : Nat) : Int) []
    subst hX
    simp [e0, e2, e3, e4, e5, l2, l3, l4, hlt, n35i, n32i, hmod, h3, w1.eq, h27, hm, objCells, scV, -Int.natCast_add]
    rfl
  rw [if_neg h3] at hX
  have h3i : ¬ ((blk b % 2 : Nat) : Int) = 1 := by omega
  by_cases h4 : 12 < blk b
  · rw [if_pos h4] at hX
    have h27 := q61 7 ((blk b + 1 : Nat) : Int) []
    have h4i : (12 : Int) < blk b := by omega
    subst hX
    simp [e0, e2, e3, e4, e5, l2, l3, l4, hlt, n35i, n32i, hmod, h3i, h4i, w1.eq, h27, hm, objCells, scV, -Int.natCast_add, -Int.natCast_emod]
    rfl
  rw [if_neg h4] at hX
  have h4i : ¬ (12 : Int) < blk b := by omega
  have hdiv : ((blk b : Int)).tdiv 2 = ((blk b / 2 : Nat) : Int) := rfl
  have w2 : W64 ((blk b / 2 : Nat) : Int) ((blk b / 2 : Nat) : Int) := .mkI rfl (by omega) (by omega)
  have hd : b.drop (blk b) = b[blk b] :: b.drop (blk b + 1) := by simp
  obtain ⟨R, hR⟩ : ∃ R, lexA (b.drop (blk b)) (blk b) [] = R := ⟨_, rfl⟩
  rw [hR] at hX
  have hne : ∀ T cm, R = .ok T cm → T ≠ [] := fun T cm e => by
    rw [hd, e] at hR
    exact lexA_ne n32 n35 hR
  generalize (blk b / 2 : Nat) = I at *
  simp [e0, e2, e3, e4, e5, l2, l3, l4, hlt, n35i, n32i, hmod, h3i, h4i, hdiv, w2.eq, objCells, -Int.natCast_add, -Int.natCast_emod, -Int.natCast_ediv]
  refine lp11 b (by omega) (I : Int) m _ _ ?_ ?_ _ (blk b) [] hbl (by simp) ⟨by simp [e0], by simp [e2], by simp [e3], by simp [e4], by simp [l2], by simp [hm]⟩ (by simp [l3]) (by simp [l4, ov]) (by simp [e5]) hR
  · intro s e c he hs l3
    subst he
    subst hX
    simp [hs.e2, hs.e3, hs.l2, l3, hs.hm, objCells, scV]
  · intro s i T cm he hT64 hs l3 l4 e5 hi hcm
    have hTne := hne T cm he
    subst he
    simp only at hX
    obtain ⟨n, p, hn, hg, hcol, h0⟩ := last_of hTne
    have hni : (T.length : Int) = ((n + 1 : Nat) : Int) := by omega
    have w3 : W64 (((n + 1 : Nat) : Int) - 1) (n : Int) := .mkI (by omega) (by omega) (by omega)
    have hnn : (T.isEmpty) = false := by cases T with | nil => exact absurd rfl hTne | cons => rfl
    have hpos : (0 : Int) < ((n + 1 : Nat) : Int) := by omega
    have wi : W64 ((i : Int) + 1) ((i + 1 : Nat) : Int) := .mkI rfl (by omega) (by omega)
    have hcm0 : ¬ i < b.length → cm = [] := fun h => by rw [hcm]; exact List.drop_eq_nil_of_le (by omega)
    unfold finS at hX
    rw [hcol] at hX
    by_cases hil : i < b.length
    · by_cases c1 : p.k = 4
      rotate_left
      · rw [if_neg (by simp [c1])] at hX
        subst hX
        simp [hs.e0, hs.e2, hs.e3, hs.e4, hs.l2, l3, l4, e5, hs.hm, hil, wi.eq, hni, w3.eq, hg, c1, objCells, scV, et, hcm, -et_def, -Int.natCast_add]
        omega
      by_cases c2 : p.t = [58]
      rotate_left
      · rw [if_neg (by simp [c2])] at hX
        subst hX
        simp [hs.e0, hs.e2, hs.e3, hs.e4, hs.l2, l3, l4, e5, hs.hm, hil, wi.eq, hni, w3.eq, hg, c1, c2, objCells, scV, et, hcm, -et_def, -Int.natCast_add]
        omega
      rw [if_pos (by simp [c1, c2])] at hX
      by_cases c3 : n = 0
      · subst c3
        rw [if_pos hn, h0 rfl] at hX
        subst hX
        have hw0 : IntKind.i64.wrap 0 = 0 := wrap64 (by omega) (by omega)
        have hg0 : gi T 0 = p := hg
        have h27 := q61 2 p.a []
        simp [hs.e0, hs.e2, hs.e3, hs.e4, hs.l2, l3, l4, e5, hs.hm, hil, wi.eq, hni, hw0, hg0, c1, c2, h27, objCells, scV, et, -et_def, -Int.natCast_add]
        omega
      rw [if_neg (by omega)] at hX
      subst hX
      have hn1 : ¬ ((n + 1 : Nat) : Int) = 1 := by omega
      have hn2 : T.length - 1 = n := by omega
      have hnn2 : (T.take n).isEmpty = false := by
        cases hq : T.take n with
        | nil => have := congrArg List.length hq; rw [List.length_take, List.length_nil] at this; omega
        | cons => rfl
      simp [hs.e0, hs.e2, hs.e3, hs.e4, hs.l2, l3, l4, e5, hs.hm, hil, wi.eq, hni, w3.eq, hg, c1, c2, hn1, hn2, objCells, scV, et, hcm, -et_def, -Int.natCast_add]
      refine ⟨by omega, ?_⟩
      show vv none (!T.isEmpty) tv (T.take n) = vv none (!(T.take n).isEmpty) tv (T.take n)
      rw [hnn2, hnn]
    · have hcn := hcm0 hil
      subst hcn
      by_cases c1 : p.k = 4
      rotate_left
      · rw [if_neg (by simp [c1])] at hX
        subst hX
        simp [hs.e0, hs.e2, hs.e3, hs.e4, hs.l2, l3, l4, e5, hs.hm, hil, wi.eq, hni, w3.eq, hg, c1, objCells, scV, et, -et_def, -Int.natCast_add]
      by_cases c2 : p.t = [58]
      rotate_left
      · rw [if_neg (by simp [c2])] at hX
        subst hX
        simp [hs.e0, hs.e2, hs.e3, hs.e4, hs.l2, l3, l4, e5, hs.hm, hil, wi.eq, hni, w3.eq, hg, c1, c2, objCells, scV, et, -et_def, -Int.natCast_add]
      rw [if_pos (by simp [c1, c2])] at hX
      by_cases c3 : n = 0
      · subst c3
        rw [if_pos hn, h0 rfl] at hX
        subst hX
        have hw0 : IntKind.i64.wrap 0 = 0 := wrap64 (by omega) (by omega)
        have hg0 : gi T 0 = p := hg
        have h27 := q61 2 p.a []
        simp [hs.e0, hs.e2, hs.e3, hs.e4, hs.l2, l3, l4, e5, hs.hm, hil, wi.eq, hni, hw0, hg0, c1, c2, h27, objCells, scV, et, -et_def, -Int.natCast_add]
      rw [if_neg (by omega)] at hX
      subst hX
      have hn1 : ¬ ((n + 1 : Nat) : Int) = 1 := by omega
      have hn2 : T.length - 1 = n := by omega
      have hnn2 : (T.take n).isEmpty = false := by
        cases hq : T.take n with
        | nil => have := congrArg List.length hq; rw [List.length_take, List.length_nil] at this; omega
        | cons => rfl
      simp [hs.e0, hs.e2, hs.e3, hs.e4, hs.l2, l3, l4, e5, hs.hm, hil, wi.eq, hni, w3.eq, hg, c1, c2, hn1, hn2, objCells, scV, et, -et_def, -Int.natCast_add]
      show vv none (!T.isEmpty) tv (T.take n) = vv none (!(T.take n).isEmpty) tv (T.take n)
      rw [hnn2, hnn]
end Go.Vm.Ch10
