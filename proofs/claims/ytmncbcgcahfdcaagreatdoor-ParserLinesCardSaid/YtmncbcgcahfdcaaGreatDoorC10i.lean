/- Chapter 10: what its functions compute. -/
import Derived.Test.YtmncbcgcahfdcaaGreatDoorC10h
namespace Go.Vm.Ch10
open _root_.Ch10 (T10 c22)
set_option maxRecDepth 10000
set_option maxHeartbeats 8000000
def scV : Scn → AV
  | .fault e c => .tup [.agg [AV.int IntKind.i64 0, .vec none false [], .bool false, .str []], .agg [AV.int IntKind.i64 e, AV.int IntKind.i64 0, AV.int IntKind.i64 c]]
  | .ok ind T hd cm => .tup [.agg [AV.int IntKind.i64 ind, ovn tv T, .bool hd, .str cm], .agg [AV.int IntKind.i64 0, AV.int IntKind.i64 0, AV.int IntKind.i64 0]]
theorem lexL_more : ∀ (f : Nat) (x : List UInt8) (i : Nat) (acc T : List Tk) (cm : List UInt8), lexL f x i acc = .ok T cm → ∃ D, T = acc ++ D
  | 0, _, _, _, _, _, h => by simp [lexL] at h
  | f + 1, [], _, acc, T, cm, h => by
    simp only [lexL, Res.ok.injEq] at h
    exact ⟨[], by rw [← h.1]; simp⟩
  | f + 1, c :: r, i, acc, T, cm, h => by
    simp only [lexL] at h
    split at h
    · exact lexL_more f _ _ _ _ _ h
    · split at h
      · simp only [Res.ok.injEq] at h
        exact ⟨[], by rw [← h.1]; simp⟩
      · split at h
        · simp at h
        · split at h
          · obtain ⟨D, hD⟩ := lexL_more f _ _ _ _ _ h
            exact ⟨_, by rw [hD, List.append_assoc]⟩
          · simp at h
theorem lexA_ne {c : UInt8} {r : List UInt8} {i : Nat} {T : List Tk} {cm : List UInt8} (h32 : c.toNat ≠ 32) (h35 : c.toNat ≠ 35) (h : lexA (c :: r) i [] = .ok T cm) : T ≠ [] := by
  rw [lexA_cons, if_neg h32, if_neg h35, if_neg (by simp)] at h
  split at h
  · obtain ⟨D, hD⟩ := lexL_more _ _ _ _ _ _ h
    rw [hD]; simp
  · simp at h
theorem blk_at {b : List UInt8} (h : blk b < b.length) : b[blk b].toNat ≠ 32 := by
  have key : ∀ (l : List UInt8) (h : (l.takeWhile fun b => decide (b.toNat = 32)).length < l.length), (l[(l.takeWhile fun b => decide (b.toNat = 32)).length]).toNat ≠ 32 := by
    intro l
    induction l with
    | nil => intro h; simp at h
    | cons x r ih =>
      intro h
      by_cases hx : x.toNat = 32
      · simp only [List.takeWhile_cons, hx, decide_true, if_true, List.length_cons] at h ⊢
        simpa using ih (by omega)
      · simp only [List.takeWhile_cons, hx, decide_false, Bool.false_eq_true, if_false, List.length_nil] at h ⊢
        simpa using hx
  exact key b h
theorem upto_blk {b : List UInt8} (h : blk b = b.length ∨ (b[blk b]?).map UInt8.toNat = some 35) : (upto 35 b).length = blk b := by
  have key : ∀ l : List UInt8, (blk l = l.length ∨ (l[blk l]?).map UInt8.toNat = some 35) → (upto 35 l).length = blk l := by
    intro l
    induction l with
    | nil => intro _; rfl
    | cons x r ih =>
      intro h
      unfold blk upto at *
      by_cases hx : x.toNat = 32
      · have hx35 : (x == 35) = false := by
          rw [Bool.eq_false_iff]; intro h; rw [beq_iff_eq] at h; subst h; exact absurd hx (by decide)
        simp only [List.takeWhile_cons, hx, hx35, decide_true, Bool.not_false, if_true, List.length_cons] at h ⊢
        have h' : (r.takeWhile fun b => decide (b.toNat = 32)).length = r.length ∨ (r[(r.takeWhile fun b => decide (b.toNat = 32)).length]?).map UInt8.toNat = some 35 := by
          rcases h with h | h
          · left; omega
          · right; simpa using h
        rw [ih h']
      · simp only [List.takeWhile_cons, hx, decide_false, Bool.false_eq_true, if_false, List.length_nil, List.length_cons] at h ⊢
        have h35 : (x == 35) = true := by
          rcases h with h | h
          · omega
          · simp at h
            rw [beq_iff_eq]; exact UInt8.toNat_inj.1 h
        simp [h35]
  exact key b h
theorem last_of {T : List Tk} (h : T ≠ []) : ∃ n p, T.length = n + 1 ∧ gi T (n : Int) = p ∧ colon T = (decide (p.k = 4) && decide (p.t = [58])) ∧ (n = 0 → T.getD 0 ⟨0, [], 0, 0⟩ = p) := by
  have hl : 0 < T.length := List.length_pos_iff.2 h
  refine ⟨T.length - 1, T[T.length - 1], by omega, gi_nat (by omega), ?_, fun h0 => ?_⟩
  · unfold colon
    rw [List.getLast?_eq_getElem?, List.getElem?_eq_getElem (by omega)]
  · have e : T.length - 1 = 0 := h0
    simp only [e]
    simp [List.getD, hl]
theorem q22 (b : List UInt8) (hl : b.length ≤ 281474976710656) (m : Mem) : callL T10 22 [.str b] m = some (scV (scanS b), m) := by
  have h23 := q40 b 41 (fun c => decide (c.toNat = 32)) (fun c _ => q41 c) (by omega) []
  have hb23 : (b.takeWhile fun c => decide (c.toNat = 32)).length = blk b := rfl
  rw [hb23] at h23
  have hbl := blk_le b
  apply callL_body (vf := c22) rfl rfl
  obtain ⟨X, hX⟩ : ∃ X, scanS b = X := ⟨_, rfl⟩
  rw [hX]
  unfold scanS at hX
  by_cases h1 : 1000 < b.length
  · have h1i : (1000 : Int) < b.length := by omega
    rw [if_pos h1] at hX
    subst hX
    simp [c22, h1i, objCells, scV]
  rw [if_neg h1] at hX
  have h1i : ¬ (1000 : Int) < b.length := by omega
  by_cases h2 : blk b = b.length ∨ (b[blk b]?).map UInt8.toNat = some 35
  · rw [if_pos h2] at hX
    have h25 := q42 b 35 (by omega) []
    rw [upto_blk h2] at h25
    subst hX
    rcases h2 with h2 | h2
    · have h2i : (blk b : Int) = b.length := by omega
      simp [c22, h1i, h23, h2i, h25, objCells, scV]
      rfl
    · have hlt : blk b < b.length := by
        refine Classical.byContradiction fun hn => ?_
        rw [List.getElem?_eq_none (by omega)] at h2
        simp at h2
      have h2i : ¬ (blk b : Int) = b.length := by omega
      have h35 : (b[blk b].toNat : Int) = 35 := by
        rw [List.getElem?_eq_getElem hlt] at h2
        simp at h2; omega
      simp [c22, h1i, h23, h2i, hlt, h35, h25, objCells, scV]
      rfl
  rw [if_neg h2] at hX
  have hlt : blk b < b.length := by
    refine Classical.byContradiction fun hn => ?_
    exact h2 (.inl (by omega))
  have h2i : ¬ (blk b : Int) = b.length := by omega
  have n35 : b[blk b].toNat ≠ 35 := fun h => h2 (.inr (by rw [List.getElem?_eq_getElem hlt]; simp [h]))
  have n35i : ¬ (b[blk b].toNat : Int) = 35 := by omega
  have n32 := blk_at hlt
  have w1 : W64 ((blk b : Int) + 1) ((blk b + 1 : Nat) : Int) := .mkI rfl (by omega) (by omega)
  have hmod : ((blk b : Int)).tmod 2 = ((blk b % 2 : Nat) : Int) := rfl
  by_cases h3 : blk b % 2 = 1
  · rw [if_pos h3] at hX
    subst hX
    simp [c22, h1i, h23, h2i, hlt, n35i, hmod, h3, w1.eq, objCells, scV, -Int.natCast_add]
    rfl
  rw [if_neg h3] at hX
  have h3i : ¬ ((blk b % 2 : Nat) : Int) = 1 := by omega
  by_cases h4 : 12 < blk b
  · rw [if_pos h4] at hX
    have h4i : (12 : Int) < blk b := by omega
    subst hX
    simp [c22, h1i, h23, h2i, hlt, n35i, hmod, h3i, h4i, w1.eq, objCells, scV, -Int.natCast_add, -Int.natCast_emod]
    rfl
  rw [if_neg h4] at hX
  have h4i : ¬ (12 : Int) < blk b := by omega
  have hdiv : ((blk b : Int)).tdiv 2 = ((blk b / 2 : Nat) : Int) := rfl
  have w2 : W64 ((blk b / 2 : Nat) : Int) ((blk b / 2 : Nat) : Int) := .mkI rfl (by omega) (by omega)
  have hd : b.drop (blk b) = b[blk b] :: b.drop (blk b + 1) := by simp
  obtain ⟨R, hR⟩ : ∃ R, lexA (b.drop (blk b)) (blk b) [] = R := ⟨_, rfl⟩
  rw [hR] at hX
  have hne : ∀ T cm, R = .ok T cm → T ≠ [] := fun T cm e => by
    rw [hd, e] at hR
    exact lexA_ne n32 n35 hR
  generalize (blk b / 2 : Nat) = I at *
  simp [c22, h1i, h23, h2i, hlt, n35i, hmod, h3i, h4i, hdiv, w2.eq, objCells, -Int.natCast_add, -Int.natCast_emod, -Int.natCast_ediv]
  refine lp10 b (by omega) (I : Int) m R _ ?_ ?_ _ (blk b) [] hbl (by simp) ⟨by simp, by simp, by simp, by simp, by simp, by simp⟩ (by simp) (by simp [ov]) (by simp) hR
  · intro s e c he hs l3
    subst he
    subst hX
    simp [hs.e2, hs.e3, hs.l2, l3, hs.hm, objCells, scV]
  · intro s T cm he hT64 hs l3 l4 ⟨os, l10⟩
    have hTne := hne T cm he
    subst he
    simp only at hX
    obtain ⟨n, p, hn, hg, hcol, h0⟩ := last_of hTne
    have hni : (T.length : Int) = ((n + 1 : Nat) : Int) := by omega
    have w3 : W64 (((n + 1 : Nat) : Int) - 1) (n : Int) := .mkI (by omega) (by omega) (by omega)
    have hnn : (T.isEmpty) = false := by cases T with | nil => exact absurd rfl hTne | cons => rfl
    unfold finS at hX
    rw [hcol] at hX
    by_cases c1 : p.k = 4
    rotate_left
    · rw [if_neg (by simp [c1])] at hX
      subst hX
      simp [hs.e2, hs.e3, hs.e4, hs.l2, l3, l4, l10, hs.hm, hni, w3.eq, hg, c1, objCells, scV, et, -et_def, -Int.natCast_add]
    by_cases c2 : p.t = [58]
    rotate_left
    · rw [if_neg (by simp [c2])] at hX
      subst hX
      simp [hs.e2, hs.e3, hs.e4, hs.l2, l3, l4, l10, hs.hm, hni, w3.eq, hg, c1, c2, objCells, scV, et, -et_def, -Int.natCast_add]
    rw [if_pos (by simp [c1, c2])] at hX
    by_cases c3 : n = 0
    · subst c3
      rw [if_pos hn, h0 rfl] at hX
      subst hX
      have hw0 : IntKind.i64.wrap 0 = 0 := wrap64 (by omega) (by omega)
      have hg0 : gi T 0 = p := hg
      simp [hs.e2, hs.e3, hs.e4, hs.l2, l3, l4, l10, hs.hm, hni, hw0, hg0, c1, c2, objCells, scV, et, -et_def, -Int.natCast_add]
    rw [if_neg (by omega)] at hX
    subst hX
    have hn1 : ¬ ((n + 1 : Nat) : Int) = 1 := by omega
    have hn2 : T.length - 1 = n := by omega
    have hnn2 : (T.take n).isEmpty = false := by
      cases hq : T.take n with
      | nil => have := congrArg List.length hq; rw [List.length_take, List.length_nil] at this; omega
      | cons => rfl
    simp [hs.e2, hs.e3, hs.e4, hs.l2, l3, l4, l10, hs.hm, hni, w3.eq, hg, c1, c2, hn1, hn2, objCells, scV, et, -et_def, -Int.natCast_add]
    show vv none (!T.isEmpty) tv (T.take n) = vv none (!(T.take n).isEmpty) tv (T.take n)
    rw [hnn2, hnn]
end Go.Vm.Ch10
