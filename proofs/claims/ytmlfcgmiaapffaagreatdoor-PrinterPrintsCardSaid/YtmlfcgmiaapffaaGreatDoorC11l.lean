/- Chapter 11: what its functions compute. -/
import Derived.Test.YtmlfcgmiaapffaaGreatDoorC11k
namespace Go.Vm.Ch11
open _root_.Ch11 (T11 c69)
set_option maxRecDepth 10000
set_option maxHeartbeats 16000000
theorem q28_dig (s : List UInt8) (hl : s.length ≤ 1000000) (i : Nat) (hi : i < s.length) (m : Mem) (hdg : dg s[i] = true) : RefTok s i m := by
  have hd : s.drop i = s[i] :: s.drop (i + 1) := by simp
  have hc' : 48 ≤ s[i].toNat ∧ s[i].toNat ≤ 57 := of_decide_eq_true hdg
  have hL : letterN s[i].toNat = false := by unfold letterN; rw [decide_eq_false_iff_not]; omega
  have h45i : ¬ (s[i].toNat : Int) = 45 := by omega
  have hsg : sgn (s[i] :: s.drop (i + 1)) = 0 := by
    unfold sgn; rw [if_neg]; intro h; rw [List.head?_cons] at h; rw [Option.some.inj h] at hc'; exact absurd hc' (by decide)
  have hN : dg s[i] = true ∨ s[i].toNat = 45 := .inl hdg
  have h41 := q100 s[i]
  rw [hdg] at h41
  have h32 := q98 s[i]
  rw [hL] at h32
  have hLn : ¬ letterN s[i].toNat = true := by rw [hL]; decide
  have h40 := q99 s false (by omega) i (by omega) []
  obtain ⟨x, hx⟩ : ∃ x, s[i] :: s.drop (i + 1) = x := ⟨_, rfl⟩
  have hxd : s.drop i = x.drop (sgn x) := by rw [← hx, hsg]; simp
  have hnd : ((s.drop i).takeWhile (pw false)) = nd x := by rw [pw_f, hxd]; rfl
  rw [hnd] at h40
  have hsg' : sgn x = 0 := by rw [← hx]; exact hsg
  have hnE : nE x = (nd x).length := by unfold nE; rw [hsg']; exact Nat.zero_add _
  have hxl : x.length = s.length - i := by rw [← hx, ← hd]; simp
  have hxs : ∀ j, x[j]? = s[i + j]? := fun j => by rw [← hx, ← hd, List.getElem?_drop]
  have hle := nE_le x
  have w1 : W64 ((i : Int) + 1) ((i + 1 : Nat) : Int) := .mkI rfl (by omega) (by omega)
  have wF : W64 (((i : Nat) : Int) + 1) (((i + 1 : Nat)) : Int) := .mkI rfl (by omega) (by omega)
  unfold RefTok
  rw [hd, hx]
  have hlex : lexT x = ⟨2, [], if numE x = 0 then (prs (x.take (nE x))).1 else 0, if numE x = 0 then nE x else 0, numE x⟩ := by
    rw [← hx]; simp only [lexT]; rw [if_neg hLn, if_pos hN]
  rw [hlex]
  simp only
  obtain ⟨E, hE⟩ : ∃ E, i + (nd x).length = E := ⟨_, rfl⟩
  rw [hE] at h40
  have hEi : E = i + nE x := by omega
  have hEl : E ≤ s.length := by omega
  have hsub : (s.take E).drop i = x.take (nE x) := by rw [List.drop_take, hd, hx, hEi, Nat.add_sub_cancel_left]
  have h42 := q102 (x.take (nE x)) (by simp; omega) []
  have w16 : W64 ((E : Int) - ((i : Nat) : Int)) ((nd x).length : Int) := .mkI (by omega) (by omega) (by omega)
  have hpaE : partAt x (nE x) = (match s[E]? with | some b => pd b | none => false) := by unfold partAt; rw [hxs, ← hEi]; cases s[E]? <;> rfl
  by_cases hA : (nd x).length = 0
  · have hEF : (E : Int) = ((i : Nat) : Int) := by omega
    have hb : numBad x = true := by unfold numBad; simp [hA]
    have hn2 : numE x = 2 := by unfold numE; rw [if_pos hb]
    rw [hn2]
    refine ⟨0, [], 0, ((i + 1 : Nat) : Int), (E : Int), ?_, fun h => by cases h⟩
    apply callL_body (vf := c69) rfl rfl
    simp [c69, hi, h32, h41, h45i, h40, w1.eq, objCells, hEF, -Int.natCast_add]
  obtain ⟨y, hy, hbi⟩ := bad_iff hA
  have hEF : ¬ (E : Int) = ((i : Nat) : Int) := by omega
  have hFl : i < s.length := by omega
  have hFy : s[i] = y := by
    rw [← hxd, List.head?_eq_getElem?, List.getElem?_drop] at hy
    simp only [Nat.add_zero] at hy
    rw [List.getElem?_eq_getElem hFl] at hy
    exact Option.some.inj hy
  subst hFy
  have hFli : (((i : Nat)) : Int) < s.length := by omega
  have hcases := fun hb : numBad x = false => prs_cases hb
  obtain ⟨v, er, hprs⟩ : ∃ v er, prs (x.take (nE x)) = (v, er) := ⟨_, _, rfl⟩
  rw [hprs] at hcases h42
  obtain ⟨ev, h42, htk, hvw⟩ : ∃ ev, callL T11 102 [.str (x.take (nE x)), AV.int .i64 10, AV.int .i64 64] [] = some (.tup [AV.int .i64 v, ev], []) ∧ (∀ s t, takeV s t ev = (ev, s)) ∧ ev.view = ev := ⟨_, h42, by cases er <;> exact fun _ _ => rfl, by cases er <;> rfl⟩
  by_cases hlt : E < s.length
  · have h31 : callL T11 101 [.int .u8 s[E].toNat] [] = some (.bool (pd s[E]), []) := q101 s[E]
    rw [List.getElem?_eq_getElem hlt] at hpaE
    simp only at hpaE
    cases hp : pd s[E] with
    | true =>
      rw [hp] at h31 hpaE
      have hb : numBad x = true := hbi.2 (.inl hpaE)
      have hn2 : numE x = 2 := by unfold numE; rw [if_pos hb]
      rw [hn2]
      refine ⟨0, [], 0, ((i + 1 : Nat) : Int), (E : Int), ?_, fun h => by cases h⟩
      apply callL_body (vf := c69) rfl rfl
      simp [c69, hi, h32, h41, h45i, h40, w1.eq, objCells, hEF, hlt, h31, -Int.natCast_add]
    | false =>
      rw [hp] at h31 hpaE
      by_cases hz : (s[i].toNat : Int) = 48
      · have hy48 : s[i] = 48 := (u8_48 _).2 hz
        have h32' : callL T11 98 [.int .u8 48] [] = some (.bool false, []) := by rw [← hz]; exact h32
        have h41' : callL T11 100 [.int .u8 48] [] = some (.bool true, []) := by rw [← hz]; exact h41
        by_cases hgt : (((i + 1 : Nat)) : Int) < E
        · skip
          have hb : numBad x = true := hbi.2 (.inr ⟨hy48, .inl (by omega)⟩)
          have hn2 : numE x = 2 := by unfold numE; rw [if_pos hb]
          rw [hn2]
          refine ⟨0, [], 0, ((i + 1 : Nat) : Int), (E : Int), ?_, fun h => by cases h⟩
          apply callL_body (vf := c69) rfl rfl
          simp [c69, hi, h40, w1.eq, objCells, hlt, h31, hEF, hgt, hz, h32', h41', -Int.natCast_add]
        have hb : numBad x = false := Bool.eq_false_iff.2 fun h => by rcases hbi.1 h with h | ⟨_, h | h⟩ <;> first | omega | (rw [hpaE] at h; cases h)
        have hn : numE x = if er = true ∨ 1000000000000000 < v ∨ v < -1000000000000000 then 6 else 0 := by unfold numE; rw [if_neg (by rw [hb]; decide), hprs]
        have hcs := hcases hb
        rw [hn]
        by_cases c82 : (16 : Int) < (nd x).length
        · have h6 : er = true ∨ 1000000000000000 < v ∨ v < -1000000000000000 := by
            rcases hcs with ⟨v', e1, e2⟩ | ⟨v', e1, e2⟩
            · simp only [Prod.mk.injEq] at e1; rw [e1.1]; exact .inr (e2 (by omega))
            · simp only [Prod.mk.injEq] at e1; exact .inl e1.2
          rw [if_pos h6]
          refine ⟨0, [], 0, ((i + 1 : Nat) : Int), (E : Int), ?_, fun h => by cases h⟩
          apply callL_body (vf := c69) rfl rfl
          simp [c69, hi, h40, w1.eq, objCells, hlt, h31, hgt, hz, h32', h41', hEF, w16.eq, hsub, c82, -Int.natCast_add]
        by_cases g1 : 1000000000000000 < v
        · skip
          rw [if_pos (.inr (.inl g1))]
          refine ⟨0, [], 0, ((i + 1 : Nat) : Int), (E : Int), ?_, fun h => by cases h⟩
          apply callL_body (vf := c69) rfl rfl
          simp [c69, hi, h40, w1.eq, objCells, hlt, h31, hgt, hz, h32', h41', hEF, w16.eq, hsub, c82, h42, htk, hvw, g1, -Int.natCast_add]
          omega
        by_cases g2 : v < -1000000000000000
        · skip
          rw [if_pos (.inr (.inr g2))]
          refine ⟨0, [], 0, ((i + 1 : Nat) : Int), (E : Int), ?_, fun h => by cases h⟩
          apply callL_body (vf := c69) rfl rfl
          simp [c69, hi, h40, w1.eq, objCells, hlt, h31, hgt, hz, h32', h41', hEF, w16.eq, hsub, c82, h42, htk, hvw, g1, g2, -Int.natCast_add]
          omega
        have her : er = false := by
          rcases hcs with ⟨v', e1, e2⟩ | ⟨v', e1, e2⟩
          · simp only [Prod.mk.injEq] at e1; exact e1.2
          · simp only [Prod.mk.injEq] at e1
            rw [← e1.1] at e2
            rcases e2 with e2 | e2
            · exact absurd e2 g1
            · exact absurd e2 g2
        rw [if_neg (by rw [her]; simp [g1, g2])]
        refine ⟨2, [], v, ((i + 1 : Nat) : Int), (E : Int), ?_, fun _ => ⟨rfl, rfl, by rw [if_pos rfl, hprs], rfl, by rw [if_pos rfl, hEi]⟩⟩
        apply callL_body (vf := c69) rfl rfl
        simp [c69, hi, h40, w1.eq, objCells, hlt, h31, hgt, hz, h32', h41', hEF, w16.eq, hsub, c82, h42, htk, hvw, g1, g2, -Int.natCast_add]
        omega
      have hy48 : ¬ s[i] = 48 := fun h => hz ((u8_48 _).1 h)
      have hb : numBad x = false := Bool.eq_false_iff.2 fun h => by rcases hbi.1 h with h | ⟨h, _⟩ <;> first | exact hy48 h | (rw [hpaE] at h; cases h)
      have hn : numE x = if er = true ∨ 1000000000000000 < v ∨ v < -1000000000000000 then 6 else 0 := by unfold numE; rw [if_neg (by rw [hb]; decide), hprs]
      have hcs := hcases hb
      rw [hn]
      by_cases c82 : (16 : Int) < (nd x).length
      · have h6 : er = true ∨ 1000000000000000 < v ∨ v < -1000000000000000 := by
          rcases hcs with ⟨v', e1, e2⟩ | ⟨v', e1, e2⟩
          · simp only [Prod.mk.injEq] at e1; rw [e1.1]; exact .inr (e2 (by omega))
          · simp only [Prod.mk.injEq] at e1; exact .inl e1.2
        rw [if_pos h6]
        refine ⟨0, [], 0, ((i + 1 : Nat) : Int), (E : Int), ?_, fun h => by cases h⟩
        apply callL_body (vf := c69) rfl rfl
        simp [c69, hi, h32, h41, h45i, h40, w1.eq, objCells, hlt, h31, hz, hEF, w16.eq, hsub, c82, -Int.natCast_add]
      by_cases g1 : 1000000000000000 < v
      · skip
        rw [if_pos (.inr (.inl g1))]
        refine ⟨0, [], 0, ((i + 1 : Nat) : Int), (E : Int), ?_, fun h => by cases h⟩
        apply callL_body (vf := c69) rfl rfl
        simp [c69, hi, h32, h41, h45i, h40, w1.eq, objCells, hlt, h31, hz, hEF, w16.eq, hsub, c82, h42, htk, hvw, g1, -Int.natCast_add]
        omega
      by_cases g2 : v < -1000000000000000
      · skip
        rw [if_pos (.inr (.inr g2))]
        refine ⟨0, [], 0, ((i + 1 : Nat) : Int), (E : Int), ?_, fun h => by cases h⟩
        apply callL_body (vf := c69) rfl rfl
        simp [c69, hi, h32, h41, h45i, h40, w1.eq, objCells, hlt, h31, hz, hEF, w16.eq, hsub, c82, h42, htk, hvw, g1, g2, -Int.natCast_add]
        omega
      have her : er = false := by
        rcases hcs with ⟨v', e1, e2⟩ | ⟨v', e1, e2⟩
        · simp only [Prod.mk.injEq] at e1; exact e1.2
        · simp only [Prod.mk.injEq] at e1
          rw [← e1.1] at e2
          rcases e2 with e2 | e2
          · exact absurd e2 g1
          · exact absurd e2 g2
      rw [if_neg (by rw [her]; simp [g1, g2])]
      refine ⟨2, [], v, ((i + 1 : Nat) : Int), (E : Int), ?_, fun _ => ⟨rfl, rfl, by rw [if_pos rfl, hprs], rfl, by rw [if_pos rfl, hEi]⟩⟩
      apply callL_body (vf := c69) rfl rfl
      simp [c69, hi, h32, h41, h45i, h40, w1.eq, objCells, hlt, h31, hz, hEF, w16.eq, hsub, c82, h42, htk, hvw, g1, g2, -Int.natCast_add]
      omega
  · rw [List.getElem?_eq_none (by omega)] at hpaE
    simp only at hpaE
    have hlti : ¬ (E : Int) < s.length := by omega
    by_cases hz : (s[i].toNat : Int) = 48
    · have hy48 : s[i] = 48 := (u8_48 _).2 hz
      have h32' : callL T11 98 [.int .u8 48] [] = some (.bool false, []) := by rw [← hz]; exact h32
      have h41' : callL T11 100 [.int .u8 48] [] = some (.bool true, []) := by rw [← hz]; exact h41
      by_cases hgt : (((i + 1 : Nat)) : Int) < E
      · skip
        have hb : numBad x = true := hbi.2 (.inr ⟨hy48, .inl (by omega)⟩)
        have hn2 : numE x = 2 := by unfold numE; rw [if_pos hb]
        rw [hn2]
        refine ⟨0, [], 0, ((i + 1 : Nat) : Int), (E : Int), ?_, fun h => by cases h⟩
        apply callL_body (vf := c69) rfl rfl
        simp [c69, hi, h40, w1.eq, objCells, hlti, hEF, hgt, hz, h32', h41', -Int.natCast_add]
      have hb : numBad x = false := Bool.eq_false_iff.2 fun h => by rcases hbi.1 h with h | ⟨_, h | h⟩ <;> first | omega | (rw [hpaE] at h; cases h)
      have hn : numE x = if er = true ∨ 1000000000000000 < v ∨ v < -1000000000000000 then 6 else 0 := by unfold numE; rw [if_neg (by rw [hb]; decide), hprs]
      have hcs := hcases hb
      rw [hn]
      by_cases c82 : (16 : Int) < (nd x).length
      · have h6 : er = true ∨ 1000000000000000 < v ∨ v < -1000000000000000 := by
          rcases hcs with ⟨v', e1, e2⟩ | ⟨v', e1, e2⟩
          · simp only [Prod.mk.injEq] at e1; rw [e1.1]; exact .inr (e2 (by omega))
          · simp only [Prod.mk.injEq] at e1; exact .inl e1.2
        rw [if_pos h6]
        refine ⟨0, [], 0, ((i + 1 : Nat) : Int), (E : Int), ?_, fun h => by cases h⟩
        apply callL_body (vf := c69) rfl rfl
        simp [c69, hi, h40, w1.eq, objCells, hlti, hgt, hz, h32', h41', hEF, w16.eq, hsub, c82, -Int.natCast_add]
      by_cases g1 : 1000000000000000 < v
      · skip
        rw [if_pos (.inr (.inl g1))]
        refine ⟨0, [], 0, ((i + 1 : Nat) : Int), (E : Int), ?_, fun h => by cases h⟩
        apply callL_body (vf := c69) rfl rfl
        simp [c69, hi, h40, w1.eq, objCells, hlti, hgt, hz, h32', h41', hEF, w16.eq, hsub, c82, h42, htk, hvw, g1, -Int.natCast_add]
        omega
      by_cases g2 : v < -1000000000000000
      · skip
        rw [if_pos (.inr (.inr g2))]
        refine ⟨0, [], 0, ((i + 1 : Nat) : Int), (E : Int), ?_, fun h => by cases h⟩
        apply callL_body (vf := c69) rfl rfl
        simp [c69, hi, h40, w1.eq, objCells, hlti, hgt, hz, h32', h41', hEF, w16.eq, hsub, c82, h42, htk, hvw, g1, g2, -Int.natCast_add]
        omega
      have her : er = false := by
        rcases hcs with ⟨v', e1, e2⟩ | ⟨v', e1, e2⟩
        · simp only [Prod.mk.injEq] at e1; exact e1.2
        · simp only [Prod.mk.injEq] at e1
          rw [← e1.1] at e2
          rcases e2 with e2 | e2
          · exact absurd e2 g1
          · exact absurd e2 g2
      rw [if_neg (by rw [her]; simp [g1, g2])]
      refine ⟨2, [], v, ((i + 1 : Nat) : Int), (E : Int), ?_, fun _ => ⟨rfl, rfl, by rw [if_pos rfl, hprs], rfl, by rw [if_pos rfl, hEi]⟩⟩
      apply callL_body (vf := c69) rfl rfl
      simp [c69, hi, h40, w1.eq, objCells, hlti, hgt, hz, h32', h41', hEF, w16.eq, hsub, c82, h42, htk, hvw, g1, g2, -Int.natCast_add]
      omega
    have hy48 : ¬ s[i] = 48 := fun h => hz ((u8_48 _).1 h)
    have hb : numBad x = false := Bool.eq_false_iff.2 fun h => by rcases hbi.1 h with h | ⟨h, _⟩ <;> first | exact hy48 h | (rw [hpaE] at h; cases h)
    have hn : numE x = if er = true ∨ 1000000000000000 < v ∨ v < -1000000000000000 then 6 else 0 := by unfold numE; rw [if_neg (by rw [hb]; decide), hprs]
    have hcs := hcases hb
    rw [hn]
    by_cases c82 : (16 : Int) < (nd x).length
    · have h6 : er = true ∨ 1000000000000000 < v ∨ v < -1000000000000000 := by
        rcases hcs with ⟨v', e1, e2⟩ | ⟨v', e1, e2⟩
        · simp only [Prod.mk.injEq] at e1; rw [e1.1]; exact .inr (e2 (by omega))
        · simp only [Prod.mk.injEq] at e1; exact .inl e1.2
      rw [if_pos h6]
      refine ⟨0, [], 0, ((i + 1 : Nat) : Int), (E : Int), ?_, fun h => by cases h⟩
      apply callL_body (vf := c69) rfl rfl
      simp [c69, hi, h32, h41, h45i, h40, w1.eq, objCells, hlti, hz, hEF, w16.eq, hsub, c82, -Int.natCast_add]
    by_cases g1 : 1000000000000000 < v
    · skip
      rw [if_pos (.inr (.inl g1))]
      refine ⟨0, [], 0, ((i + 1 : Nat) : Int), (E : Int), ?_, fun h => by cases h⟩
      apply callL_body (vf := c69) rfl rfl
      simp [c69, hi, h32, h41, h45i, h40, w1.eq, objCells, hlti, hz, hEF, w16.eq, hsub, c82, h42, htk, hvw, g1, -Int.natCast_add]
      omega
    by_cases g2 : v < -1000000000000000
    · skip
      rw [if_pos (.inr (.inr g2))]
      refine ⟨0, [], 0, ((i + 1 : Nat) : Int), (E : Int), ?_, fun h => by cases h⟩
      apply callL_body (vf := c69) rfl rfl
      simp [c69, hi, h32, h41, h45i, h40, w1.eq, objCells, hlti, hz, hEF, w16.eq, hsub, c82, h42, htk, hvw, g1, g2, -Int.natCast_add]
      omega
    have her : er = false := by
      rcases hcs with ⟨v', e1, e2⟩ | ⟨v', e1, e2⟩
      · simp only [Prod.mk.injEq] at e1; exact e1.2
      · simp only [Prod.mk.injEq] at e1
        rw [← e1.1] at e2
        rcases e2 with e2 | e2
        · exact absurd e2 g1
        · exact absurd e2 g2
    rw [if_neg (by rw [her]; simp [g1, g2])]
    refine ⟨2, [], v, ((i + 1 : Nat) : Int), (E : Int), ?_, fun _ => ⟨rfl, rfl, by rw [if_pos rfl, hprs], rfl, by rw [if_pos rfl, hEi]⟩⟩
    apply callL_body (vf := c69) rfl rfl
    simp [c69, hi, h32, h41, h45i, h40, w1.eq, objCells, hlti, hz, hEF, w16.eq, hsub, c82, h42, htk, hvw, g1, g2, -Int.natCast_add]
    omega
end Go.Vm.Ch11
