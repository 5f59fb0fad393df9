/- Chapter 10: what its functions compute. -/
import Derived.Test.YtmncbcgcahfdcaaGreatDoorC10zu
import Derived.Test.YtmncbcgcahfdcaaGreatDoorC10zi
namespace Go.Vm.Ch10
open _root_.Ch10 (T10 c5)
set_option maxRecDepth 10000
set_option maxHeartbeats 16000000
/-! ### the lines of a source and of its tree -/
theorem parF_cons_pre {A : List (List UInt8)} {i : Nat} {acc acc' : List (Nat × L0)} {p : Nat × L0} (h : parF A i (acc ++ [p]) = .ok acc') : acc'[acc.length]? = some p ∧ acc.length < acc'.length := by
  obtain ⟨Y, rfl⟩ := parF_pre _ _ _ _ h
  simp
theorem linesL_cells (s : List UInt8) (_ : Mem) : ∃ SS, lnO (sp10 s) 0 = some (.cells false SS) ∧ ∀ j, j < (linesL s).length → SS[j]? = some (.str (gi (linesL s) (j : Int))) := by
  refine ⟨_, rfl, fun j hj => ?_⟩
  have hpre : ∃ Z, sp10 s = linesL s ++ Z := by
    unfold linesL
    split
    · rename_i h
      exact ⟨[[]], by rw [List.getLast?_eq_some_getLast (sp10_ne s)] at h; rw [← Option.some.inj h, List.dropLast_concat_getLast]⟩
    · exact ⟨[], by simp⟩
  obtain ⟨Z, hZ⟩ := hpre
  rw [hZ, List.map_append, List.append_assoc, List.getElem?_append_left (by simpa using hj)]
  simp [hj, gi_nat hj]
theorem q5 (s : List UInt8) : ∃ m', callL T10 5 [.str s] [] = some (.bool true, m') := by
  obtain ⟨mA, hmA, hA⟩ := Aw.awake0
  apply callL_ex3 (vf := c5) rfl rfl
  by_cases a1 : 1500 < s.length
  · have b1 : (1500 : Int) < s.length := by omega
    simp [c5, hA, b1]
  have b1 : ¬ (1500 : Int) < s.length := by omega
  have h6 : ¬ 65536 < s.length := by omega
  have hll := linesL_len s
  obtain ⟨v1, m1, h10, -, hml1, hmf1, hp1⟩ := q10 s mA
  have h20 := q20 s h6 m1
  obtain ⟨SS, hSS, hcell⟩ := linesL_cells s m1
  rw [hSS] at h20
  cases hr : parR s with
  | fault e l c =>
    rw [hr] at hp1
    subst hp1
    have he := parR_e hr
    simp [c5, hA, b1, h10, h20, he, objCells, -Int.natCast_add]
  | ok acc =>
  rw [hr] at hp1
  obtain ⟨kv1, rfl, hkv1, -⟩ := hp1
  obtain ⟨c1, hc1, hc2, hc3, -⟩ := parR_ok hr
  rw [hc2] at hkv1
  obtain ⟨m2, hm2⟩ : ∃ m2, m1 ++ [some (LObj.cells false SS)] = m2 := ⟨_, rfl⟩
  have hm2l : m2.length = m1.length + 1 := by rw [← hm2]; simp
  have hm2g : ∀ i, i < m1.length → m2[i]? = m1[i]? := fun i h => by rw [← hm2, List.getElem?_append_left h]
  have hm2s : m2[m1.length]? = some (some (.cells false SS)) := by rw [← hm2]; simp
  rw [hm2] at h20
  have hK1 : TV m2 mA.length m2.length (Tc c1) kv1 := hkv1.mono (Nat.le_refl _) (by omega) fun i _ h => hm2g i h
  obtain ⟨u3, m3, h21, vo1, vd1, fs1, rfl, hW1, hE1, hf1, hl1⟩ := q21 (szL (Tc c1) + 1) (Tc c1) kv1 m2 mA.length m2.length 0 (.vec none false []) (.vec none false []) [] [] (Nat.lt_succ_self _) (by omega) (by simp; omega) hK1 (Nat.le_refl _) (.inl ⟨rfl, rfl, rfl, rfl⟩)
  have hK3 : TV m3 mA.length m3.length (Tc c1) kv1 := hK1.mono (Nat.le_refl _) hl1 fun i _ h => hf1 i h
  rw [List.nil_append, List.nil_append] at hW1
  rw [show (((0 : Nat) : Int)) = 0 from rfl] at h21
  obtain ⟨el1, ed1⟩ := hW1.el (by omega)
  rw [← hc1] at hE1
  have hn1 := hE1.len
  obtain ⟨⟨e1, he1, -⟩⟩ := hkv1.at
  have ho1 : vo1.pass = vo1 := by rcases hW1 with ⟨-, -, rfl, -⟩ | ⟨i, j, -, -, -, -, -, rfl, -⟩ <;> rfl
  have ho2 : vd1.pass = vd1 := by rcases hW1 with ⟨-, -, -, rfl, -⟩ | ⟨i, j, -, -, -, -, -, -, rfl, -⟩ <;> rfl
  have hm3s : m3[m1.length]? = some (some (.cells false SS)) := by rw [hf1 _ (by omega)]; exact hm2s
  have hgood := parF_good (linesL s) 0 [] acc (by unfold parR at hr; rwa [if_neg h6] at hr) trivial (fun p hp => by cases hp)
  have hform := form_pre _ 0 (Tc c1) (Nat.lt_succ_self _) (by rw [← hc1]; exact hgood.1) (by rw [← hc1]; exact hgood.2)
  have hcnt := cL_pre 0 (Tc c1)
  rw [← hc1] at hcnt
  have hparF : parF (linesL s) 0 [] = .ok acc := by unfold parR at hr; rwa [if_neg h6] at hr
  obtain ⟨R, hR⟩ : ∃ R, linesL s = R := ⟨_, rfl⟩
  rw [hR] at h20 hll hcell hparF
  obtain ⟨r23, m4, h23, rfl, hl4, hf4⟩ := q23 (Tc c1) kv1 m3 mA.length m3.length (Nat.le_refl _) (by omega) hK3
  have hK4 : TV m4 mA.length m4.length (Tc c1) kv1 := hK3.mono (Nat.le_refl _) hl4 fun i _ h => hf4 i h
  have h24 := q24 (Tc c1) kv1 m4 mA.length m4.length (by omega) hform.2.2.2 hK4
  have hcode : codeF (Tc c1) = 0 := by
    have hd : dL (Tc c1) ≤ 7 := by
      cases hT : Tc c1 with
      | nil => simp [dL]
      | cons x r => have := hform.2.2.1 (by rw [hT]; simp); rw [hT] at this; omega
    simp [codeF, hform.1, hform.2.1, hd]
  rw [hcode] at h24
  simp [c5, hA, b1, h10, h20, he1.tk, he1.view, he1.nl, objCells, h21, el1.tk, ed1.tk, -Int.natCast_add]
  refine wp_loop (fun k s => ∃ i n : Nat, k = R.length - i ∧ i ≤ R.length ∧ n ≤ acc.length ∧ s.get 3 = kv1 ∧ s.get 5 = .row (.mem m1.length) 0 R.length ∧ s.get 7 = vo1.view ∧ s.get 8 = vd1.view ∧ s.get 9 = AV.int IntKind.i64 n ∧ s.get 10 = AV.int IntKind.i64 i ∧ s.mem = m3 ∧ parF (R.drop i) i (acc.take n) = .ok acc) ?_ R.length _ ?_
  rotate_left
  · exact ⟨0, 0, by simp [hparF]⟩
  rintro k t ⟨i, n, hk, hi, hn, e3, e5, e7, e8, e9, e10, em, hE⟩
  by_cases hlt : i < R.length
  rotate_left
  · have hl' : ¬ (i : Int) < R.length := by omega
    rw [List.drop_eq_nil_of_le (by omega)] at hE
    simp only [parF, Par.ok.injEq] at hE
    have hne : n = acc.length := by have := congrArg List.length hE; rw [List.length_take] at this; omega
    subst hne
    simp [e3, e5, e7, e9, e10, em, el1.view, el1.len, hl', hn1, h23, h24, hcnt, he1.view, he1.nl]
    done
  have hl' : (i : Int) < R.length := by omega
  obtain ⟨row, hrow⟩ : ∃ x, gi R (i : Int) = x := ⟨_, rfl⟩
  have hd : R.drop i = row :: R.drop (i + 1) := by rw [← hrow, gi_nat hlt]; simp
  have hmem : row ∈ linesL s := by rw [hR, ← hrow, gi_nat hlt]; exact List.getElem_mem _
  have h22 := q22 row (by have := linesL_row hmem; omega) []
  have hce := hcell i hlt
  rw [hrow] at hce
  rw [hd] at hE
  have w1 : W64 ((i : Int) + 1) ((i + 1 : Nat) : Int) := .mkI rfl (by omega) (by omega)
  cases hsc : scanS row with
  | fault e c' => simp only [parF, hsc] at hE; cases hE
  | ok ind T hd cm =>
    obtain ⟨d, rfl, hd6⟩ := scan_ind hsc
    have hT := scan_len hsc
    simp only [parF, hsc] at hE
    simp only [hsc, scV] at h22
    cases T with
    | nil =>
      simp only at hE
      simp [e3, e5, e7, e8, e9, e10, em, hl', h22, hm3s, hce, objCells, w1.eq, -Int.natCast_add]
      exact ⟨R.length - (i + 1), by omega, i + 1, rfl, by omega, n, hn, rfl, rfl, hE⟩
    | cons x T =>
      simp only at hE
      have hTl : ¬ (T.length : Int) + 1 = 0 := by omega
      split at hE
      · cases hE
      rename_i hm
      obtain ⟨g1, g2⟩ := parF_cons_pre hE
      rw [List.length_take, Nat.min_eq_left hn] at g1 g2
      have hg : acc[n]'g2 = (d, ⟨x :: T, hd, ((i + 1 : Nat) : Int)⟩) := by rw [List.getElem?_eq_getElem g2] at g1; exact Option.some.inj g1
      have htk : acc.take (n + 1) = acc.take n ++ [(d, ⟨x :: T, hd, ((i + 1 : Nat) : Int)⟩)] := by rw [List.take_succ_eq_append_getElem g2, hg]
      simp only [Int.toNat_natCast] at hE
      rw [← htk] at hE
      have hx := hE1.get n g2 (by omega)
      rw [hg] at hx
      obtain ⟨n1, k1, hEn, hn1'⟩ := hx
      simp only at hEn hn1'
      obtain ⟨a, ha1, -, -, -, -, ha6⟩ := el1.adr n (by omega)
      rw [hEn] at ha6
      obtain ⟨a0, x0, y0, -, -⟩ := ha6 0 _ rfl
      obtain ⟨a1', x1, y1, -, -⟩ := ha6 1 _ rfl
      obtain ⟨a3', x3, y3, -, -⟩ := ha6 3 _ rfl
      obtain ⟨jj, CC, hjv, hjm, hjc⟩ : ∃ jj CC, vd1.view = .row (.mem jj) 0 fs1.length ∧ m3[jj]? = some (some (.cells false CC)) ∧ CC[n]? = some (AV.int IntKind.i64 (d : Nat)) := by
        rcases hW1 with ⟨rfl, -⟩ | ⟨i', j', -, -, -, -, -, -, rfl, -, -, k7, -⟩
        · exact absurd g2 (by rw [hn1]; simp)
        · refine ⟨j', _, rfl, k7, ?_⟩
          rw [← hc1]; simp [g1]
      rw [hjv] at e8
      have hsz := pre_szL 0 (Tc c1)
      rw [← hc1] at hsz
      have w2 : W64 ((n : Int) + 1) ((n + 1 : Nat) : Int) := .mkI rfl (by omega) (by omega)
      have h12 : callL T10 12 [.vec none true [.agg [vv none n1 tv (x :: T), .bool hd, .vec none false [], AV.int IntKind.i64 0]], .vec none true [.agg [vv none true tv (x :: T), .bool hd, .vec none false [], AV.int IntKind.i64 0]], .bool true] m3 = some (.bool true, m3) := by
        have := q12 (szL [.mk (x :: T) hd [] 0] + 1) true [.mk (x :: T) hd [] 0] [.mk (x :: T) hd [] 0] _ _ m3 0 0 0 0 (Nat.lt_succ_self _) (by simp [szL, szN] at hT ⊢; omega) (TV_one n1 (x :: T) hn1' hd 0 m3) (TV_one true (x :: T) (fun h => by cases h) hd 0 m3)
        rwa [eqL_one] at this
      simp [e3, e5, e7, e8, e9, e10, em, hl', h22, hm3s, hce, objCells, w1.eq, w2.eq, h12, hjm, hjc, el1.view, el1.len, ← hn1, g2, ha1, x0, y0, x1, y1, x3, y3, -Int.natCast_add]
      exact ⟨R.length - (i + 1), by omega, i + 1, rfl, by omega, n + 1, by omega, by rw [hn1]; exact hjv.symm, rfl, rfl, hE⟩
end Go.Vm.Ch10
