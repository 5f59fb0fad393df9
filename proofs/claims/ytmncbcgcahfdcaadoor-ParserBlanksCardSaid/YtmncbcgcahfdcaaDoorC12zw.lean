/- Chapter 12: what its functions compute. -/
import Derived.Test.YtmncbcgcahfdcaaDoorC12zx
import Derived.Test.YtmncbcgcahfdcaaDoorC12xe
import Derived.Test.YtmncbcgcahfdcaaDoorC12xg
namespace Go.Vm.Ch12
open _root_.Ch12 (T12 c3)
set_option maxRecDepth 10000
set_option maxHeartbeats 16000000
/-- The spoilt source up to a line. -/
def spoilS (R : List (List UInt8)) (a : Nat) : Nat → List UInt8
  | 0 => []
  | k + 1 => spoilS R a k ++ (if k = a then cm1 ++ [10, 10] ++ R.getD k [] ++ (32 :: 35 :: cm2) ++ [10] else R.getD k [] ++ [10])
theorem joinN_app (P Q : List (List UInt8)) : joinN (P ++ Q) = joinN P ++ joinN Q := by simp [joinN]
theorem spoilS_eq (R : List (List UInt8)) (a : Nat) : ∀ k, k ≤ R.length → spoilS R a k = if a < k then joinN (R.take a ++ (cm1 :: [] :: (R.getD a [] ++ 32 :: 35 :: cm2) :: (R.take k).drop (a + 1))) else joinN (R.take k)
  | 0, _ => by simp [spoilS, joinN]
  | k + 1, h => by
    have ih := spoilS_eq R a k (by omega)
    have hk : k < R.length := by omega
    have hg : R.getD k [] = R[k] := by simp [hk]
    have hT : R.take (k + 1) = R.take k ++ [R[k]] := by rw [List.take_add_one, List.getElem?_eq_getElem hk]; rfl
    rw [spoilS, ih]
    by_cases h1 : k = a
    · subst h1
      rw [if_pos rfl, if_neg (by omega), if_pos (by omega), joinN_app, hT, List.drop_eq_nil_of_le (by simp; omega)]
      simp [joinN]
    · rw [if_neg h1]
      by_cases h2 : a < k
      · rw [if_pos h2, if_pos (by omega), hT, List.drop_append_of_le_length (by simp; omega), hg]
        simp [joinN]
      · rw [if_neg h2, if_neg (by omega), hT, joinN_app, hg]
        simp [joinN]
theorem spoilS_len (R : List (List UInt8)) (a : Nat) (h : ∀ x ∈ R, x.length ≤ 900) : ∀ k, k ≤ R.length → (spoilS R a k).length ≤ 1000 * k
  | 0, _ => by simp [spoilS]
  | k + 1, hk => by
    have ih := spoilS_len R a h k (by omega)
    have hg : R.getD k [] = R[k]'(by omega) := by simp [show k < R.length by omega]
    have hr := h _ (List.getElem_mem (show k < R.length by omega))
    rw [spoilS, hg]
    have e1 : cm1.length = 12 := rfl
    have e2 : cm2.length = 16 := rfl
    split <;> simp only [List.length_append, List.length_cons, List.length_nil, e1, e2] <;> omega
theorem spoil_end {R : List (List UInt8)} {a : Nat} (h : a < R.length) : spoilS R a R.length = joinN (spoilL R a) := by
  rw [spoilS_eq R a _ (Nat.le_refl _), if_pos h, List.take_length]
  rfl
theorem spoil_len {R : List (List UInt8)} {a : Nat} (h : a < R.length) : (joinN (spoilL R a)).length = (joinN R).length + 32 := by
  have e0 : R = R.take a ++ (R[a] :: R.drop (a + 1)) := by rw [List.getElem_cons_drop, List.take_append_drop]
  have hg : R.getD a [] = R[a] := by simp [h]
  have e1 : joinN R = joinN (R.take a) ++ (R[a] ++ 10 :: joinN (R.drop (a + 1))) := by
    have h2 : joinN R = joinN (R.take a ++ (R[a] :: R.drop (a + 1))) := congrArg joinN e0
    rw [joinN_app] at h2
    have h3 : joinN (R[a] :: R.drop (a + 1)) = R[a] ++ 10 :: joinN (R.drop (a + 1)) := by
      unfold joinN
      rw [List.flatMap_cons, List.append_assoc]
      rfl
    rw [h2, h3]
  unfold spoilL
  rw [joinN_app, e1, hg]
  have l1 : cm1.length = 12 := rfl
  have l2 : cm2.length = 16 := rfl
  simp [joinN, l1, l2]
  omega
theorem parF_e : ∀ (rows : List (List UInt8)) (i : Nat) (acc : List (Nat × L0)) (e l c : Int), parF rows i acc = .fault e l c → e ≠ 0
  | [], _, _, _, _, _, h => by simp [parF] at h
  | row :: rows, i, acc, e, l, c, h => by
    simp only [parF] at h
    cases hsc : scanS row with
    | fault e' c' =>
      rw [hsc] at h
      simp only [Par.fault.injEq] at h
      rw [← h.1]; exact scan_e hsc
    | ok ind T hd cm =>
      rw [hsc] at h
      cases T with
      | nil => exact parF_e rows _ _ _ _ _ h
      | cons x T =>
        simp only at h
        split at h
        · simp only [Par.fault.injEq] at h; omega
        · exact parF_e rows _ _ _ _ _ h
theorem parR_e {s : List UInt8} {e l c : Int} (h : parR s = .fault e l c) : e ≠ 0 := by
  unfold parR at h
  split at h
  · simp only [Par.fault.injEq] at h; omega
  · exact parF_e _ _ _ _ _ _ h
theorem q3 (s : List UInt8) (at_ : Int) : ∃ m', callL T12 3 [.str s, AV.int IntKind.i64 at_] [] = some (.bool true, m') := by
  obtain ⟨m, hm0, ha⟩ := Aw.awake0
  apply callL_ex3 (vf := c3) rfl rfl
  by_cases h1 : 65536 < s.length
  · have h5 := q5a s h1 m
    have hl : (1200 : Int) < s.length := by omega
    simp [c3, ha, h5, hl]
  have h5 := q5 s h1 m
  by_cases h12 : 1200 < s.length
  · have hl : (1200 : Int) < s.length := by omega
    simp [c3, ha, h5, hl]
  have hl : ¬ (1200 : Int) < s.length := by omega
  by_cases hneg : at_ < 0
  · simp [c3, ha, h5, hl, hneg]
  have hll := linesL_len s
  have hrl : ∀ x ∈ linesL s, x.length ≤ s.length + 1 := fun x hx => linesL_row hx
  obtain ⟨R, hR⟩ : ∃ R, linesL s = R := ⟨_, rfl⟩
  rw [hR] at h5 hll hrl
  by_cases hbig : (R.length : Int) ≤ at_
  · simp [c3, ha, h5, hl, hneg, hbig]
  obtain ⟨a, rfl⟩ : ∃ a : Nat, at_ = a := ⟨at_.toNat, by omega⟩
  have haR : a < R.length := by omega
  obtain ⟨SS, hSS⟩ : ∃ SS, (sp10 s).map AV.str ++ List.replicate 0 (AV.str []) = SS := ⟨_, rfl⟩
  have hob : lnO (sp10 s) 0 = some (.cells false SS) := by rw [← hSS]
  have hcell : ∀ j, j < R.length → SS[j]? = some (.str (gi R (j : Int))) := by
    intro j hj
    have hpre : ∃ Z, sp10 s = R ++ Z := by
      rw [← hR]; unfold linesL
      split
      · rename_i h
        exact ⟨[[]], by rw [List.getLast?_eq_some_getLast (sp10_ne s)] at h; rw [← Option.some.inj h, List.dropLast_concat_getLast]⟩
      · exact ⟨[], by simp⟩
    obtain ⟨Z, hZ⟩ := hpre
    rw [← hSS, hZ, List.map_append, List.append_assoc, List.getElem?_append_left (by simpa using hj)]
    simp [hj, gi_nat hj]
  rw [hob] at h5
  obtain ⟨M1, hM1⟩ : ∃ M1, m ++ [some (LObj.cells false SS)] = M1 := ⟨_, rfl⟩
  rw [hM1] at h5
  have hML : M1.length = m.length + 1 := by rw [← hM1]; simp
  have hMR : M1[m.length]? = some (some (.cells false SS)) := by rw [← hM1]; simp
  simp [c3, ha, h5, hl, hneg, hbig]
  refine wp_loop (fun n t => ∃ i : Nat, n = R.length - i ∧ i ≤ R.length ∧ t.get 0 = .str s ∧ t.get 1 = AV.int IntKind.i64 (a : Nat) ∧ t.get 5 = .row (.mem m.length) 0 R.length ∧ t.get 7 = AV.int IntKind.i64 (i : Nat) ∧ t.mem = M1 ∧ ∀ x ∈ R.take i, x.length ≤ 900 ∧ ∀ c ∈ x, c.toNat ≠ 35 ∧ c.toNat ≠ 34) ?_ R.length _ ?_
  rotate_left
  · exact ⟨0, by simp⟩
  rintro n t ⟨i, hn, hi, e0, e1, e5, e7, hm, hok⟩
  by_cases hlt : i < R.length
  · have hli : (i : Int) < R.length := by omega
    have hce := hcell i hlt
    have hrow := hrl (gi R (i : Int)) (by rw [gi_nat hlt]; exact List.getElem_mem _)
    have hTk : R.take (i + 1) = R.take i ++ [gi R (i : Int)] := by rw [gi_nat hlt, List.take_add_one, List.getElem?_eq_getElem hlt]; rfl
    generalize gi R (i : Int) = x at *
    have w1 : W64 ((i : Int) + 1) ((i + 1 : Nat) : Int) := .mkI rfl (by omega) (by omega)
    by_cases h9 : 900 < x.length
    · have h9i : (900 : Int) < x.length := by omega
      simp [e5, e7, hm, hli, hMR, memO, hce, h9i, objCells]
      skip
    have h9i : ¬ (900 : Int) < x.length := by omega
    simp [e5, e7, hm, hli, hMR, memO, hce, h9i, objCells]
    refine wp_loop (fun n u => ∃ k : Nat, n = x.length - k ∧ k ≤ x.length ∧ u.get 0 = .str s ∧ u.get 1 = AV.int IntKind.i64 (a : Nat) ∧ u.get 5 = .row (.mem m.length) 0 R.length ∧ u.get 7 = AV.int IntKind.i64 (i : Nat) ∧ u.get 8 = AV.int IntKind.i64 (k : Nat) ∧ u.mem = M1 ∧ ∀ c ∈ x.take k, c.toNat ≠ 35 ∧ c.toNat ≠ 34) ?_ x.length _ ?_
    rotate_left
    · exact ⟨0, by simp [e0, e1, e5, e7, hm]⟩
    rintro n2 u ⟨k, hn2, hk, u0, u1, u5, u7, u8, um, hch⟩
    by_cases hkt : k < x.length
    · have hki : (k : Int) < x.length := by omega
      have w2 : W64 ((k : Int) + 1) ((k + 1 : Nat) : Int) := .mkI rfl (by omega) (by omega)
      have hTk2 : x.take (k + 1) = x.take k ++ [x[k]] := by rw [List.take_add_one, List.getElem?_eq_getElem hkt]; rfl
      obtain ⟨c, hc⟩ : ∃ c, x[k] = c := ⟨_, rfl⟩
      by_cases hb : c.toNat = 35
      · simp [u0, u1, u5, u7, u8, um, hli, hMR, memO, hce, hki, hkt, hc, hb, objCells]
        skip
      · have hbi : ¬ (c.toNat : Int) = 35 := by omega
        by_cases hb2 : c.toNat = 34
        · simp [u0, u1, u5, u7, u8, um, hli, hMR, memO, hce, hki, hkt, hc, hb2, objCells]
          skip
        · have hb2i : ¬ (c.toNat : Int) = 34 := by omega
          simp [u0, u1, u5, u7, u8, um, hli, hMR, memO, hce, hki, hkt, hc, hbi, hb2i, w2.eq, objCells, -Int.natCast_add]
          refine ⟨x.length - (k + 1), by omega, k + 1, rfl, by omega, rfl, fun c' hc' => ?_⟩
          rw [hTk2] at hc'
          rcases List.mem_append.1 hc' with h | h
          · exact hch c' h
          · rw [List.mem_singleton.1 h, hc]; exact ⟨hb, hb2⟩
    · have hki : ¬ (k : Int) < x.length := by omega
      simp [u0, u1, u5, u7, u8, um, hli, hMR, memO, hce, hki, w1.eq, objCells, -Int.natCast_add]
      rw [List.take_of_length_le (by omega)] at hch
      refine ⟨R.length - (i + 1), by omega, i + 1, rfl, by omega, rfl, fun y hy => ?_⟩
      rw [hTk] at hy
      rcases List.mem_append.1 hy with h | h
      · exact hok y h
      · rw [List.mem_singleton.1 h]; exact ⟨by omega, hch⟩
  have hli : ¬ (i : Int) < R.length := by omega
  rw [List.take_of_length_le (by omega)] at hok
  simp [e5, e7, hli]
  refine wp_loop (fun n t => ∃ k : Nat, n = R.length - k ∧ k ≤ R.length ∧ t.get 0 = .str s ∧ t.get 1 = AV.int IntKind.i64 (a : Nat) ∧ t.get 5 = .row (.mem m.length) 0 R.length ∧ t.get 9 = .str (spoilS R a k) ∧ t.get 10 = AV.int IntKind.i64 (k : Nat) ∧ t.mem = M1) ?_ R.length _ ?_
  rotate_left
  · exact ⟨0, by simp [e0, e1, e5, hm, spoilS]⟩
  clear e0 e1 e5 e7 hm hli hn
  clear t
  rintro n2 t ⟨k, hn, hk, e0, e1, e5, e9, e10, hm⟩
  by_cases hkt : k < R.length
  · have hki : (k : Int) < R.length := by omega
    have hce := hcell k hkt
    have hgd : R.getD k [] = gi R (k : Int) := by rw [gi_nat hkt]; simp [hkt]
    have hsl := spoilS_len R a (fun x hx => (hok x hx).1) k hk
    have hrow := (hok (gi R (k : Int)) (by rw [gi_nat hkt]; exact List.getElem_mem _)).1
    have hnext : spoilS R a (k + 1) = spoilS R a k ++ (if k = a then cm1 ++ [10, 10] ++ R.getD k [] ++ (32 :: 35 :: cm2) ++ [10] else R.getD k [] ++ [10]) := rfl
    rw [hgd] at hnext
    generalize gi R (k : Int) = x at *
    have w1 : W64 ((k : Int) + 1) ((k + 1 : Nat) : Int) := .mkI rfl (by omega) (by omega)
    by_cases hka : k = a
    · rw [if_pos hka] at hnext
      subst hka
      simp [e0, e1, e5, e9, e10, hm, hki, hMR, memO, hce, w1.eq, objCells, -Int.natCast_add]
      exact ⟨by omega, by omega, by omega, R.length - (k + 1), by omega, k + 1, rfl, by omega, by rw [hnext]; simp [cm1, cm2], rfl⟩
    · rw [if_neg hka] at hnext
      have hkai : ¬ (k : Int) = (a : Int) := by omega
      simp [e0, e1, e5, e9, e10, hm, hki, hMR, memO, hce, hkai, w1.eq, objCells, -Int.natCast_add]
      exact ⟨by omega, by omega, R.length - (k + 1), by omega, k + 1, rfl, by omega, by rw [hnext], rfl⟩
  · have hki : ¬ (k : Int) < R.length := by omega
    obtain rfl : k = R.length := by omega
    rw [spoil_end haR] at e9
    have hj : (joinN R).length ≤ s.length + 1 := by
      rcases lines_join s with e | e <;> rw [hR] at e <;> rw [e]
      · omega
      · simp
    have hsl := spoil_len haR
    obtain ⟨S2, hS2⟩ : ∃ S2, joinN (spoilL R a) = S2 := ⟨_, rfl⟩
    have hB := blanks_law (s := s) (by omega) (i := a) (by rw [hR]; exact haR) (by rw [hR]; exact hok) (by rw [hR]; omega)
    rw [hR, hS2] at hB
    rw [hS2] at e9 hsl
    obtain ⟨v1, M2, h6, -, f1, f2, hp1⟩ := q6 s M1
    obtain ⟨v2, M3, h6b, -, g1, g2, hp2⟩ := q6 S2 M2
    cases hr1 : parR s with
    | fault e l c =>
      cases hr2 : parR S2 with
      | ok acc => rw [hr1, hr2] at hB; exact hB.elim
      | fault e2 l2 c2 =>
        rw [hr1, hr2] at hB
        obtain ⟨rfl, rfl⟩ := hB
        have he := parR_e hr1
        rw [hr1] at hp1
        rw [hr2] at hp2
        subst hp1 hp2
        simp [e0, e1, e5, e9, e10, hm, hki, h6, h6b, he, objCells]
        skip
    | ok acc =>
      cases hr2 : parR S2 with
      | fault e2 l2 c2 => rw [hr1, hr2] at hB; exact hB.elim
      | ok acc2 =>
        rw [hr1, hr2] at hB
        have hB : acc.map zed = acc2.map zed := hB
        have hlen : acc.length = acc2.length := by simpa using congrArg List.length hB
        rw [hr1] at hp1
        rw [hr2] at hp2
        obtain ⟨k1, rfl, hk1, -⟩ := hp1
        obtain ⟨k2, rfl, hk2, -⟩ := hp2
        obtain ⟨t1, t2, t3, t4⟩ := tree_same hB (f := acc.length + 1)
        obtain ⟨C1, -, hC1, hz1, -⟩ := parR_ok hr1
        obtain ⟨C2, -, hC2, hz2, -⟩ := parR_ok hr2
        rw [← hlen] at hk2 hC2
        rw [← hC1] at hz1
        rw [← hC2] at hz2
        generalize treeF (acc.length + 1) 0 acc = A at *
        generalize treeF (acc.length + 1) 0 acc2 = B at *
        have hk1' : TV M3 M1.length M2.length A k1 := hk1.mono (Nat.le_refl _) (Nat.le_refl _) fun j _ h => g2 j h
        have h7 := q7 (szL A + 1) A B k1 k2 M3 _ _ _ _ (Nat.lt_succ_self _) (by omega) hk1' hk2
        obtain ⟨r1, M4, h8, rfl, p1, p2⟩ := q8 A k1 M3 _ _ g1 (by omega) hk1'
        obtain ⟨r2, M5, h8b, rfl, -, -⟩ := q8 B k2 M4 M2.length M3.length p1 (by omega) (hk2.mono (Nat.le_refl _) (Nat.le_refl _) fun j _ h => p2 j h)
        rw [t1] at h7
        rw [← t2, ← t3, ← t4] at h8b
        obtain ⟨⟨e1', he1, -⟩⟩ := hk1.at
        obtain ⟨⟨e2', he2, -⟩⟩ := hk2.at
        simp [e0, e1, e5, e9, e10, hm, hki, h6, h6b, h7, h8, h8b, he1.view, he1.nl, he1.tk, he2.view, he2.nl, he2.tk, objCells]
        skip
end Go.Vm.Ch12
