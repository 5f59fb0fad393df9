/- A small machine and its soundness, part VH. -/
import Derived.Test.YtijbapbijpdpiaaDoorVG
/- Stable sorting in place: the contract of the merge. -/
namespace Go.Vm
open Stable
section
variable {T : FuncId → Option VF} {α : Type}
set_option maxRecDepth 10000
set_option maxHeartbeats 4000000

theorem half_wrap {i j : Nat} (h : i + j < 4611686018427387904) : IntKind.wrap .i64 ((i : Int) + j) = ((i + j : Nat) : Int) ∧ IntKind.wrap .u64 ((i + j : Nat) : Int) = ((i + j : Nat) : Int) ∧ IntKind.wrap .i64 (((i + j : Nat) : Int).fdiv (2 ^ min 1 IntKind.u64.bits)) = (((i + j) / 2 : Nat) : Int) := by
  refine ⟨by rw [wrap64 (by omega) (by omega)]; omega, wrapU64 (by omega) (by omega), ?_⟩
  have e : ((i + j : Nat) : Int).fdiv (2 ^ min 1 IntKind.u64.bits) = (((i + j) / 2 : Nat) : Int) := by
    rw [Int.fdiv_eq_ediv_of_nonneg _ (by decide)]
    show ((i + j : Nat) : Int) / 2 = _
    omega
  rw [e]; exact wrap64 (by omega) (by omega)

/-- One element before a list in order. -/
theorem merge_left {ag : Option Nat} {wv : α → AV} {e : α → List AV} {n f ix fr gf : Nat} {caps : List AV} (hT : T f = some (cMergeG ag n fr f)) (he : Elw ag e wv n) {cmp : α → α → Int} (hw : SWO (ltc cmp))
    (hcmp : ∀ x y, callL T gf (wv x :: wv y :: caps.map AV.view) [] = some (.int .i64 (cmp x y), [])) {m : Mem} (hix : ix < m.length) {P B S : List α} {v : α} (hB : Srt (ltc cmp) B)
    {N a mm b : Nat} {d : List α} (hd : d = P ++ v :: B ++ S) (hN : N = d.length) (hmax : N < 2305843009213693952) (ha : a = P.length) (hmm : mm = a + 1) (hb : b = a + 1 + B.length) :
    callL T f [.row (.mem ix) 0 N, .int .i64 a, .int .i64 mm, .int .i64 b, .fn (.func gf) caps] (mrow e m ix d) = some (.tup [], mrow e m ix (P ++ srt (ltc cmp) ([v] ++ B) ++ S)) := by
  have hNl : N = P.length + 1 + B.length + S.length := by rw [hN, hd]; simp; omega
  apply callL_body hT rfl
  generalize hG : P ++ srt (ltc cmp) ([v] ++ B) ++ S = G
  have w1 : IntKind.wrap .i64 ((mm : Int) - a) = 1 := by rw [wrap64 (by omega) (by omega)]; omega
  simp [cMergeG, w1]
  refine wp_loop (fun w s => ∃ p q : Nat, w = q - p ∧ p ≤ q ∧ q ≤ B.length ∧ s.get 0 = .row (.mem ix) 0 N ∧ s.get 1 = .int .i64 a ∧ s.get 4 = .fn (.func gf) caps ∧ s.get 10 = .int .i64 ((mm + p : Nat) : Int) ∧ s.get 11 = .int .i64 ((mm + q : Nat) : Int) ∧ s.mem = mrow e m ix d ∧
    (∀ k x, k < p → B[k]? = some x → ltc cmp x v = true) ∧ (∀ k x, q ≤ k → B[k]? = some x → ltc cmp x v = false)) ?_ B.length _ ?_
  rotate_left
  · refine ⟨0, B.length, by simp, by simp, by simp, by simp, by simp, by simp, by simp, by simp; omega, by simp, fun k x h => by omega, fun k x h hx => ?_⟩
    rw [List.getElem?_eq_none h] at hx; cases hx
  rintro w s ⟨p, q, hwq, hpq, hq, e0, e1, e4, e10, e11, hm, hlo, hhi⟩
  generalize hi : mm + p = i at *
  generalize hj : mm + q = j at *
  by_cases hlt : i < j
  · obtain ⟨z1, z2, z3⟩ := half_wrap (i := i) (j := j) (by omega)
    generalize hij : i + j = ij at *
    obtain ⟨h, hh⟩ : ∃ h, ij / 2 = mm + h := ⟨ij / 2 - mm, by omega⟩
    rw [hh] at z3
    have hhB : h < B.length := by omega
    have w2 : IntKind.wrap .i64 (((mm + h : Nat) : Int) + 1) = ((mm + (h + 1) : Nat) : Int) := by rw [wrap64 (by omega) (by omega)]; omega
    have p1 := part_row he (xs := d) (i := a) (v := v) (by rw [hd, show P ++ v :: B ++ S = P ++ v :: (B ++ S) by simp]; exact get_mid ha)
    have p2 := part_row he (xs := d) (i := mm + h) (v := B[h]) (by
      rw [hd, show P ++ v :: B ++ S = (P ++ [v]) ++ (B ++ S) by simp, List.getElem?_append_right (by simp; omega), List.getElem?_append_left (by simp; omega)]
      rw [show mm + h - (P ++ [v]).length = h by simp; omega]; simp [hhB])
    have g1 := mrow_get (e := e) (m := m) (ix := ix) (xs := d) hix
    have hcv := hcmp B[h] v
    have haN : a < N := by omega
    generalize hmh : mm + h = mh at *
    have hhN : mh < N := by omega
    by_cases hc : cmp B[h] v < 0
    · have hnx : ∃ n', n' < w ∧ ∃ p' q' : Nat, n' = q' - p' ∧ p' ≤ q' ∧ q' ≤ B.length ∧ mm + (h + 1) = mm + p' ∧ j = mm + q' ∧ (∀ k x, k < p' → B[k]? = some x → ltc cmp x v = true) ∧ (∀ k x, q' ≤ k → B[k]? = some x → ltc cmp x v = false) := by
        refine ⟨q - (h + 1), by omega, h + 1, q, rfl, by omega, hq, rfl, hj.symm, fun k x hk hx => ?_, hhi⟩
        have hb : ltc cmp B[h] v = true := by simpa [ltc] using hc
        by_cases ekh : k = h
        · subst ekh
          rw [List.getElem?_eq_getElem hhB] at hx
          rw [← Option.some.inj hx]; exact hb
        · obtain ⟨hkl, rfl⟩ := List.getElem?_eq_some_iff.1 hx
          have := (List.pairwise_iff_getElem.1 hB) k h hkl hhB (by omega)
          exact le_lt hw this hb |> fun _ => by
            cases h3 : ltc cmp B[k] v
            · have := hw.ntr v B[k] B[h] h3 this
              rw [hb] at this; cases this
            · rfl
      obtain ⟨n', y1, p', q', y2, y3, y4, y5, y6, y7, y8⟩ := hnx
      simp [e0, e1, e4, e10, e11, hm, hlt, z1, z2, z3, w2, g1, p1, p2, he.vw, he.nl, haN, hhN, hcv, hc, -part_some, -Int.natCast_add, -Int.natCast_ediv]
      exact ⟨n', y1, p', q', y2, y3, y4, by rw [y5], by rw [y6], y7, y8⟩
    · have hnx : ∃ n', n' < w ∧ ∃ p' q' : Nat, n' = q' - p' ∧ p' ≤ q' ∧ q' ≤ B.length ∧ i = mm + p' ∧ mh = mm + q' ∧ (∀ k x, k < p' → B[k]? = some x → ltc cmp x v = true) ∧ (∀ k x, q' ≤ k → B[k]? = some x → ltc cmp x v = false) := by
        refine ⟨h - p, by omega, p, h, rfl, by omega, by omega, hi.symm, hmh.symm, hlo, fun k x hk hx => ?_⟩
        have hb : ltc cmp B[h] v = false := by simpa [ltc] using hc
        by_cases ekh : k = h
        · subst ekh
          rw [List.getElem?_eq_getElem hhB] at hx
          rw [← Option.some.inj hx]; exact hb
        · obtain ⟨hkl, rfl⟩ := List.getElem?_eq_some_iff.1 hx
          have := (List.pairwise_iff_getElem.1 hB) h k hhB hkl (by omega)
          exact le_le hw hb this
      obtain ⟨n', y1, p', q', y2, y3, y4, y5, y6, y7, y8⟩ := hnx
      simp [e0, e1, e4, e10, e11, hm, hlt, z1, z2, z3, g1, p1, p2, he.vw, he.nl, haN, hhN, hcv, hc, -part_some, -Int.natCast_add, -Int.natCast_ediv]
      exact ⟨n', y1, p', q', y2, y3, y4, by rw [y5], by rw [y6], y7, y8⟩
  · have hpq : p = q := by omega
    subst hpq
    obtain ⟨B1, B2, hB12, hB1l⟩ : ∃ B1 B2, B = B1 ++ B2 ∧ B1.length = p := ⟨B.take p, B.drop p, by simp, by simp; omega⟩
    have hb1 : ∀ x ∈ B1, ltc cmp x v = true := fun x hx => by
      obtain ⟨k, hk, rfl⟩ := List.getElem_of_mem hx
      exact hlo k _ (by omega) (by rw [hB12, List.getElem?_append_left hk]; simp [hk])
    have hb2 : ∀ x ∈ B2, ltc cmp x v = false := fun x hx => by
      obtain ⟨k, hk, rfl⟩ := List.getElem_of_mem hx
      exact hhi (p + k) _ (by omega) (by rw [hB12, List.getElem?_append_right (by omega), hB1l, show p + k - p = k by omega]; simp [hk])
    have hres : srt (ltc cmp) ([v] ++ B) = B1 ++ v :: B2 := by
      refine srt_eq hw ⟨?_, ?_, by rw [hB12]; simp; omega⟩
      · rw [hB12] at hB
        refine Srt.app hB.left (List.pairwise_cons.2 ⟨hb2, hB.right⟩) fun x hx y hy => ?_
        rcases List.mem_cons.1 hy with rfl | h
        · exact hw.asym _ _ (hb1 x hx)
        · exact hB.cross x hx y h
      · rw [hB12, show [v] ++ (B1 ++ B2) = ([v] ++ B1) ++ B2 by simp, show B1 ++ v :: B2 = (B1 ++ [v]) ++ B2 by simp]
        refine Same.app (Same.exch hw fun x hx y hy => ?_) (.refl B2)
        rw [List.mem_singleton.1 hx]; exact hb1 y hy
    have hres2 : P ++ B1 ++ v :: B2 ++ S = G := by rw [← hG, hres]; simp
    have hBl : B.length = B1.length + B2.length := by rw [hB12]; simp
    simp [e1, e10, e11, hlt]
    refine wp_loop (fun w s => ∃ X Y : List α, B1 = X ++ Y ∧ w = Y.length ∧ s.get 0 = .row (.mem ix) 0 N ∧ s.get 10 = .int .i64 i ∧ s.get 13 = .int .i64 ((a + X.length : Nat) : Int) ∧ s.mem = mrow e m ix (P ++ X ++ v :: Y ++ B2 ++ S)) ?_ B1.length _ ?_
    rotate_left
    · exact ⟨[], B1, by simp, rfl, by simp [e0], by simp [e10], by simp, by simp [hm, hd, hB12]⟩
    clear e0 e1 e4 e10 e11 hm
    rintro w2 s ⟨X, Y, hXY, hw2, e0, e10, e13, hm⟩
    have hl1 : B1.length = X.length + Y.length := by rw [hXY]; simp
    have w3 : IntKind.wrap .i64 ((i : Int) - 1) = ((a + p : Nat) : Int) := by rw [wrap64 (by omega) (by omega)]; omega
    cases Y with
    | nil =>
      have hno : ¬ (a + X.length < a + p) := by simp at hl1; omega
      simp at hXY
      have hm2 : P ++ X ++ [v] ++ B2 ++ S = G := by rw [← hres2, hXY]; simp
      rw [hm2] at hm
      generalize hk : a + X.length = k at *
      generalize hap : a + p = ap at *
      simp [e0, e10, e13, hm, w3, hno, -Int.natCast_add]
    | cons u Y =>
      have hlY : (u :: Y).length = Y.length + 1 := rfl
      have w4 : IntKind.wrap .i64 (((a + X.length : Nat) : Int) + 1) = ((a + X.length + 1 : Nat) : Int) := by rw [wrap64 (by omega) (by omega)]; omega
      have hyes : a + X.length < a + p := by omega
      have hD : P ++ X ++ v :: u :: Y ++ B2 ++ S = (P ++ X) ++ v :: u :: (Y ++ B2 ++ S) := by simp
      rw [hD] at hm
      have hnx : ∃ n', n' < w2 ∧ ∃ X' Y' : List α, B1 = X' ++ Y' ∧ n' = Y'.length ∧ a + X.length + 1 = a + X'.length ∧ (P ++ X) ++ u :: v :: (Y ++ B2 ++ S) = P ++ X' ++ v :: Y' ++ B2 ++ S :=
        ⟨Y.length, by omega, X ++ [u], Y, by rw [hXY]; simp, rfl, by simp; omega, by simp⟩
      generalize hk : a + X.length = k at *
      generalize hap : a + p = ap at *
      have hkl : k = (P ++ X).length := by simp; omega
      have hkN : k < N := by omega
      have hkN2 : k + 1 < N := by omega
      have p1 := part_row he (xs := (P ++ X) ++ v :: u :: (Y ++ B2 ++ S)) (i := k) (v := v) (get_mid hkl)
      have p2 := part_row he (xs := (P ++ X) ++ v :: u :: (Y ++ B2 ++ S)) (i := k + 1) (v := u) (by
        rw [show (P ++ X) ++ v :: u :: (Y ++ B2 ++ S) = (P ++ X ++ [v]) ++ u :: (Y ++ B2 ++ S) by simp]
        exact get_mid (by simp at hkl ⊢; omega))
      have g1 := mrow_get (e := e) (m := m) (ix := ix) (xs := (P ++ X) ++ v :: u :: (Y ++ B2 ++ S)) hix
      have q1 := st_row he (xs := (P ++ X) ++ v :: u :: (Y ++ B2 ++ S)) (i := k) (v := u) (by simp at hkl ⊢; omega)
      rw [set_mid hkl] at q1
      have q2 := st_row he (xs := (P ++ X) ++ u :: u :: (Y ++ B2 ++ S)) (i := k + 1) (v := v) (by simp at hkl ⊢; omega)
      rw [show ((P ++ X) ++ u :: u :: (Y ++ B2 ++ S)).set (k + 1) v = (P ++ X) ++ u :: v :: (Y ++ B2 ++ S) by
        rw [show (P ++ X) ++ u :: u :: (Y ++ B2 ++ S) = (P ++ X ++ [u]) ++ u :: (Y ++ B2 ++ S) by simp, set_mid (by simp at hkl ⊢; omega)]; simp] at q2
      have g2 := mrow_get (e := e) (m := m) (ix := ix) (xs := (P ++ X) ++ u :: u :: (Y ++ B2 ++ S)) hix
      obtain ⟨n', y1, X', Y', y2, y3, y4, y5⟩ := hnx
      rw [y5] at q2
      generalize (P ++ X) ++ v :: u :: (Y ++ B2 ++ S) = D1 at *
      generalize (P ++ X) ++ u :: u :: (Y ++ B2 ++ S) = D2 at *
      generalize hk2 : k + 1 = k2 at *
      simp [e0, e10, e13, hm, w3, w4, hyes, hkN, hkN2, p1, p2, he.tk, g1, g2, q1, q2, -part_some, -stCells_agg, -Int.natCast_add, -List.append_assoc]
      exact ⟨n', y1, X', Y', y2, y3, by rw [y4], rfl⟩
end
end Go.Vm
/- Stable sorting in place: the contract of the merge, one element behind a list in order. -/
namespace Go.Vm
open Stable
section
variable {T : FuncId → Option VF} {α : Type}
set_option maxRecDepth 10000
set_option maxHeartbeats 4000000

theorem merge_right {ag : Option Nat} {wv : α → AV} {e : α → List AV} {n f ix fr gf : Nat} {caps : List AV} (hT : T f = some (cMergeG ag n fr f)) (he : Elw ag e wv n) {cmp : α → α → Int} (hw : SWO (ltc cmp))
    (hcmp : ∀ x y, callL T gf (wv x :: wv y :: caps.map AV.view) [] = some (.int .i64 (cmp x y), [])) {m : Mem} (hix : ix < m.length) {P A S : List α} {v : α} (hA : Srt (ltc cmp) A) (hA2 : 2 ≤ A.length)
    {N a mm b : Nat} {d : List α} (hd : d = P ++ A ++ v :: S) (hN : N = d.length) (hmax : N < 2305843009213693952) (ha : a = P.length) (hmm : mm = a + A.length) (hb : b = mm + 1) :
    callL T f [.row (.mem ix) 0 N, .int .i64 a, .int .i64 mm, .int .i64 b, .fn (.func gf) caps] (mrow e m ix d) = some (.tup [], mrow e m ix (P ++ srt (ltc cmp) (A ++ [v]) ++ S)) := by
  have hNl : N = P.length + A.length + 1 + S.length := by rw [hN, hd]; simp; omega
  apply callL_body hT rfl
  generalize hG : P ++ srt (ltc cmp) (A ++ [v]) ++ S = G
  have w1 : IntKind.wrap .i64 ((mm : Int) - a) = (A.length : Nat) := by rw [wrap64 (by omega) (by omega)]; omega
  have w1b : IntKind.wrap .i64 ((b : Int) - mm) = 1 := by rw [wrap64 (by omega) (by omega)]; omega
  have hAne : ¬ (A.length : Int) = 1 := by omega
  simp [cMergeG, w1, w1b, hAne]
  refine wp_loop (fun w s => ∃ p q : Nat, w = q - p ∧ p ≤ q ∧ q ≤ A.length ∧ s.get 0 = .row (.mem ix) 0 N ∧ s.get 2 = .int .i64 mm ∧ s.get 4 = .fn (.func gf) caps ∧ s.get 14 = .int .i64 ((a + p : Nat) : Int) ∧ s.get 15 = .int .i64 ((a + q : Nat) : Int) ∧ s.mem = mrow e m ix d ∧
    (∀ k x, k < p → A[k]? = some x → ltc cmp v x = false) ∧ (∀ k x, q ≤ k → A[k]? = some x → ltc cmp v x = true)) ?_ A.length _ ?_
  rotate_left
  · refine ⟨0, A.length, by simp, by simp, by simp, by simp, by simp, by simp, by simp, by simp; omega, by simp, fun k x h => by omega, fun k x h hx => ?_⟩
    rw [List.getElem?_eq_none h] at hx; cases hx
  rintro w s ⟨p, q, hwq, hpq, hq, e0, e2, e4, e14, e15, hm, hlo, hhi⟩
  generalize hi : a + p = i at *
  generalize hj : a + q = j at *
  by_cases hlt : i < j
  · obtain ⟨z1, z2, z3⟩ := half_wrap (i := i) (j := j) (by omega)
    generalize hij : i + j = ij at *
    obtain ⟨h, hh⟩ : ∃ h, ij / 2 = a + h := ⟨ij / 2 - a, by omega⟩
    rw [hh] at z3
    have hhA : h < A.length := by omega
    have w2 : IntKind.wrap .i64 (((a + h : Nat) : Int) + 1) = ((a + (h + 1) : Nat) : Int) := by rw [wrap64 (by omega) (by omega)]; omega
    have p1 := part_row he (xs := d) (i := mm) (v := v) (by rw [hd]; exact get_mid (by simp; omega))
    have p2 := part_row he (xs := d) (i := a + h) (v := A[h]) (by
      rw [hd, show P ++ A ++ v :: S = P ++ (A ++ v :: S) by simp, List.getElem?_append_right (by omega), List.getElem?_append_left (by omega)]
      rw [show a + h - P.length = h by omega]; simp [hhA])
    have g1 := mrow_get (e := e) (m := m) (ix := ix) (xs := d) hix
    have hcv := hcmp v A[h]
    have haN : mm < N := by omega
    generalize hmh : a + h = mh at *
    have hhN : mh < N := by omega
    by_cases hc : cmp v A[h] < 0
    · have hnx : ∃ n', n' < w ∧ ∃ p' q' : Nat, n' = q' - p' ∧ p' ≤ q' ∧ q' ≤ A.length ∧ i = a + p' ∧ mh = a + q' ∧ (∀ k x, k < p' → A[k]? = some x → ltc cmp v x = false) ∧ (∀ k x, q' ≤ k → A[k]? = some x → ltc cmp v x = true) := by
        refine ⟨h - p, by omega, p, h, rfl, by omega, by omega, hi.symm, hmh.symm, hlo, fun k x hk hx => ?_⟩
        have hb : ltc cmp v A[h] = true := by simpa [ltc] using hc
        by_cases ekh : k = h
        · subst ekh
          rw [List.getElem?_eq_getElem hhA] at hx
          rw [← Option.some.inj hx]; exact hb
        · obtain ⟨hkl, rfl⟩ := List.getElem?_eq_some_iff.1 hx
          have := (List.pairwise_iff_getElem.1 hA) h k hhA hkl (by omega)
          exact lt_le hw hb this
      obtain ⟨n', y1, p', q', y2, y3, y4, y5, y6, y7, y8⟩ := hnx
      simp [e0, e2, e4, e14, e15, hm, hlt, z1, z2, z3, g1, p1, p2, he.vw, he.nl, haN, hhN, hcv, hc, -part_some, -Int.natCast_add, -Int.natCast_ediv]
      exact ⟨n', y1, p', q', y2, y3, y4, by rw [y5], by rw [y6], y7, y8⟩
    · have hnx : ∃ n', n' < w ∧ ∃ p' q' : Nat, n' = q' - p' ∧ p' ≤ q' ∧ q' ≤ A.length ∧ a + (h + 1) = a + p' ∧ j = a + q' ∧ (∀ k x, k < p' → A[k]? = some x → ltc cmp v x = false) ∧ (∀ k x, q' ≤ k → A[k]? = some x → ltc cmp v x = true) := by
        refine ⟨q - (h + 1), by omega, h + 1, q, rfl, by omega, hq, rfl, hj.symm, fun k x hk hx => ?_, hhi⟩
        have hb : ltc cmp v A[h] = false := by simpa [ltc] using hc
        by_cases ekh : k = h
        · subst ekh
          rw [List.getElem?_eq_getElem hhA] at hx
          rw [← Option.some.inj hx]; exact hb
        · obtain ⟨hkl, rfl⟩ := List.getElem?_eq_some_iff.1 hx
          have := (List.pairwise_iff_getElem.1 hA) k h hkl hhA (by omega)
          exact le_le hw this hb
      obtain ⟨n', y1, p', q', y2, y3, y4, y5, y6, y7, y8⟩ := hnx
      simp [e0, e2, e4, e14, e15, hm, hlt, z1, z2, z3, w2, g1, p1, p2, he.vw, he.nl, haN, hhN, hcv, hc, -part_some, -Int.natCast_add, -Int.natCast_ediv]
      exact ⟨n', y1, p', q', y2, y3, y4, by rw [y5], by rw [y6], y7, y8⟩
  · have hpq : p = q := by omega
    subst hpq
    obtain ⟨A1, A2, hA12, hA1l⟩ : ∃ A1 A2, A = A1 ++ A2 ∧ A1.length = p := ⟨A.take p, A.drop p, by simp, by simp; omega⟩
    have hb1 : ∀ x ∈ A1, ltc cmp v x = false := fun x hx => by
      obtain ⟨k, hk, rfl⟩ := List.getElem_of_mem hx
      exact hlo k _ (by omega) (by rw [hA12, List.getElem?_append_left hk]; simp [hk])
    have hb2 : ∀ x ∈ A2, ltc cmp v x = true := fun x hx => by
      obtain ⟨k, hk, rfl⟩ := List.getElem_of_mem hx
      exact hhi (p + k) _ (by omega) (by rw [hA12, List.getElem?_append_right (by omega), hA1l, show p + k - p = k by omega]; simp [hk])
    have hres : srt (ltc cmp) (A ++ [v]) = A1 ++ v :: A2 :=
      srt_eq hw (stab_insert hw (by rw [← hA12]; exact .refl hA) hb1 hb2)
    have hres2 : P ++ A1 ++ v :: A2 ++ S = G := by rw [← hG, hres]; simp
    have hAl : A.length = A1.length + A2.length := by rw [hA12]; simp
    simp [e2, e14, e15, hlt]
    refine wp_loop (fun w s => ∃ X Y : List α, A2 = X ++ Y ∧ w = X.length ∧ s.get 0 = .row (.mem ix) 0 N ∧ s.get 14 = .int .i64 i ∧ s.get 17 = .int .i64 ((i + X.length : Nat) : Int) ∧ s.mem = mrow e m ix (P ++ A1 ++ X ++ v :: Y ++ S)) ?_ A2.length _ ?_
    rotate_left
    · exact ⟨A2, [], by simp, rfl, by simp [e0], by simp [e14], by simp; omega, by simp [hm, hd, hA12]⟩
    clear e0 e2 e4 e14 e15 hm
    rintro w2 s ⟨X, Y, hXY, hw2, e0, e14, e17, hm⟩
    have hl1 : A2.length = X.length + Y.length := by rw [hXY]; simp
    rcases snoc_cases X with rfl | ⟨X, u, rfl⟩
    · have hm2 : P ++ A1 ++ [] ++ v :: Y ++ S = G := by rw [← hres2, hXY]; simp
      rw [hm2] at hm
      simp only [List.length_nil, Nat.add_zero] at e17
      simp [e0, e14, e17, hm]
    · have hlX : (X ++ [u]).length = X.length + 1 := by simp
      have hD : P ++ A1 ++ (X ++ [u]) ++ v :: Y ++ S = (P ++ A1 ++ X) ++ u :: v :: (Y ++ S) := by simp
      rw [hD] at hm
      have hnx : ∃ n', n' < w2 ∧ ∃ X' Y' : List α, A2 = X' ++ Y' ∧ n' = X'.length ∧ i + X.length = i + X'.length ∧ (P ++ A1 ++ X) ++ v :: u :: (Y ++ S) = P ++ A1 ++ X' ++ v :: Y' ++ S :=
        ⟨X.length, by omega, X, u :: Y, by rw [hXY]; simp, rfl, rfl, by simp⟩
      have hyes : i < i + (X ++ [u]).length := by omega
      have w4 : IntKind.wrap .i64 (((i + (X ++ [u]).length : Nat) : Int) - 1) = ((i + X.length : Nat) : Int) := by rw [wrap64 (by omega) (by omega)]; omega
      have hkl : i + X.length = (P ++ A1 ++ X).length := by simp; omega
      generalize hk2 : i + (X ++ [u]).length = k2 at *
      generalize hk : i + X.length = k at *
      have hkk : k2 = k + 1 := by omega
      have hkN : k < N := by omega
      have hkN2 : k2 < N := by omega
      have p1 := part_row he (xs := (P ++ A1 ++ X) ++ u :: v :: (Y ++ S)) (i := k) (v := u) (get_mid hkl)
      have p2 := part_row he (xs := (P ++ A1 ++ X) ++ u :: v :: (Y ++ S)) (i := k2) (v := v) (by
        rw [show (P ++ A1 ++ X) ++ u :: v :: (Y ++ S) = (P ++ A1 ++ X ++ [u]) ++ v :: (Y ++ S) by simp]
        exact get_mid (by simp at hkl ⊢; omega))
      have g1 := mrow_get (e := e) (m := m) (ix := ix) (xs := (P ++ A1 ++ X) ++ u :: v :: (Y ++ S)) hix
      have q1 := st_row he (xs := (P ++ A1 ++ X) ++ u :: v :: (Y ++ S)) (i := k2) (v := u) (by simp at hkl ⊢; omega)
      rw [show ((P ++ A1 ++ X) ++ u :: v :: (Y ++ S)).set k2 u = (P ++ A1 ++ X) ++ u :: u :: (Y ++ S) by
        rw [show (P ++ A1 ++ X) ++ u :: v :: (Y ++ S) = (P ++ A1 ++ X ++ [u]) ++ v :: (Y ++ S) by simp, set_mid (by simp at hkl ⊢; omega)]; simp] at q1
      have q2 := st_row he (xs := (P ++ A1 ++ X) ++ u :: u :: (Y ++ S)) (i := k) (v := v) (by simp at hkl ⊢; omega)
      rw [set_mid hkl] at q2
      have g2 := mrow_get (e := e) (m := m) (ix := ix) (xs := (P ++ A1 ++ X) ++ u :: u :: (Y ++ S)) hix
      obtain ⟨n', y1, X', Y', y2, y3, y4, y5⟩ := hnx
      rw [y5] at q2
      generalize (P ++ A1 ++ X) ++ u :: v :: (Y ++ S) = D1 at *
      generalize (P ++ A1 ++ X) ++ u :: u :: (Y ++ S) = D2 at *
      simp [e0, e14, e17, hm, w4, hyes, hkN, hkN2, p1, p2, he.tk, g1, g2, q1, q2, -part_some, -stCells_agg, -Int.natCast_add, -List.append_assoc]
      exact ⟨n', y1, X', Y', y2, y3, by rw [y4], rfl⟩
end
end Go.Vm
/- Stable sorting in place: the contract of the merge. -/
namespace Go.Vm
open Stable
section
variable {T : FuncId → Option VF} {α : Type}
set_option maxRecDepth 10000
set_option maxHeartbeats 8000000

/-- A fact on wrapping that arithmetic does not see. -/
def W64 (n k : Int) : Prop := IntKind.wrap .i64 n = k
theorem W64.eq {n k : Int} (h : W64 n k) : IntKind.wrap .i64 n = k := h
theorem W64.mk' {n k : Int} (h1 : 0 ≤ k) (h2 : k ≤ 9223372036854775807) (e : n = k) : W64 n k := by
  unfold W64; rw [e]; exact wrap64 (by omega) h2
structure HalfW (i j c : Nat) : Prop where
  f1 : IntKind.wrap .i64 ((i : Int) + j) = ((i + j : Nat) : Int)
  f2 : IntKind.wrap .u64 ((i + j : Nat) : Int) = ((i + j : Nat) : Int)
  f3 : IntKind.wrap .i64 (((i + j : Nat) : Int).fdiv (2 ^ min 1 IntKind.u64.bits)) = (c : Int)
theorem half_w {i j c : Nat} (h : i + j < 4611686018427387904) (h1 : 2 * c ≤ i + j) (h2 : i + j ≤ 2 * c + 1) : HalfW i j c := by
  obtain ⟨z1, z2, z3⟩ := half_wrap h
  exact ⟨z1, z2, by rw [z3]; omega⟩

theorem ct_merge {ag : Option Nat} {wv : α → AV} {e : α → List AV} {n f ix fr fw gf : Nat} {caps : List AV} (hT : T f = some (cMergeG ag n fr f)) (hTr : T fr = some (cRotate fw)) (hTw : T fw = some (cSwapRG ag n)) (he : Elw ag e wv n) {cmp : α → α → Int} (hw : SWO (ltc cmp))
    (hcmp : ∀ x y, callL T gf (wv x :: wv y :: caps.map AV.view) [] = some (.int .i64 (cmp x y), [])) {m : Mem} (hix : ix < m.length) : ∀ (K : Nat) {P A B S : List α}, A.length + B.length = K → Srt (ltc cmp) A → Srt (ltc cmp) B → A ≠ [] → B ≠ [] →
    ∀ {N a mm b : Nat} {d : List α}, d = P ++ A ++ B ++ S → N = d.length → N < 2305843009213693952 → a = P.length → mm = a + A.length → b = mm + B.length →
    callL T f [.row (.mem ix) 0 N, .int .i64 a, .int .i64 mm, .int .i64 b, .fn (.func gf) caps] (mrow e m ix d) = some (.tup [], mrow e m ix (P ++ srt (ltc cmp) (A ++ B) ++ S)) := by
  intro K
  induction K using Nat.strongRecOn with
  | ind K ih =>
  intro P A B S hK hA hB hA0 hB0 N a mm b d hd hN hmax ha hmm hb
  have hAp := List.length_pos_iff.2 hA0
  have hBp := List.length_pos_iff.2 hB0
  by_cases hA1 : A.length = 1
  · match A, hA1 with
    | [v], _ => exact merge_left hT he hw hcmp hix hB (by rw [hd]; simp) hN hmax ha hmm (by simp at hmm; omega)
  by_cases hB1 : B.length = 1
  · match B, hB1 with
    | [v], _ => exact merge_right hT he hw hcmp hix hA (by omega) (by rw [hd]; simp) hN hmax ha hmm (by simpa using hb)
  have hNl : N = P.length + A.length + B.length + S.length := by rw [hN, hd]; simp; omega
  have hgoal : ∀ (A1 A2 B1 B2 : List α), A = A1 ++ A2 → B = B1 ++ B2 → (∀ x ∈ A1, ∀ y ∈ B2, ltc cmp y x = false) → (∀ y ∈ B1, ∀ x ∈ A2, ltc cmp y x = true) →
      P ++ srt (ltc cmp) (A1 ++ B1) ++ srt (ltc cmp) (A2 ++ B2) ++ S = P ++ srt (ltc cmp) (A ++ B) ++ S := by
    intro A1 A2 B1 B2 e1 e2 h1 h2
    subst e1 e2
    have := stab_four hw hA hB h1 h2 (stab_srt hw (A1 ++ B1)) (stab_srt hw (A2 ++ B2))
    rw [srt_eq hw this]; simp
  apply callL_body hT rfl
  generalize hG : P ++ srt (ltc cmp) (A ++ B) ++ S = G at *
  have w1 : W64 ((mm : Int) - a) (A.length : Nat) := .mk' (by omega) (by omega) (by omega)
  have w1b : W64 ((b : Int) - mm) (B.length : Nat) := .mk' (by omega) (by omega) (by omega)
  have hAneI : ¬ (A.length : Int) = 1 := by omega
  have hBneI : ¬ (B.length : Int) = 1 := by omega
  obtain ⟨H, hH1, hH2⟩ : ∃ H, 2 * H ≤ A.length + B.length ∧ A.length + B.length ≤ 2 * H + 1 := ⟨(A.length + B.length) / 2, by omega, by omega⟩
  obtain ⟨mid, hmid⟩ : ∃ mid, a + H = mid := ⟨_, rfl⟩
  have hz : HalfW a b mid := half_w (by omega) (by omega) (by omega)
  obtain ⟨nn, hnn⟩ : ∃ nn, mid + mm = nn := ⟨_, rfl⟩
  have w2 : W64 ((mid : Int) + mm) (nn : Int) := .mk' (by omega) (by omega) (by omega)
  obtain ⟨pp, hpp⟩ : ∃ pp, nn = pp + 1 := ⟨nn - 1, by omega⟩
  have w3 : W64 ((nn : Int) - 1) (pp : Int) := .mk' (by omega) (by omega) (by omega)
  obtain ⟨x0, x1, hx⟩ : ∃ x0 x1, (H < A.length ∧ x0 + B.length = H ∧ x1 = H) ∨ (A.length ≤ H ∧ H ≤ B.length ∧ x0 = 0 ∧ x1 = A.length) := by
    by_cases h : H < A.length
    · exact ⟨H - B.length, H, .inl ⟨h, by omega, rfl⟩⟩
    · exact ⟨0, A.length, .inr ⟨by omega, by omega, rfl, rfl⟩⟩
  -- the first places of the search
  have hloop : ∀ s : St, s.get 0 = .row (.mem ix) 0 N → s.get 1 = .int .i64 a → s.get 2 = .int .i64 mm → s.get 3 = .int .i64 b → s.get 4 = .fn (.func gf) caps → s.get 18 = .int .i64 mid → s.get 19 = .int .i64 nn → s.get 20 = .int .i64 ((a + x0 : Nat) : Int) → s.get 21 = .int .i64 ((a + x1 : Nat) : Int) → s.get 22 = .int .i64 pp → s.mem = mrow e m ix d →
      ∀ (c : VC) (Q : VExit → St → Prop), (∀ n s, (∃ x r : Nat, n = r - x ∧ x ≤ r ∧ x0 ≤ x ∧ r ≤ x1 ∧ s.get 0 = .row (.mem ix) 0 N ∧ s.get 1 = .int .i64 a ∧ s.get 2 = .int .i64 mm ∧ s.get 3 = .int .i64 b ∧ s.get 4 = .fn (.func gf) caps ∧ s.get 18 = .int .i64 mid ∧ s.get 19 = .int .i64 nn ∧ s.get 20 = .int .i64 ((a + x : Nat) : Int) ∧ s.get 21 = .int .i64 ((a + r : Nat) : Int) ∧ s.get 22 = .int .i64 pp ∧ s.mem = mrow e m ix d ∧
        (∀ k k' u w, k + 1 + k' = H → x0 ≤ k → k < x → A[k]? = some u → B[k']? = some w → ltc cmp w u = false) ∧ (∀ k k' u w, k + 1 + k' = H → r ≤ k → k < x1 → A[k]? = some u → B[k']? = some w → ltc cmp w u = true)) →
        wp T c s (roundK (fun s' => ∃ n', n' < n ∧ ∃ x r : Nat, n' = r - x ∧ x ≤ r ∧ x0 ≤ x ∧ r ≤ x1 ∧ s'.get 0 = .row (.mem ix) 0 N ∧ s'.get 1 = .int .i64 a ∧ s'.get 2 = .int .i64 mm ∧ s'.get 3 = .int .i64 b ∧ s'.get 4 = .fn (.func gf) caps ∧ s'.get 18 = .int .i64 mid ∧ s'.get 19 = .int .i64 nn ∧ s'.get 20 = .int .i64 ((a + x : Nat) : Int) ∧ s'.get 21 = .int .i64 ((a + r : Nat) : Int) ∧ s'.get 22 = .int .i64 pp ∧ s'.mem = mrow e m ix d ∧
        (∀ k k' u w, k + 1 + k' = H → x0 ≤ k → k < x → A[k]? = some u → B[k']? = some w → ltc cmp w u = false) ∧ (∀ k k' u w, k + 1 + k' = H → r ≤ k → k < x1 → A[k]? = some u → B[k']? = some w → ltc cmp w u = true)) Q)) → wp T (.loop c) s Q := by
    intro s h0 h1 h2 h3 h4 h18 h19 h20 h21 h22 hm c Q hstep
    refine wp_loop (fun n s => ∃ x r : Nat, n = r - x ∧ x ≤ r ∧ x0 ≤ x ∧ r ≤ x1 ∧ s.get 0 = .row (.mem ix) 0 N ∧ s.get 1 = .int .i64 a ∧ s.get 2 = .int .i64 mm ∧ s.get 3 = .int .i64 b ∧ s.get 4 = .fn (.func gf) caps ∧ s.get 18 = .int .i64 mid ∧ s.get 19 = .int .i64 nn ∧ s.get 20 = .int .i64 ((a + x : Nat) : Int) ∧ s.get 21 = .int .i64 ((a + r : Nat) : Int) ∧ s.get 22 = .int .i64 pp ∧ s.mem = mrow e m ix d ∧
        (∀ k k' u w, k + 1 + k' = H → x0 ≤ k → k < x → A[k]? = some u → B[k']? = some w → ltc cmp w u = false) ∧ (∀ k k' u w, k + 1 + k' = H → r ≤ k → k < x1 → A[k]? = some u → B[k']? = some w → ltc cmp w u = true)) hstep (x1 - x0) s ?_
    exact ⟨x0, x1, rfl, by omega, Nat.le_refl _, Nat.le_refl _, h0, h1, h2, h3, h4, h18, h19, h20, h21, h22, hm, fun k k' u w _ h1 h2 => by omega, fun k k' u w _ h1 h2 => by omega⟩
  have hdA : ∀ k u, A[k]? = some u → d[a + k]? = some u := fun k u h => by
    obtain ⟨hk, -⟩ := List.getElem?_eq_some_iff.1 h
    rw [hd, show P ++ A ++ B ++ S = P ++ (A ++ (B ++ S)) by simp, List.getElem?_append_right (by omega), List.getElem?_append_left (by omega), ← h]
    congr 1; omega
  have hdB : ∀ k u, B[k]? = some u → d[mm + k]? = some u := fun k u h => by
    obtain ⟨hk, -⟩ := List.getElem?_eq_some_iff.1 h
    rw [hd, show P ++ A ++ B ++ S = (P ++ A) ++ (B ++ S) by simp, List.getElem?_append_right (by simp; omega), List.getElem?_append_left (by simp; omega), ← h]
    congr 1; simp; omega
  have g1 := mrow_get (e := e) (m := m) (ix := ix) (xs := d) hix
  simp [cMergeG, w1.eq, w1b.eq, hAneI, hBneI, hz.f1, hz.f2, hz.f3, w2.eq, w3.eq, -Int.natCast_add]
  refine ⟨fun hq => ?_, fun hq => ?_⟩
  · have w4 : W64 ((nn : Int) - b) ((a + x0 : Nat) : Int) := .mk' (by omega) (by omega) (by omega)
    have hx1' : mid = a + x1 := by omega
    refine hloop _ (by simp) (by simp) (by simp) (by simp) (by simp) (by simp) (by simp) (by simp [w4.eq]) (by simp; omega) (by simp) (by simp) _ _ ?_
    rintro w s ⟨x, r, hwl, hxr, hxx, hrr, e0, e1, e2, e3, e4, e18, e19, e20, e21, e22, hm, hlo, hhi⟩
    by_cases hlt : x < r
    · clear ih hgoal hloop
      obtain ⟨h, hh1, hh2⟩ : ∃ h, 2 * h ≤ x + r ∧ x + r ≤ 2 * h + 1 := ⟨(x + r) / 2, by omega, by omega⟩
      have hy : HalfW (a + x) (a + r) (a + h) := half_w (by omega) (by omega) (by omega)
      have hhA : h < A.length := by omega
      obtain ⟨h', hh'⟩ : ∃ h', h + 1 + h' = H := ⟨H - 1 - h, by omega⟩
      have hhB : h' < B.length := by omega
      have w6 : W64 ((pp : Int) - ((a + h : Nat) : Int)) ((mm + h' : Nat) : Int) := .mk' (by omega) (by omega) (by omega)
      have w7 : W64 (((a + h : Nat) : Int) + 1) ((a + (h + 1) : Nat) : Int) := .mk' (by omega) (by omega) (by omega)
      have p1 := part_row he (hdA h _ (List.getElem?_eq_getElem hhA))
      have p2 := part_row he (hdB h' _ (List.getElem?_eq_getElem hhB))
      have n1 : a + h < N := by omega
      have n2 : mm + h' < N := by omega
      have hcv := hcmp B[h'] A[h]
      have hltx : a + x < a + r := by omega
      by_cases hc : cmp B[h'] A[h] < 0
      · have hb : ltc cmp B[h'] A[h] = true := by simpa [ltc] using hc
        have hnx : ∃ n', n' < w ∧ ∃ x' r' : Nat, n' = r' - x' ∧ x' ≤ r' ∧ x0 ≤ x' ∧ r' ≤ x1 ∧ a + x = a + x' ∧ a + h = a + r' ∧ (∀ k k' u w, k + 1 + k' = H → x0 ≤ k → k < x' → A[k]? = some u → B[k']? = some w → ltc cmp w u = false) ∧ (∀ k k' u w, k + 1 + k' = H → r' ≤ k → k < x1 → A[k]? = some u → B[k']? = some w → ltc cmp w u = true) := by
          refine ⟨h - x, by omega, x, h, rfl, by omega, hxx, by omega, rfl, rfl, hlo, fun k k' u w hkk hk1 hk2 hu hv => ?_⟩
          obtain ⟨hkA, rfl⟩ := List.getElem?_eq_some_iff.1 hu
          obtain ⟨hkB, rfl⟩ := List.getElem?_eq_some_iff.1 hv
          by_cases ekh : k = h
          · have : k' = h' := by omega
            subst ekh this; exact hb
          · have a1 := (List.pairwise_iff_getElem.1 hA) h k hhA hkA (by omega)
            have a2 := (List.pairwise_iff_getElem.1 hB) k' h' hkB hhB (by omega)
            exact le_lt hw a2 (lt_le hw hb a1)
        obtain ⟨n', v1, x', r', v2, v3, v4, v5, v6, v7, v8, v9⟩ := hnx
        generalize hax : a + x = ax at *
        generalize har : a + r = ar at *
        generalize hah : a + h = ah at *
        generalize hbh : mm + h' = bh at *
        simp [e0, e1, e2, e3, e4, e18, e19, e20, e21, e22, hm, hltx, hy.f1, hy.f2, hy.f3, w6.eq, g1, p1, p2, he.vw, he.nl, n1, n2, hcv, hc, -part_some, -Int.natCast_add, -Int.natCast_ediv]
        exact ⟨n', v1, x', r', v2, v3, v4, v5, by rw [v6], by rw [v7], v8, v9⟩
      · have hb : ltc cmp B[h'] A[h] = false := by simpa [ltc] using hc
        have hnx : ∃ n', n' < w ∧ ∃ x' r' : Nat, n' = r' - x' ∧ x' ≤ r' ∧ x0 ≤ x' ∧ r' ≤ x1 ∧ a + (h + 1) = a + x' ∧ a + r = a + r' ∧ (∀ k k' u w, k + 1 + k' = H → x0 ≤ k → k < x' → A[k]? = some u → B[k']? = some w → ltc cmp w u = false) ∧ (∀ k k' u w, k + 1 + k' = H → r' ≤ k → k < x1 → A[k]? = some u → B[k']? = some w → ltc cmp w u = true) := by
          refine ⟨r - (h + 1), by omega, h + 1, r, rfl, by omega, by omega, hrr, rfl, rfl, fun k k' u w hkk hk1 hk2 hu hv => ?_, hhi⟩
          obtain ⟨hkA, rfl⟩ := List.getElem?_eq_some_iff.1 hu
          obtain ⟨hkB, rfl⟩ := List.getElem?_eq_some_iff.1 hv
          by_cases ekh : k = h
          · have : k' = h' := by omega
            subst ekh this; exact hb
          · have a1 := (List.pairwise_iff_getElem.1 hA) k h hkA hhA (by omega)
            have a2 := (List.pairwise_iff_getElem.1 hB) h' k' hhB hkB (by omega)
            exact le_le hw (le_le hw a1 hb) a2
        obtain ⟨n', v1, x', r', v2, v3, v4, v5, v6, v7, v8, v9⟩ := hnx
        generalize hax : a + x = ax at *
        generalize har : a + r = ar at *
        generalize hah : a + h = ah at *
        generalize hbh : mm + h' = bh at *
        simp [e0, e1, e2, e3, e4, e18, e19, e20, e21, e22, hm, hltx, hy.f1, hy.f2, hy.f3, w6.eq, w7.eq, g1, p1, p2, he.vw, he.nl, n1, n2, hcv, hc, -part_some, -Int.natCast_add, -Int.natCast_ediv]
        exact ⟨n', v1, x', r', v2, v3, v4, v5, by rw [v6], by rw [v7], v8, v9⟩
    · clear hloop
      have hxr : x = r := by omega
      subst hxr
      obtain ⟨y, hy⟩ : ∃ y, x + y = H := ⟨H - x, by omega⟩
      obtain ⟨A1, A2, hA12, hA1l⟩ : ∃ A1 A2, A = A1 ++ A2 ∧ A1.length = x := ⟨A.take x, A.drop x, by simp, by simp; omega⟩
      obtain ⟨B1, B2, hB12, hB1l⟩ : ∃ B1 B2, B = B1 ++ B2 ∧ B1.length = y := ⟨B.take y, B.drop y, by simp, by simp; omega⟩
      have hAl : A.length = A1.length + A2.length := by rw [hA12]; simp
      have hBl : B.length = B1.length + B2.length := by rw [hB12]; simp
      have f1 : ∀ u ∈ A1, ∀ w ∈ B2, ltc cmp w u = false := by
        intro u hu v hv
        obtain ⟨i, hi, rfl⟩ := List.getElem_of_mem hu
        obtain ⟨j, hj, rfl⟩ := List.getElem_of_mem hv
        have hA1p : x - 1 < A1.length := by omega
        have hB2p : 0 < B2.length := by omega
        have eA : A[x - 1]? = some (A1[x - 1]'hA1p) := by rw [hA12, List.getElem?_append_left (by omega), List.getElem?_eq_getElem (by omega)]
        have eB : B[y]? = some (B2[0]'hB2p) := by rw [hB12, List.getElem?_append_right (by omega), hB1l, List.getElem?_eq_getElem (by omega)]; congr 2; omega
        have base := hlo (x - 1) y _ _ (by omega) (by omega) (by omega) eA eB
        have s1 : ltc cmp (A1[x - 1]'hA1p) A1[i] = false := by
          by_cases ei : i = x - 1
          · subst ei; exact irr hw _
          · exact (List.pairwise_iff_getElem.1 (Srt.left (B := A2) (by rw [← hA12]; exact hA))) i (x - 1) hi (by omega) (by omega)
        have s2 : ltc cmp B2[j] (B2[0]'hB2p) = false := by
          by_cases ej : j = 0
          · subst ej; exact irr hw _
          · exact (List.pairwise_iff_getElem.1 (Srt.right (A := B1) (by rw [← hB12]; exact hB))) 0 j (by omega) hj (by omega)
        exact le_le hw (le_le hw s1 base) s2
      have f2 : ∀ w ∈ B1, ∀ u ∈ A2, ltc cmp w u = true := by
        intro v hv u hu
        obtain ⟨i, hi, rfl⟩ := List.getElem_of_mem hu
        obtain ⟨j, hj, rfl⟩ := List.getElem_of_mem hv
        have hA2p : 0 < A2.length := by omega
        have hB1p : y - 1 < B1.length := by omega
        have eA : A[x]? = some (A2[0]'hA2p) := by rw [hA12, List.getElem?_append_right (by omega), hA1l, List.getElem?_eq_getElem (by omega)]; congr 2; omega
        have eB : B[y - 1]? = some (B1[y - 1]'hB1p) := by rw [hB12, List.getElem?_append_left (by omega), List.getElem?_eq_getElem (by omega)]
        have base := hhi x (y - 1) _ _ (by omega) (Nat.le_refl _) (by omega) eA eB
        have s1 : ltc cmp A2[i] (A2[0]'hA2p) = false := by
          by_cases ei : i = 0
          · subst ei; exact irr hw _
          · exact (List.pairwise_iff_getElem.1 (Srt.right (A := A1) (by rw [← hA12]; exact hA))) 0 i (by omega) hi (by omega)
        have s2 : ltc cmp (B1[y - 1]'hB1p) B1[j] = false := by
          by_cases ej : j = y - 1
          · subst ej; exact irr hw _
          · exact (List.pairwise_iff_getElem.1 (Srt.left (B := B2) (by rw [← hB12]; exact hB))) j (y - 1) hj (by omega) (by omega)
        exact le_lt hw s2 (lt_le hw base s1)
      have hfin := hgoal A1 A2 B1 B2 hA12 hB12 f1 f2
      have sA1 : Srt (ltc cmp) A1 := Srt.left (B := A2) (by rw [← hA12]; exact hA)
      have sA2 : Srt (ltc cmp) A2 := Srt.right (A := A1) (by rw [← hA12]; exact hA)
      have sB1 : Srt (ltc cmp) B1 := Srt.left (B := B2) (by rw [← hB12]; exact hB)
      have sB2 : Srt (ltc cmp) B2 := Srt.right (A := B1) (by rw [← hB12]; exact hB)
      have w5 : W64 ((nn : Int) - ((a + x : Nat) : Int)) ((mm + y : Nat) : Int) := .mk' (by omega) (by omega) (by omega)
      have hc1 : x < A.length → x < H → callL T fr [.row (.mem ix) 0 N, .int .i64 ((a + x : Nat) : Int), .int .i64 mm, .int .i64 ((mm + y : Nat) : Int), .fn (.func gf) caps] (mrow e m ix d) = some (.tup [], mrow e m ix (P ++ A1 ++ B1 ++ A2 ++ B2 ++ S)) := fun c1 c2 => by
        have := ct_rotate hTr hTw he hix (.fn (.func gf) caps) rfl rfl (P := P ++ A1) (A := A2) (B := B1) (S := B2 ++ S) (List.length_pos_iff.1 (by omega)) (List.length_pos_iff.1 (by omega)) (N := N) (a := a + x) (mm := mm) (b := mm + y) (d := d) (by rw [hd, hA12, hB12]; simp) hN hmax (by simp; omega) (by simp; omega) (by simp; omega)
        rw [this]; simp
      have hn1 : ¬ (x < A.length ∧ x < H) → d = P ++ A1 ++ B1 ++ A2 ++ B2 ++ S := fun c => by
        rw [hd, hA12, hB12]
        by_cases c1 : x < A.length
        · have : B1 = [] := List.length_eq_zero_iff.1 (by omega)
          simp [this]
        · have : A2 = [] := List.length_eq_zero_iff.1 (by omega)
          simp [this]
      have hc2 : 0 < x → x < H → callL T f [.row (.mem ix) 0 N, .int .i64 a, .int .i64 ((a + x : Nat) : Int), .int .i64 mid, .fn (.func gf) caps] (mrow e m ix (P ++ A1 ++ B1 ++ A2 ++ B2 ++ S)) = some (.tup [], mrow e m ix (P ++ srt (ltc cmp) (A1 ++ B1) ++ A2 ++ B2 ++ S)) := fun c1 c2 => by
        have := ih (A1.length + B1.length) (by omega) (P := P) (A := A1) (B := B1) (S := A2 ++ B2 ++ S) rfl sA1 sB1 (List.length_pos_iff.1 (by omega)) (List.length_pos_iff.1 (by omega)) (N := N) (a := a) (mm := a + x) (b := mid) (d := P ++ A1 ++ B1 ++ A2 ++ B2 ++ S) (by simp) (by simp; omega) hmax ha (by omega) (by omega)
        rw [this]; simp
      have hn2 : ¬ (0 < x ∧ x < H) → P ++ A1 ++ B1 ++ A2 ++ B2 ++ S = P ++ srt (ltc cmp) (A1 ++ B1) ++ A2 ++ B2 ++ S := fun c => by
        have : srt (ltc cmp) (A1 ++ B1) = A1 ++ B1 := by
          refine srt_eq hw (.refl ?_)
          by_cases c1 : 0 < x
          · have : B1 = [] := List.length_eq_zero_iff.1 (by omega)
            simpa [this] using sA1
          · have : A1 = [] := List.length_eq_zero_iff.1 (by omega)
            simpa [this] using sB1
        rw [this]; simp
      have hl12 : (srt (ltc cmp) (A1 ++ B1)).length = A1.length + B1.length := by rw [srt_len hw]; simp
      have hc3 : x < A.length → y < B.length → callL T f [.row (.mem ix) 0 N, .int .i64 mid, .int .i64 ((mm + y : Nat) : Int), .int .i64 b, .fn (.func gf) caps] (mrow e m ix (P ++ srt (ltc cmp) (A1 ++ B1) ++ A2 ++ B2 ++ S)) = some (.tup [], mrow e m ix G) := fun c1 c2 => by
        have := ih (A2.length + B2.length) (by omega) (P := P ++ srt (ltc cmp) (A1 ++ B1)) (A := A2) (B := B2) (S := S) rfl sA2 sB2 (List.length_pos_iff.1 (by omega)) (List.length_pos_iff.1 (by omega)) (N := N) (a := mid) (mm := mm + y) (b := b) (d := P ++ srt (ltc cmp) (A1 ++ B1) ++ A2 ++ B2 ++ S) rfl (by simp [hl12]; omega) hmax (by simp [hl12]; omega) (by omega) (by omega)
        rw [this, hfin]
      have hn3 : ¬ (x < A.length ∧ y < B.length) → P ++ srt (ltc cmp) (A1 ++ B1) ++ A2 ++ B2 ++ S = G := fun c => by
        have : srt (ltc cmp) (A2 ++ B2) = A2 ++ B2 := by
          refine srt_eq hw (.refl ?_)
          by_cases c1 : x < A.length
          · have : B2 = [] := List.length_eq_zero_iff.1 (by omega)
            simpa [this] using sA2
          · have : A2 = [] := List.length_eq_zero_iff.1 (by omega)
            simpa [this] using sB2
        rw [← hfin, this]; simp
      have t1 : (a + x < mm) = (x < A.length) := by simp; omega
      have t2 : (mm < mm + y) = (x < H) := by simp; omega
      have t3 : (a < a + x) = (0 < x) := by simp
      have t4 : (a + x < mid) = (x < H) := by simp; omega
      have t5 : (mid < mm + y) = (x < A.length) := by simp; omega
      have t6 : (mm + y < b) = (y < B.length) := by simp; omega
      clear hfin f1 f2 hlo hhi hdA hdB ih hgoal
      generalize P ++ A1 ++ B1 ++ A2 ++ B2 ++ S = D1 at *
      generalize P ++ srt (ltc cmp) (A1 ++ B1) ++ A2 ++ B2 ++ S = D2 at *
      generalize hax : a + x = ax at *
      generalize hen : mm + y = en at *
      have hlt' : ¬ ax < ax := by omega
      clear hd hN hA12 hB12
      by_cases c1 : x < A.length <;> by_cases c2 : x < H <;> by_cases c3 : 0 < x <;> by_cases c4 : y < B.length
      all_goals
        first | (have k1 := hc1 c1 c2) | (have k1 := hn1 (by omega))
        first | (have k2 := hc2 c3 c2) | (have k2 := hn2 (by omega))
        first | (have k3 := hc3 c1 c4) | (have k3 := hn3 (by omega))
        simp [e0, e1, e2, e3, e4, e18, e19, e20, e21, e22, hm, w5.eq, t1, t2, t3, t4, t5, t6, c1, c2, c3, c4, k1, k2, k3, -Int.natCast_add]
  · have hx0' : a = a + x0 := by omega
    have hx1' : mm = a + x1 := by omega
    refine hloop _ (by simp) (by simp) (by simp) (by simp) (by simp) (by simp) (by simp) (by simp; omega) (by simp; omega) (by simp) (by simp) _ _ ?_
    rintro w s ⟨x, r, hwl, hxr, hxx, hrr, e0, e1, e2, e3, e4, e18, e19, e20, e21, e22, hm, hlo, hhi⟩
    by_cases hlt : x < r
    · clear ih hgoal hloop
      obtain ⟨h, hh1, hh2⟩ : ∃ h, 2 * h ≤ x + r ∧ x + r ≤ 2 * h + 1 := ⟨(x + r) / 2, by omega, by omega⟩
      have hy : HalfW (a + x) (a + r) (a + h) := half_w (by omega) (by omega) (by omega)
      have hhA : h < A.length := by omega
      obtain ⟨h', hh'⟩ : ∃ h', h + 1 + h' = H := ⟨H - 1 - h, by omega⟩
      have hhB : h' < B.length := by omega
      have w6 : W64 ((pp : Int) - ((a + h : Nat) : Int)) ((mm + h' : Nat) : Int) := .mk' (by omega) (by omega) (by omega)
      have w7 : W64 (((a + h : Nat) : Int) + 1) ((a + (h + 1) : Nat) : Int) := .mk' (by omega) (by omega) (by omega)
      have p1 := part_row he (hdA h _ (List.getElem?_eq_getElem hhA))
      have p2 := part_row he (hdB h' _ (List.getElem?_eq_getElem hhB))
      have n1 : a + h < N := by omega
      have n2 : mm + h' < N := by omega
      have hcv := hcmp B[h'] A[h]
      have hltx : a + x < a + r := by omega
      by_cases hc : cmp B[h'] A[h] < 0
      · have hb : ltc cmp B[h'] A[h] = true := by simpa [ltc] using hc
        have hnx : ∃ n', n' < w ∧ ∃ x' r' : Nat, n' = r' - x' ∧ x' ≤ r' ∧ x0 ≤ x' ∧ r' ≤ x1 ∧ a + x = a + x' ∧ a + h = a + r' ∧ (∀ k k' u w, k + 1 + k' = H → x0 ≤ k → k < x' → A[k]? = some u → B[k']? = some w → ltc cmp w u = false) ∧ (∀ k k' u w, k + 1 + k' = H → r' ≤ k → k < x1 → A[k]? = some u → B[k']? = some w → ltc cmp w u = true) := by
          refine ⟨h - x, by omega, x, h, rfl, by omega, hxx, by omega, rfl, rfl, hlo, fun k k' u w hkk hk1 hk2 hu hv => ?_⟩
          obtain ⟨hkA, rfl⟩ := List.getElem?_eq_some_iff.1 hu
          obtain ⟨hkB, rfl⟩ := List.getElem?_eq_some_iff.1 hv
          by_cases ekh : k = h
          · have : k' = h' := by omega
            subst ekh this; exact hb
          · have a1 := (List.pairwise_iff_getElem.1 hA) h k hhA hkA (by omega)
            have a2 := (List.pairwise_iff_getElem.1 hB) k' h' hkB hhB (by omega)
            exact le_lt hw a2 (lt_le hw hb a1)
        obtain ⟨n', v1, x', r', v2, v3, v4, v5, v6, v7, v8, v9⟩ := hnx
        generalize hax : a + x = ax at *
        generalize har : a + r = ar at *
        generalize hah : a + h = ah at *
        generalize hbh : mm + h' = bh at *
        simp [e0, e1, e2, e3, e4, e18, e19, e20, e21, e22, hm, hltx, hy.f1, hy.f2, hy.f3, w6.eq, g1, p1, p2, he.vw, he.nl, n1, n2, hcv, hc, -part_some, -Int.natCast_add, -Int.natCast_ediv]
        exact ⟨n', v1, x', r', v2, v3, v4, v5, by rw [v6], by rw [v7], v8, v9⟩
      · have hb : ltc cmp B[h'] A[h] = false := by simpa [ltc] using hc
        have hnx : ∃ n', n' < w ∧ ∃ x' r' : Nat, n' = r' - x' ∧ x' ≤ r' ∧ x0 ≤ x' ∧ r' ≤ x1 ∧ a + (h + 1) = a + x' ∧ a + r = a + r' ∧ (∀ k k' u w, k + 1 + k' = H → x0 ≤ k → k < x' → A[k]? = some u → B[k']? = some w → ltc cmp w u = false) ∧ (∀ k k' u w, k + 1 + k' = H → r' ≤ k → k < x1 → A[k]? = some u → B[k']? = some w → ltc cmp w u = true) := by
          refine ⟨r - (h + 1), by omega, h + 1, r, rfl, by omega, by omega, hrr, rfl, rfl, fun k k' u w hkk hk1 hk2 hu hv => ?_, hhi⟩
          obtain ⟨hkA, rfl⟩ := List.getElem?_eq_some_iff.1 hu
          obtain ⟨hkB, rfl⟩ := List.getElem?_eq_some_iff.1 hv
          by_cases ekh : k = h
          · have : k' = h' := by omega
            subst ekh this; exact hb
          · have a1 := (List.pairwise_iff_getElem.1 hA) k h hkA hhA (by omega)
            have a2 := (List.pairwise_iff_getElem.1 hB) h' k' hhB hkB (by omega)
            exact le_le hw (le_le hw a1 hb) a2
        obtain ⟨n', v1, x', r', v2, v3, v4, v5, v6, v7, v8, v9⟩ := hnx
        generalize hax : a + x = ax at *
        generalize har : a + r = ar at *
        generalize hah : a + h = ah at *
        generalize hbh : mm + h' = bh at *
        simp [e0, e1, e2, e3, e4, e18, e19, e20, e21, e22, hm, hltx, hy.f1, hy.f2, hy.f3, w6.eq, w7.eq, g1, p1, p2, he.vw, he.nl, n1, n2, hcv, hc, -part_some, -Int.natCast_add, -Int.natCast_ediv]
        exact ⟨n', v1, x', r', v2, v3, v4, v5, by rw [v6], by rw [v7], v8, v9⟩
    · clear hloop
      have hxr : x = r := by omega
      subst hxr
      obtain ⟨y, hy⟩ : ∃ y, x + y = H := ⟨H - x, by omega⟩
      obtain ⟨A1, A2, hA12, hA1l⟩ : ∃ A1 A2, A = A1 ++ A2 ∧ A1.length = x := ⟨A.take x, A.drop x, by simp, by simp; omega⟩
      obtain ⟨B1, B2, hB12, hB1l⟩ : ∃ B1 B2, B = B1 ++ B2 ∧ B1.length = y := ⟨B.take y, B.drop y, by simp, by simp; omega⟩
      have hAl : A.length = A1.length + A2.length := by rw [hA12]; simp
      have hBl : B.length = B1.length + B2.length := by rw [hB12]; simp
      have f1 : ∀ u ∈ A1, ∀ w ∈ B2, ltc cmp w u = false := by
        intro u hu v hv
        obtain ⟨i, hi, rfl⟩ := List.getElem_of_mem hu
        obtain ⟨j, hj, rfl⟩ := List.getElem_of_mem hv
        have hA1p : x - 1 < A1.length := by omega
        have hB2p : 0 < B2.length := by omega
        have eA : A[x - 1]? = some (A1[x - 1]'hA1p) := by rw [hA12, List.getElem?_append_left (by omega), List.getElem?_eq_getElem (by omega)]
        have eB : B[y]? = some (B2[0]'hB2p) := by rw [hB12, List.getElem?_append_right (by omega), hB1l, List.getElem?_eq_getElem (by omega)]; congr 2; omega
        have base := hlo (x - 1) y _ _ (by omega) (by omega) (by omega) eA eB
        have s1 : ltc cmp (A1[x - 1]'hA1p) A1[i] = false := by
          by_cases ei : i = x - 1
          · subst ei; exact irr hw _
          · exact (List.pairwise_iff_getElem.1 (Srt.left (B := A2) (by rw [← hA12]; exact hA))) i (x - 1) hi (by omega) (by omega)
        have s2 : ltc cmp B2[j] (B2[0]'hB2p) = false := by
          by_cases ej : j = 0
          · subst ej; exact irr hw _
          · exact (List.pairwise_iff_getElem.1 (Srt.right (A := B1) (by rw [← hB12]; exact hB))) 0 j (by omega) hj (by omega)
        exact le_le hw (le_le hw s1 base) s2
      have f2 : ∀ w ∈ B1, ∀ u ∈ A2, ltc cmp w u = true := by
        intro v hv u hu
        obtain ⟨i, hi, rfl⟩ := List.getElem_of_mem hu
        obtain ⟨j, hj, rfl⟩ := List.getElem_of_mem hv
        have hA2p : 0 < A2.length := by omega
        have hB1p : y - 1 < B1.length := by omega
        have eA : A[x]? = some (A2[0]'hA2p) := by rw [hA12, List.getElem?_append_right (by omega), hA1l, List.getElem?_eq_getElem (by omega)]; congr 2; omega
        have eB : B[y - 1]? = some (B1[y - 1]'hB1p) := by rw [hB12, List.getElem?_append_left (by omega), List.getElem?_eq_getElem (by omega)]
        have base := hhi x (y - 1) _ _ (by omega) (Nat.le_refl _) (by omega) eA eB
        have s1 : ltc cmp A2[i] (A2[0]'hA2p) = false := by
          by_cases ei : i = 0
          · subst ei; exact irr hw _
          · exact (List.pairwise_iff_getElem.1 (Srt.right (A := A1) (by rw [← hA12]; exact hA))) 0 i (by omega) hi (by omega)
        have s2 : ltc cmp (B1[y - 1]'hB1p) B1[j] = false := by
          by_cases ej : j = y - 1
          · subst ej; exact irr hw _
          · exact (List.pairwise_iff_getElem.1 (Srt.left (B := B2) (by rw [← hB12]; exact hB))) j (y - 1) hj (by omega) (by omega)
        exact le_lt hw s2 (lt_le hw base s1)
      have hfin := hgoal A1 A2 B1 B2 hA12 hB12 f1 f2
      have sA1 : Srt (ltc cmp) A1 := Srt.left (B := A2) (by rw [← hA12]; exact hA)
      have sA2 : Srt (ltc cmp) A2 := Srt.right (A := A1) (by rw [← hA12]; exact hA)
      have sB1 : Srt (ltc cmp) B1 := Srt.left (B := B2) (by rw [← hB12]; exact hB)
      have sB2 : Srt (ltc cmp) B2 := Srt.right (A := B1) (by rw [← hB12]; exact hB)
      have w5 : W64 ((nn : Int) - ((a + x : Nat) : Int)) ((mm + y : Nat) : Int) := .mk' (by omega) (by omega) (by omega)
      have hc1 : x < A.length → x < H → callL T fr [.row (.mem ix) 0 N, .int .i64 ((a + x : Nat) : Int), .int .i64 mm, .int .i64 ((mm + y : Nat) : Int), .fn (.func gf) caps] (mrow e m ix d) = some (.tup [], mrow e m ix (P ++ A1 ++ B1 ++ A2 ++ B2 ++ S)) := fun c1 c2 => by
        have := ct_rotate hTr hTw he hix (.fn (.func gf) caps) rfl rfl (P := P ++ A1) (A := A2) (B := B1) (S := B2 ++ S) (List.length_pos_iff.1 (by omega)) (List.length_pos_iff.1 (by omega)) (N := N) (a := a + x) (mm := mm) (b := mm + y) (d := d) (by rw [hd, hA12, hB12]; simp) hN hmax (by simp; omega) (by simp; omega) (by simp; omega)
        rw [this]; simp
      have hn1 : ¬ (x < A.length ∧ x < H) → d = P ++ A1 ++ B1 ++ A2 ++ B2 ++ S := fun c => by
        rw [hd, hA12, hB12]
        by_cases c1 : x < A.length
        · have : B1 = [] := List.length_eq_zero_iff.1 (by omega)
          simp [this]
        · have : A2 = [] := List.length_eq_zero_iff.1 (by omega)
          simp [this]
      have hc2 : 0 < x → x < H → callL T f [.row (.mem ix) 0 N, .int .i64 a, .int .i64 ((a + x : Nat) : Int), .int .i64 mid, .fn (.func gf) caps] (mrow e m ix (P ++ A1 ++ B1 ++ A2 ++ B2 ++ S)) = some (.tup [], mrow e m ix (P ++ srt (ltc cmp) (A1 ++ B1) ++ A2 ++ B2 ++ S)) := fun c1 c2 => by
        have := ih (A1.length + B1.length) (by omega) (P := P) (A := A1) (B := B1) (S := A2 ++ B2 ++ S) rfl sA1 sB1 (List.length_pos_iff.1 (by omega)) (List.length_pos_iff.1 (by omega)) (N := N) (a := a) (mm := a + x) (b := mid) (d := P ++ A1 ++ B1 ++ A2 ++ B2 ++ S) (by simp) (by simp; omega) hmax ha (by omega) (by omega)
        rw [this]; simp
      have hn2 : ¬ (0 < x ∧ x < H) → P ++ A1 ++ B1 ++ A2 ++ B2 ++ S = P ++ srt (ltc cmp) (A1 ++ B1) ++ A2 ++ B2 ++ S := fun c => by
        have : srt (ltc cmp) (A1 ++ B1) = A1 ++ B1 := by
          refine srt_eq hw (.refl ?_)
          by_cases c1 : 0 < x
          · have : B1 = [] := List.length_eq_zero_iff.1 (by omega)
            simpa [this] using sA1
          · have : A1 = [] := List.length_eq_zero_iff.1 (by omega)
            simpa [this] using sB1
        rw [this]; simp
      have hl12 : (srt (ltc cmp) (A1 ++ B1)).length = A1.length + B1.length := by rw [srt_len hw]; simp
      have hc3 : x < A.length → y < B.length → callL T f [.row (.mem ix) 0 N, .int .i64 mid, .int .i64 ((mm + y : Nat) : Int), .int .i64 b, .fn (.func gf) caps] (mrow e m ix (P ++ srt (ltc cmp) (A1 ++ B1) ++ A2 ++ B2 ++ S)) = some (.tup [], mrow e m ix G) := fun c1 c2 => by
        have := ih (A2.length + B2.length) (by omega) (P := P ++ srt (ltc cmp) (A1 ++ B1)) (A := A2) (B := B2) (S := S) rfl sA2 sB2 (List.length_pos_iff.1 (by omega)) (List.length_pos_iff.1 (by omega)) (N := N) (a := mid) (mm := mm + y) (b := b) (d := P ++ srt (ltc cmp) (A1 ++ B1) ++ A2 ++ B2 ++ S) rfl (by simp [hl12]; omega) hmax (by simp [hl12]; omega) (by omega) (by omega)
        rw [this, hfin]
      have hn3 : ¬ (x < A.length ∧ y < B.length) → P ++ srt (ltc cmp) (A1 ++ B1) ++ A2 ++ B2 ++ S = G := fun c => by
        have : srt (ltc cmp) (A2 ++ B2) = A2 ++ B2 := by
          refine srt_eq hw (.refl ?_)
          by_cases c1 : x < A.length
          · have : B2 = [] := List.length_eq_zero_iff.1 (by omega)
            simpa [this] using sA2
          · have : A2 = [] := List.length_eq_zero_iff.1 (by omega)
            simpa [this] using sB2
        rw [← hfin, this]; simp
      have t1 : (a + x < mm) = (x < A.length) := by simp; omega
      have t2 : (mm < mm + y) = (x < H) := by simp; omega
      have t3 : (a < a + x) = (0 < x) := by simp
      have t4 : (a + x < mid) = (x < H) := by simp; omega
      have t5 : (mid < mm + y) = (x < A.length) := by simp; omega
      have t6 : (mm + y < b) = (y < B.length) := by simp; omega
      clear hfin f1 f2 hlo hhi hdA hdB ih hgoal
      generalize P ++ A1 ++ B1 ++ A2 ++ B2 ++ S = D1 at *
      generalize P ++ srt (ltc cmp) (A1 ++ B1) ++ A2 ++ B2 ++ S = D2 at *
      generalize hax : a + x = ax at *
      generalize hen : mm + y = en at *
      have hlt' : ¬ ax < ax := by omega
      clear hd hN hA12 hB12
      by_cases c1 : x < A.length <;> by_cases c2 : x < H <;> by_cases c3 : 0 < x <;> by_cases c4 : y < B.length
      all_goals
        first | (have k1 := hc1 c1 c2) | (have k1 := hn1 (by omega))
        first | (have k2 := hc2 c3 c2) | (have k2 := hn2 (by omega))
        first | (have k3 := hc3 c1 c4) | (have k3 := hn3 (by omega))
        simp [e0, e1, e2, e3, e4, e18, e19, e20, e21, e22, hm, w5.eq, t1, t2, t3, t4, t5, t6, c1, c2, c3, c4, k1, k2, k3, -Int.natCast_add]
end
end Go.Vm
/- Stable sorting in place: SortStableFunc's contract. -/
namespace Go.Vm
open Stable
section
variable {T : FuncId → Option VF} {α : Type}
set_option maxRecDepth 10000
set_option maxHeartbeats 8000000

theorem ct_stable {ag : Option Nat} {wv : α → AV} {e : α → List AV} {n f ix fi fm fr fw gf : Nat} {caps : List AV} (hT : T f = some (cStable fi fm)) (hTi : T fi = some (cInsertG ag n)) (hTm : T fm = some (cMergeG ag n fr fm)) (hTr : T fr = some (cRotate fw)) (hTw : T fw = some (cSwapRG ag n)) (he : Elw ag e wv n) {cmp : α → α → Int} (hw : SWO (ltc cmp))
    (hcmp : ∀ x y, callL T gf (wv x :: wv y :: caps.map AV.view) [] = some (.int .i64 (cmp x y), [])) {m : Mem} (hix : ix < m.length) {A : List α} {N : Nat} (hN : N = A.length) (hmax : N < 1152921504606846976) :
    callL T f [.row (.mem ix) 0 N, .int .i64 N, .fn (.func gf) caps] (mrow e m ix A) = some (.tup [], mrow e m ix (srt (ltc cmp) A)) := by
  apply callL_body hT rfl
  simp [cStable]
  refine wp_loop (fun w s => ∃ D1 A2 : List α, w = A2.length ∧ D1.length + A2.length = N ∧ D1 ++ chs (ltc cmp) 20 A2 = chs (ltc cmp) 20 A ∧ s.get 0 = .row (.mem ix) 0 N ∧ s.get 1 = .int .i64 N ∧ s.get 2 = .fn (.func gf) caps ∧ s.get 6 = .int .i64 20 ∧ s.get 7 = .int .i64 (D1.length : Nat) ∧ s.get 8 = .int .i64 ((D1.length + 20 : Nat) : Int) ∧ s.mem = mrow e m ix (D1 ++ A2)) ?_ A.length _ ?_
  rotate_left
  · exact ⟨[], A, rfl, by simp [hN], by simp, by simp, by simp, by simp, by simp, by simp, by simp, by simp⟩
  rintro w s ⟨D1, A2, hwl, hl, hch, e0, e1, e2, e6, e7, e8, hm⟩
  by_cases hle : D1.length + 20 ≤ N
  · obtain ⟨X, Y, hXY, hX⟩ : ∃ X Y, A2 = X ++ Y ∧ X.length = 20 := ⟨A2.take 20, A2.drop 20, by simp, by simp; omega⟩
    have hA2l : A2.length = X.length + Y.length := by rw [hXY]; simp
    have hc := ct_insert hTi he hw hcmp hix (P := D1) (A := X) (S := Y) (N := N) (a := D1.length) (b := D1.length + 20) (d := D1 ++ A2) (by rw [hXY]; simp) (by simp; omega) (by omega) rfl (by omega)
    have hls : (D1 ++ srt (ltc cmp) X).length = D1.length + 20 := by simp [srt_len hw, hX]
    have w1 : W64 (((D1.length + 20 : Nat) : Int) + 20) (((D1.length + 20) + 20 : Nat) : Int) := .mk' (by omega) (by omega) (by omega)
    have hnx : ∃ n', n' < w ∧ ∃ D1' A2' : List α, n' = A2'.length ∧ D1'.length + A2'.length = N ∧ D1' ++ chs (ltc cmp) 20 A2' = chs (ltc cmp) 20 A ∧ D1.length + 20 = D1'.length ∧ D1 ++ srt (ltc cmp) X ++ Y = D1' ++ A2' := by
      refine ⟨Y.length, by omega, D1 ++ srt (ltc cmp) X, Y, rfl, by omega, ?_, hls.symm, rfl⟩
      rw [← hch, hXY, chs_app (by omega) hX]; simp
    obtain ⟨n', y1, D1', A2', y2, y3, y4, y5, y6⟩ := hnx
    rw [y6] at hc
    rw [y5] at e8 hc hle w1
    generalize D1.length = dl at *
    generalize D1 ++ A2 = D at *
    simp [e0, e1, e2, e6, e7, e8, hm, hle, hc, w1.eq, -Int.natCast_add]
    exact ⟨n', y1, D1', A2', y2, y3, y4, rfl, rfl, rfl⟩
  have hA2l : A2.length < 20 := by omega
  have hc := ct_insert hTi he hw hcmp hix (P := D1) (A := A2) (S := []) (N := N) (a := D1.length) (b := N) (d := D1 ++ A2) (by simp) (by simp; omega) (by omega) rfl (by omega)
  have hch2 : D1 ++ srt (ltc cmp) A2 ++ [] = chs (ltc cmp) 20 A := by rw [← hch, chs_last (by omega) (by omega)]; simp
  rw [hch2] at hc
  have hlen20 : (chs (ltc cmp) 20 A).length = N := by rw [chs_len hw (by omega) _ A rfl, hN]
  generalize hdl : D1.length = dl at *
  generalize D1 ++ A2 = D at *
  simp [e0, e1, e2, e7, e8, hm, hle, hc, -Int.natCast_add]
  -- chunks that double
  refine wp_loop (fun w s => ∃ bs : Nat, w = N - bs ∧ 20 ≤ bs ∧ bs < 2305843009213693952 ∧ s.get 0 = .row (.mem ix) 0 N ∧ s.get 1 = .int .i64 N ∧ s.get 2 = .fn (.func gf) caps ∧ s.get 6 = .int .i64 bs ∧ s.mem = mrow e m ix (chs (ltc cmp) bs A)) ?_ (N - 20) _ ?_
  rotate_left
  · exact ⟨20, rfl, by omega, by omega, by simp [e0], by simp [e1], by simp [e2], by simp [e6], by simp⟩
  clear e0 e1 e2 e6 e7 e8 hm hc
  rintro w s ⟨bs, hwl, h20, hbs, e0, e1, e2, e6, hm⟩
  by_cases hlt : bs < N
  rotate_left
  · have : chs (ltc cmp) bs A = srt (ltc cmp) A := chs_last (by omega) (by omega)
    rw [this] at hm
    simp [e1, e6, hm, hlt]
  have w1 : W64 (2 * (bs : Int)) ((2 * bs : Nat) : Int) := .mk' (by omega) (by omega) (by omega)
  simp [e1, e6, hlt, w1.eq, -Int.natCast_mul]
  refine wp_loop (fun w s => ∃ D1 A2 : List α, w = A2.length ∧ D1.length + A2.length = N ∧ D1 ++ chs (ltc cmp) (2 * bs) A2 = chs (ltc cmp) (2 * bs) A ∧ s.get 0 = .row (.mem ix) 0 N ∧ s.get 1 = .int .i64 N ∧ s.get 2 = .fn (.func gf) caps ∧ s.get 6 = .int .i64 bs ∧ s.get 7 = .int .i64 (D1.length : Nat) ∧ s.get 8 = .int .i64 ((D1.length + 2 * bs : Nat) : Int) ∧ s.mem = mrow e m ix (D1 ++ chs (ltc cmp) bs A2)) ?_ A.length _ ?_
  rotate_left
  · exact ⟨[], A, rfl, by simp [hN], by simp, by simp [e0], by simp [e1], by simp [e2], by simp [e6], by simp, by simp, by simp [hm]⟩
  clear e0 e1 e2 e6 hm
  rintro w2 s ⟨D1, A2, hwl2, hl2, hch2, e0, e1, e2, e6, e7, e8, hm⟩
  by_cases hle2 : D1.length + 2 * bs ≤ N
  · obtain ⟨X, Y, Z, hXYZ, hX, hY⟩ : ∃ X Y Z, A2 = X ++ Y ++ Z ∧ X.length = bs ∧ Y.length = bs := ⟨A2.take bs, (A2.drop bs).take bs, (A2.drop bs).drop bs, by rw [List.append_assoc, List.take_append_drop, List.take_append_drop], by simp; omega, by simp; omega⟩
    have hA2l : A2.length = X.length + Y.length + Z.length := by rw [hXYZ]; simp; omega
    have e1' : chs (ltc cmp) bs A2 = srt (ltc cmp) X ++ srt (ltc cmp) Y ++ chs (ltc cmp) bs Z := by
      rw [hXYZ, List.append_assoc, chs_app (by omega) hX, chs_app (by omega) hY]; simp
    have e2' : chs (ltc cmp) (2 * bs) A2 = srt (ltc cmp) (X ++ Y) ++ chs (ltc cmp) (2 * bs) Z := by
      rw [hXYZ, chs_app (by omega) (by simp; omega)]
    have lX := srt_len hw X
    have lY := srt_len hw Y
    have lZ := chs_len hw (n := bs) (by omega) _ Z rfl
    have hc := ct_merge hTm hTr hTw he hw hcmp hix _ (P := D1) (A := srt (ltc cmp) X) (B := srt (ltc cmp) Y) (S := chs (ltc cmp) bs Z) rfl (stab_srt hw X).1 (stab_srt hw Y).1 (List.length_pos_iff.1 (by omega)) (List.length_pos_iff.1 (by omega)) (N := N) (a := D1.length) (mm := D1.length + bs) (b := D1.length + 2 * bs) (d := D1 ++ chs (ltc cmp) bs A2) (by rw [e1']; simp) (by rw [e1']; simp; omega) (by omega) rfl (by omega) (by omega)
    rw [srt_srt_app hw] at hc
    have w3 : W64 (((D1.length : Nat) : Int) + bs) ((D1.length + bs : Nat) : Int) := .mk' (by omega) (by omega) (by omega)
    have w4 : W64 (((D1.length + 2 * bs : Nat) : Int) + ((2 * bs : Nat) : Int)) (((D1.length + 2 * bs) + 2 * bs : Nat) : Int) := .mk' (by omega) (by omega) (by omega)
    have hnx : ∃ n', n' < w2 ∧ ∃ D1' A2' : List α, n' = A2'.length ∧ D1'.length + A2'.length = N ∧ D1' ++ chs (ltc cmp) (2 * bs) A2' = chs (ltc cmp) (2 * bs) A ∧ D1.length + 2 * bs = D1'.length ∧ D1 ++ srt (ltc cmp) (X ++ Y) ++ chs (ltc cmp) bs Z = D1' ++ chs (ltc cmp) bs A2' := by
      have hls : (D1 ++ srt (ltc cmp) (X ++ Y)).length = D1.length + 2 * bs := by simp [srt_len hw]; omega
      refine ⟨Z.length, by omega, D1 ++ srt (ltc cmp) (X ++ Y), Z, rfl, by omega, ?_, hls.symm, rfl⟩
      rw [← hch2, e2']; simp
    obtain ⟨n', y1, D1', A2', y2, y3, y4, y5, y6⟩ := hnx
    rw [y6] at hc
    rw [y5] at e8 hc hle2 w4
    generalize D1.length + bs = dm at *
    generalize D1.length = dl at *
    generalize D1 ++ chs (ltc cmp) bs A2 = D at *
    simp [e0, e1, e2, e6, e7, e8, hm, hle2, hc, w1.eq, w3.eq, w4.eq, -Int.natCast_add, -Int.natCast_mul]
    exact ⟨n', y1, D1', A2', y2, y3, y4, rfl, rfl, rfl⟩
  -- the rest
  have w3 : W64 (((D1.length : Nat) : Int) + bs) ((D1.length + bs : Nat) : Int) := .mk' (by omega) (by omega) (by omega)
  have w5 : W64 ((bs : Int) * 2) ((2 * bs : Nat) : Int) := .mk' (by omega) (by omega) (by omega)
  have hbs2 : ∃ n', n' < w ∧ n' = N - 2 * bs := ⟨_, by omega, rfl⟩
  by_cases hmn : D1.length + bs < N
  · obtain ⟨X, Y, hXY, hX⟩ : ∃ X Y, A2 = X ++ Y ∧ X.length = bs := ⟨A2.take bs, A2.drop bs, by simp, by simp; omega⟩
    have hA2l : A2.length = X.length + Y.length := by rw [hXY]; simp
    have e1' : chs (ltc cmp) bs A2 = srt (ltc cmp) X ++ srt (ltc cmp) Y := by
      rw [hXY, chs_app (by omega) hX, chs_last (by omega) (by omega)]
    have e2' : chs (ltc cmp) (2 * bs) A2 = srt (ltc cmp) (X ++ Y) := by
      rw [hXY, chs_last (by omega) (by simp; omega)]
    have lX := srt_len hw X
    have lY := srt_len hw Y
    have hc := ct_merge hTm hTr hTw he hw hcmp hix _ (P := D1) (A := srt (ltc cmp) X) (B := srt (ltc cmp) Y) (S := []) rfl (stab_srt hw X).1 (stab_srt hw Y).1 (List.length_pos_iff.1 (by omega)) (List.length_pos_iff.1 (by omega)) (N := N) (a := D1.length) (mm := D1.length + bs) (b := N) (d := D1 ++ chs (ltc cmp) bs A2) (by rw [e1']; simp) (by rw [e1']; simp; omega) (by omega) rfl (by omega) (by omega)
    rw [srt_srt_app hw, List.append_nil, ← e2', hch2] at hc
    generalize D1.length + 2 * bs = dn at *
    generalize D1.length + bs = dm at *
    generalize D1.length = dl at *
    generalize D1 ++ chs (ltc cmp) bs A2 = D at *
    simp [e0, e1, e2, e6, e7, e8, hm, hle2, hc, hmn, w3.eq, w5.eq, -Int.natCast_add, -Int.natCast_mul]
    obtain ⟨n', y1, y2⟩ := hbs2
    exact ⟨n', y1, 2 * bs, y2, by omega, by omega, rfl, rfl⟩
  · have e1' : chs (ltc cmp) bs A2 = chs (ltc cmp) (2 * bs) A2 := by
      rw [chs_last (by omega) (by omega), chs_last (by omega) (by omega)]
    rw [e1', hch2] at hm
    generalize D1.length + 2 * bs = dn at *
    generalize D1.length + bs = dm at *
    generalize D1.length = dl at *
    simp [e0, e1, e2, e6, e7, e8, hm, hle2, hmn, w3.eq, w5.eq, -Int.natCast_add, -Int.natCast_mul]
    obtain ⟨n', y1, y2⟩ := hbs2
    exact ⟨n', y1, 2 * bs, y2, by omega, by omega, rfl, rfl⟩

theorem ct_sortStableG {ag : Option Nat} {wv : α → AV} {e : α → List AV} {n f ix ft fi fm fr fw gf : Nat} {caps : List AV} (hT : T f = some (cSortStable ft)) (hTt : T ft = some (cStable fi fm)) (hTi : T fi = some (cInsertG ag n)) (hTm : T fm = some (cMergeG ag n fr fm)) (hTr : T fr = some (cRotate fw)) (hTw : T fw = some (cSwapRG ag n)) (he : Elw ag e wv n) {cmp : α → α → Int} (hw : SWO (ltc cmp))
    (hcmp : ∀ x y, callL T gf (wv x :: wv y :: caps.map AV.view) [] = some (.int .i64 (cmp x y), [])) {m : Mem} (hix : ix < m.length) {A : List α} {N : Nat} (hN : N = A.length) (hmax : N < 1152921504606846976) :
    callL T f [.row (.mem ix) 0 N, .fn (.func gf) caps] (mrow e m ix A) = some (.tup [], mrow e m ix (srt (ltc cmp) A)) := by
  have hc := ct_stable hTt hTi hTm hTr hTw he hw hcmp hix hN hmax
  apply callL_body hT rfl
  simp [cSortStable, hc]
theorem ct_sortStable {e : α → List AV} {n f ix ft fi fm fr fw gf : Nat} (hT : T f = some (cSortStable ft)) (hTt : T ft = some (cStable fi fm)) (hTi : T fi = some (cInsert n)) (hTm : T fm = some (cMerge n fr fm)) (hTr : T fr = some (cRotate fw)) (hTw : T fw = some (cSwapR n)) (he : Els e n) {cmp : α → α → Int} (hw : SWO (ltc cmp))
    (hcmp : ∀ x y, callL T gf (.agg (e x) :: .agg (e y) :: ([] : List AV).map AV.view) [] = some (.int .i64 (cmp x y), [])) {m : Mem} (hix : ix < m.length) {A : List α} {N : Nat} (hN : N = A.length) (hmax : N < 1152921504606846976) :
    callL T f [.row (.mem ix) 0 N, .fn (.func gf) []] (mrow e m ix A) = some (.tup [], mrow e m ix (srt (ltc cmp) A)) :=
  ct_sortStableG hT hTt hTi hTm hTr hTw he.agg hw hcmp hix hN hmax
end
end Go.Vm
/- Rules: rows that are appended to in memory, lists of numbers wherever they lie. -/
namespace Go.Vm
section
variable {T : FuncId → Option VF} {s : St} {is : List VI} {K : St → Prop} {d : Option Nat} {α : Type}

variable (T) in
def appCellsK (esz bytes i len : Nat) (d : Option Nat) (is : List VI) (s : St) (K : St → Prop) (ys : List AV) : Option (Option LObj) → Prop
  | some (some (.cells false cs)) => ys.isEmpty = false ∧ len * esz ≤ cs.length ∧ 0 < bytes ∧ (len + ys.length) * bytes ≤ 140737488355328 ∧
      wpo T is ((s.withMem (s.mem.set i none ++ [some (.cells false ((cs.take (len * esz) ++ flat ys).map AV.view))])).put d (.orow esz s.mem.length (len + ys.length))) K
  | _ => False
@[simp] theorem appCellsK_mk {esz bytes i len : Nat} {ys cs : List AV} : appCellsK T esz bytes i len d is s K ys (some (some (.cells false cs))) = (ys.isEmpty = false ∧ len * esz ≤ cs.length ∧ 0 < bytes ∧ (len + ys.length) * bytes ≤ 140737488355328 ∧
      wpo T is ((s.withMem (s.mem.set i none ++ [some (.cells false ((cs.take (len * esz) ++ flat ys).map AV.view))])).put d (.orow esz s.mem.length (len + ys.length))) K) := rfl
variable (T) in
def appOK (esz bytes : Nat) (d : Option Nat) (is : List VI) (s : St) (K : St → Prop) : AV → Option (List AV) → Prop
  | .vec _ false _, some ys => ys.isEmpty = false ∧ 0 < bytes ∧ ys.length * bytes ≤ 140737488355328 ∧ wpo T is ((addMem s (.cells false ((flat ys).map AV.view))).put d (.orow esz s.mem.length ys.length)) K
  | .zcap _, some ys => ys.isEmpty = false ∧ 0 < bytes ∧ ys.length * bytes ≤ 140737488355328 ∧ wpo T is ((addMem s (.cells false ((flat ys).map AV.view))).put d (.orow esz s.mem.length ys.length)) K
  | .orow z i len, some ys => z = esz ∧ appCellsK T esz bytes i len d is s K ys s.mem[i]?
  | _, _ => False
@[simp] theorem appOK_nil {esz bytes : Nat} {o : Option Nat} {xs ys : List AV} : appOK T esz bytes d is s K (.vec o false xs) (some ys) = (ys.isEmpty = false ∧ 0 < bytes ∧ ys.length * bytes ≤ 140737488355328 ∧ wpo T is ((addMem s (.cells false ((flat ys).map AV.view))).put d (.orow esz s.mem.length ys.length)) K) := rfl
@[simp] theorem appOK_zcap {esz bytes : Nat} {nn : Bool} {ys : List AV} : appOK T esz bytes d is s K (.zcap nn) (some ys) = (ys.isEmpty = false ∧ 0 < bytes ∧ ys.length * bytes ≤ 140737488355328 ∧ wpo T is ((addMem s (.cells false ((flat ys).map AV.view))).put d (.orow esz s.mem.length ys.length)) K) := rfl
@[simp] theorem appOK_orow {esz bytes z i len : Nat} {ys : List AV} : appOK T esz bytes d is s K (.orow z i len) (some ys) = (z = esz ∧ appCellsK T esz bytes i len d is s K ys s.mem[i]?) := rfl
@[simp] theorem wx_appendO {esz bytes : Nat} {a x : VO} : wpo T (⟨d, .appendO esz bytes a x, none⟩ :: is) s K = appOK T esz bytes d is s K (s.ev a) (elems? esz (s.ev x)) := by
  rw [wpo_op rfl]
  simp only [exec]
  cases elems? esz (s.ev x) with
  | none =>
    cases s.ev a with
    | vec o nn xs => cases nn <;> rfl
    | _ => rfl
  | some ys =>
    cases s.ev a with
    | vec o nn xs =>
      cases nn with
      | true => rfl
      | false =>
        simp only [appO, appOK]
        by_cases h : ys.isEmpty = false ∧ 0 < bytes ∧ ys.length * bytes ≤ 140737488355328
        · rw [if_pos h]; simp only [h, true_and]; rfl
        · rw [if_neg h, eq_iff_iff]
          exact ⟨fun h => h.elim, fun h' => (h ⟨h'.1, h'.2.1, h'.2.2.1⟩).elim⟩
    | zcap nn =>
      simp only [appO, appOK]
      by_cases h : ys.isEmpty = false ∧ 0 < bytes ∧ ys.length * bytes ≤ 140737488355328
      · rw [if_pos h]; simp only [h, true_and]; rfl
      · rw [if_neg h, eq_iff_iff]
        exact ⟨fun h => h.elim, fun h' => (h ⟨h'.1, h'.2.1, h'.2.2.1⟩).elim⟩
    | orow z i len =>
      simp only [appO, appOK]
      cases hm : s.mem[i]? with
      | none => simp [appCellsK, putK]
      | some ob =>
        cases ob with
        | none => simp [appCellsK, putK]
        | some ob =>
          cases ob with
          | iter b p => simp [appCellsK, putK]
          | cells f cs =>
            cases f with
            | true => simp [appCellsK, putK]
            | false =>
              simp only [appCellsK]
              by_cases h : z = esz ∧ ys.isEmpty = false ∧ len * esz ≤ cs.length ∧ 0 < bytes ∧ (len + ys.length) * bytes ≤ 140737488355328
              · rw [if_pos h]; simp only [h, true_and]; rfl
              · rw [if_neg h, eq_iff_iff]
                exact ⟨fun h => h.elim, fun h' => (h ⟨h'.1, h'.2.1, h'.2.2.1, h'.2.2.2.1, h'.2.2.2.2.1⟩).elim⟩
    | _ => rfl

/-- A slice of whole numbers, as a vector or as a row in memory. -/
structure IntSl (v : AV) (m : Mem) (zs : List Int) : Prop where
  len : lenSlV v = some (.int .i64 zs.length)
  view : v.view = v
  nl : v.nl = true
  tk : ∀ s t, takeV s t v = (v, s)
  good : v.good = true
  one : v.one = true
  cells : v.cells = [v]
  adr : ∀ i : Nat, i < zs.length → ∃ a, iaddrSlV 1 v (.int .i64 i) = some a ∧ (∀ s : St, s.mem = m → loadV none s a = some (.int .i64 (zs.getD i 0))) ∧ ((∀ t k o, apart (.ptr (.loc t k) o) a = true) ∧ a.view = a ∧ a.nl = true)
theorem IntSl.vec (nn : Bool) (m : Mem) (zs : List Int) : IntSl (vv none nn (AV.int .i64) zs) m zs :=
  { len := by simp
    view := rfl
    nl := rfl
    tk := fun _ _ => rfl
    good := rfl
    one := rfl
    cells := rfl
    adr := fun i h => by
      refine ⟨.vptr [.int .i64 (zs.getD i 0)] 0, ?_, fun s _ => ?_, fun _ _ _ => rfl, rfl, rfl⟩
      · have hg : gi zs (i : Int) = zs.getD i 0 := by rw [gi_nat h]; simp [List.getD, h]
        simp [h, hg]
      · simp }
theorem IntSl.row {m : Mem} {k : Nat} {zs : List Int} (h : m[k]? = some (some (.cells false (zs.map (AV.int .i64))))) : IntSl (.row (.mem k) 0 zs.length) m zs :=
  { len := by simp
    view := rfl
    nl := rfl
    tk := fun _ _ => rfl
    good := rfl
    one := rfl
    cells := rfl
    adr := fun i hi => by
      refine ⟨.ptr (.mem k) (0 + i * 1), ?_, fun s hs => ?_, fun _ _ _ => rfl, rfl, rfl⟩
      · have : (i : Int) < zs.length := by omega
        simp [hi]
      · subst hs
        have ho : s.obj (.mem k) = some (.cells false (zs.map (AV.int .i64))) := by
          show (match s.mem[k]? with | some o => o | none => none) = _
          rw [h]
        simp [ho, objCells, hi, List.getD] }
end
end Go.Vm
