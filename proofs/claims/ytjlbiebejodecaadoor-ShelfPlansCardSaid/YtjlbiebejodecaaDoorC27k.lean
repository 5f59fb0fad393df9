/- Chapter 27: what its functions compute. -/
import Derived.Test.YtjlbiebejodecaaDoorC27j
namespace Go.Vm.Ch27
open _root_.Ch27 (T27 c27 c28 c57 c73 c29 c58 c30 c31)
set_option maxRecDepth 10000
set_option maxHeartbeats 8000000
def wideB (P : List Prt) (w : Int) : Bool := P.any fun p => decide (w < p.w)
def nrw (P : List Prt) (w kf : Int) : Int := if chk P w 1 kf = 0 then (if wideB P w then 12 else 0) else chk P w 1 kf
theorem q73 (p : Prt) (w : Int) (m : Mem) : callL T27 73 [.agg (ep p), .vptr [AV.int IntKind.i64 w] 0] m = some (.bool (decide (w < p.w)), m) := by
  apply callL_body (vf := c73) rfl rfl
  simp [c73]
theorem q57 (P : List Prt) (nn : Bool) (w kf : Int) (hs : Sml P) (m : Mem) : callL T27 57 [pv nn P, AV.int IntKind.i64 w, AV.int IntKind.i64 kf] m = some (AV.int IntKind.i64 (nrw P w kf), m) := by
  have hl := hs.len
  have h14 := q14 P nn w 1 kf hs []
  have h38 := q38 P nn 73 [.vptr [AV.int IntKind.i64 w] 0] (fun p => decide (w < p.w)) (fun z _ => q73 z w []) (by omega) []
  apply callL_body (vf := c57) rfl rfl
  unfold nrw
  by_cases hc : chk P w 1 kf = 0
  · rw [hc] at h14
    have e : (P.any fun p => decide (w < p.w)) = wideB P w := rfl
    rw [e] at h38
    cases hW : wideB P w <;> rw [hW] at h38 <;> simp [c57, h14, h38, hc]
  · simp [c57, h14, hc]
theorem q58 (P : List Prt) (nn : Bool) (w : Int) (hl : P.length ≤ 1000000) (m : Mem) : callL T27 58 [pv nn P, AV.int IntKind.i64 w] m = some (.bool (wideB P w), m) := by
  apply callL_body (vf := c58) rfl rfl
  simp [c58]
  refine wp_loop (fun n s => ∃ i : Nat, n = P.length - i ∧ i ≤ P.length ∧ s.get 0 = pv nn P ∧ s.get 1 = AV.int IntKind.i64 w ∧ s.get 5 = AV.int IntKind.i64 i ∧ s.mem = m ∧ ∀ j (h : j < P.length), j < i → ¬ w < P[j].w) ?_ P.length _ ?_
  rotate_left
  · exact ⟨0, by simp⟩
  rintro n s ⟨i, hn, hi, e0, e1, e5, hm, hbef⟩
  have w1 : IntKind.wrap .i64 ((i : Int) + 1) = (i : Int) + 1 := wrap64 (by omega) (by omega)
  by_cases hlt : i < P.length
  · by_cases hz : w < P[i].w
    · have : wideB P w = true := by unfold wideB; rw [List.any_eq_true]; exact ⟨_, List.getElem_mem hlt, by simpa using hz⟩
      simp [e0, e1, e5, hm, hlt, gi_nat hlt, hz, this]
    · simp [e0, e1, e5, hm, hlt, gi_nat hlt, hz, w1]
      refine ⟨P.length - (i + 1), by omega, i + 1, rfl, by omega, rfl, fun j hj hlt => ?_⟩
      by_cases e : j = i
      · subst e; omega
      · have := hbef j hj (by omega); omega
  have hna : wideB P w = false := by
    unfold wideB
    rw [List.any_eq_false]
    intro x hx
    obtain ⟨j, hj, rfl⟩ := List.getElem_of_mem hx
    simpa using hbef j hj (by omega)
  simp [e0, e5, hm, hlt, hna]
theorem q29 (P : List Prt) (nn : Bool) (w kf : Int) (hs : Sml P) (m : Mem) : callL T27 29 [pv nn P, AV.int IntKind.i64 w, AV.int IntKind.i64 kf] m = some (AV.int IntKind.i64 (nrw P w kf), m) := by
  have hl := hs.len
  have h16 := q16 P nn w 1 kf hs []
  have h58 := q58 P nn w (by omega) []
  apply callL_body (vf := c29) rfl rfl
  unfold nrw
  by_cases hc : chk P w 1 kf = 0
  · rw [hc] at h16
    cases hW : wideB P w <;> rw [hW] at h58 <;> simp [c29, h16, h58, hc]
  · simp [c29, h16, hc]
theorem nrw_inv {P : List Prt} {w kf : Int} (h : nrw P w kf = 0) : chk P w 1 kf = 0 ∧ ∀ p ∈ P, p.w ≤ w := by
  unfold nrw at h
  split at h
  · rename_i hc
    refine ⟨hc, fun p hp => ?_⟩
    split at h
    · omega
    · rename_i hw
      unfold wideB at hw
      simp only [Bool.not_eq_true] at hw
      rw [List.any_eq_false] at hw
      have := hw p hp
      simp at this; omega
  · rename_i hc; exact absurd h hc
theorem q27 (P : List Prt) (nn : Bool) (w kf : Int) (hs : Sml P) (m : Mem) :
    callL T27 27 [pv nn P, AV.int IntKind.i64 w, AV.int IntKind.i64 kf] m = some (if nrw P w kf = 0 then (.tup [AV.int IntKind.i64 (max 0 (packS P w (-1) kf (ord P)).top), AV.int IntKind.i64 0], ordM P m) else (.tup [AV.int IntKind.i64 0, AV.int IntKind.i64 (nrw P w kf)], m)) := by
  have h57 := q57 P nn w kf hs []
  have hl := hs.len
  by_cases hc : nrw P w kf = 0
  · rw [if_pos hc]
    rw [hc] at h57
    have h18 := q18 P nn (by omega) m
    have hsl := ordV_sl P m
    have h50 := q50 P nn w (-1) kf (ord P) _ _ hsl (ok_of_chk (nrw_inv hc).1) (by omega)
    apply callL_body (vf := c27) rfl rfl
    simp [c27, h57, h18, h50, hsl.view, hsl.nl, layV]
  · rw [if_neg hc]
    apply callL_body (vf := c27) rfl rfl
    simp [c27, h57, hc]
def bsum (kf : Int) (P : List Prt) : Int := P.foldl (fun s p => s + (p.w + kf) * (p.h + kf)) 0
def hmx (P : List Prt) : Int := P.foldl (fun t p => if t < p.h then p.h else t) 0
def bndv (P : List Prt) (w kf : Int) : Int := (2 * bsum kf P).tdiv (w + kf) + hmx P
theorem bsum_take {kf : Int} {P : List Prt} {i : Nat} (h : i < P.length) : bsum kf (P.take (i + 1)) = bsum kf (P.take i) + (P[i].w + kf) * (P[i].h + kf) := by
  unfold bsum; rw [List.take_succ_eq_append_getElem h, List.foldl_append]; rfl
theorem hmx_take {P : List Prt} {i : Nat} (h : i < P.length) : hmx (P.take (i + 1)) = if hmx (P.take i) < P[i].h then P[i].h else hmx (P.take i) := by
  unfold hmx; rw [List.take_succ_eq_append_getElem h, List.foldl_append]; rfl
def Good (P : List Prt) : Prop := ∀ p ∈ P, (1 ≤ p.w ∧ p.w ≤ 1000000) ∧ (1 ≤ p.h ∧ p.h ≤ 1000000)
theorem prod_le {a b : Int} (ha : 0 ≤ a ∧ a ≤ 1001000) (hb : 0 ≤ b ∧ b ≤ 1001000) : 0 ≤ a * b ∧ a * b ≤ 1002001000000 := by
  refine ⟨Int.mul_nonneg ha.1 hb.1, ?_⟩
  have := Int.mul_le_mul ha.2 hb.2 hb.1 (by omega)
  omega
theorem bsum_b {kf : Int} {P : List Prt} (hg : Good P) (hk : 0 ≤ kf ∧ kf ≤ 1000) : ∀ i, i ≤ P.length → 0 ≤ bsum kf (P.take i) ∧ bsum kf (P.take i) ≤ 1002001000000 * i
  | 0, _ => by simp [bsum]
  | i + 1, hi => by
    rw [bsum_take (by omega)]
    have ih := bsum_b hg hk i (by omega)
    have hp := hg _ (List.getElem_mem (show i < P.length by omega))
    have := prod_le (a := P[i].w + kf) (b := P[i].h + kf) (by omega) (by omega)
    generalize (P[i].w + kf) * (P[i].h + kf) = X at *
    omega
theorem hmx_b {P : List Prt} (hg : Good P) : ∀ i, i ≤ P.length → 0 ≤ hmx (P.take i) ∧ hmx (P.take i) ≤ 1000000
  | 0, _ => by simp [hmx]
  | i + 1, hi => by
    rw [hmx_take (by omega)]
    have ih := hmx_b hg i (by omega)
    have hp := hg _ (List.getElem_mem (show i < P.length by omega))
    split <;> omega
theorem quo_b {S w kf : Int} (hS : 0 ≤ S ∧ S ≤ 80160080000000) (hw : 1 ≤ w) (hk : 0 ≤ kf) : 0 ≤ (2 * S).tdiv (w + kf) ∧ (2 * S).tdiv (w + kf) ≤ 160320160000000 := by
  rw [Int.tdiv_eq_ediv_of_nonneg (by omega)]
  have h1 := Int.ediv_nonneg (show 0 ≤ 2 * S by omega) (show 0 ≤ w + kf by omega)
  have h2 := Int.ediv_le_self (b := w + kf) (show 0 ≤ 2 * S by omega)
  omega
theorem q28 (P : List Prt) (nn : Bool) (w kf : Int) (hs : Sml P) (m : Mem) :
    callL T27 28 [pv nn P, AV.int IntKind.i64 w, AV.int IntKind.i64 kf] m = some (if nrw P w kf = 0 then .tup [AV.int IntKind.i64 (bndv P w kf), AV.int IntKind.i64 0] else .tup [AV.int IntKind.i64 0, AV.int IntKind.i64 (nrw P w kf)], m) := by
  have h57 := q57 P nn w kf hs []
  have hl := hs.len
  by_cases hc : nrw P w kf = 0
  rotate_left
  · rw [if_neg hc]
    apply callL_body (vf := c28) rfl rfl
    simp [c28, h57, hc]
  rw [if_pos hc]
  rw [hc] at h57
  obtain ⟨h1, h2, h3, h4, h5⟩ := chk_inv (nrw_inv hc).1
  have hg : Good P := h2
  apply callL_body (vf := c28) rfl rfl
  simp [c28, h57]
  refine wp_loop (fun n s => ∃ (i : Nat) (os : List LObj), n = P.length - i ∧ i ≤ P.length ∧ s.get 1 = AV.int IntKind.i64 w ∧ s.get 2 = AV.int IntKind.i64 kf ∧ s.get 9 = AV.int IntKind.i64 (bsum kf (P.take i)) ∧ s.get 10 = AV.int IntKind.i64 (hmx (P.take i)) ∧ s.get 20 = pv nn P ∧ s.get 21 = AV.int IntKind.i64 P.length ∧ s.get 22 = AV.int IntKind.i64 i ∧ s.loc 12 = os ∧ s.mem = m) ?_ P.length _ ?_
  rotate_left
  · exact ⟨0, [], by simp [bsum, hmx]⟩
  rintro n s ⟨i, os, hn, hi, e1, e2, e9, e10, e20, e21, e22, l12, hm⟩
  have hb := bsum_b hg h5 i hi
  have hh := hmx_b hg i hi
  by_cases hlt : i < P.length
  · have hbt := bsum_take (kf := kf) hlt
    have hht := hmx_take hlt
    have hb2 := bsum_b hg h5 (i + 1) (by omega)
    have hp := hg _ (List.getElem_mem hlt)
    have hpr := prod_le (a := P[i].w + kf) (b := P[i].h + kf) (by omega) (by omega)
    have gp := gi_nat hlt
    have hnx : ∃ n', n' < n ∧ ∃ i', n' = P.length - i' ∧ i' ≤ P.length ∧ i' = i + 1 := ⟨P.length - (i + 1), by omega, i + 1, rfl, by omega, rfl⟩
    obtain ⟨n', y1, i', y2, y3, y4⟩ := hnx
    rw [← y4] at hbt hht hb2
    generalize P[i] = p at *
    have w1 : W64 ((i : Int) + 1) ((i' : Nat) : Int) := .mkI (by omega) (by omega) (by omega)
    have wa : W64 (p.w + kf) (p.w + kf) := .mkI rfl (by omega) (by omega)
    have wb : W64 (p.h + kf) (p.h + kf) := .mkI rfl (by omega) (by omega)
    generalize hC : (p.w + kf) * (p.h + kf) = C at hbt hpr
    have wc : W64 ((p.w + kf) * (p.h + kf)) C := .mkI hC (by omega) (by omega)
    have wd : W64 (bsum kf (P.take i) + C) (bsum kf (P.take i')) := .mkI (by omega) (by omega) (by omega)
    simp [e1, e2, e9, e10, e20, e21, e22, l12, hm, hlt, gp, wa.eq, wb.eq, wc.eq, wd.eq, w1.eq]
    exact ⟨n', y1, i', y2, y3, rfl, hht.symm, rfl⟩
  have hii : i = P.length := by omega
  subst hii
  rw [List.take_length] at e9 e10 hb hh
  have hq := quo_b (S := bsum kf P) (w := w) (kf := kf) (by omega) h3.1 h5.1
  have wa : W64 (2 * bsum kf P) (2 * bsum kf P) := .mkI rfl (by omega) (by omega)
  have wb : W64 (w + kf) (w + kf) := .mkI rfl (by omega) (by omega)
  have hz : ¬ w + kf = 0 := by omega
  unfold bndv
  generalize hS2 : 2 * bsum kf P = S2 at *
  generalize hQ : S2.tdiv (w + kf) = Q at *
  have wc : W64 Q Q := .mkI rfl (by omega) (by omega)
  have wd : W64 (Q + hmx P) (Q + hmx P) := .mkI rfl (by omega) (by omega)
  simp [e1, e2, e9, e10, e20, e21, e22, hm, wb.eq, hz, wc.eq, wd.eq, hS2, wa.eq, hQ]
end Go.Vm.Ch27
