/- Chapter 27: what its functions compute. -/
import Derived.Test.YtjlbiebejodecaaDoorC27m
namespace Go.Vm.Ch27
open _root_.Ch27 (T27 c10)
open Go.Vm.Stable
set_option maxRecDepth 10000
set_option maxHeartbeats 8000000
theorem ins_perm {α : Type} (lt : α → α → Bool) (B : List α) (v : α) : (ins lt B v).Perm (v :: B) := by
  unfold ins
  refine List.perm_middle.trans ?_
  rw [List.takeWhile_append_dropWhile]
theorem srt_perm {α : Type} (lt : α → α → Bool) (A : List α) : (srt lt A).Perm A := by
  have key : ∀ (A B : List α), (A.foldl (ins lt) B).Perm (B ++ A) := by
    intro A
    induction A with
    | nil => intro B; simp
    | cons v A ih =>
      intro B
      rw [List.foldl_cons]
      refine (ih _).trans ?_
      refine ((ins_perm lt B v).append_right A).trans ?_
      exact (List.perm_middle (l₁ := B) (l₂ := A) (a := v)).symm
  have := key A []
  unfold srt
  simpa using this
theorem ord_perm (P : List Prt) : (ord P).Perm ((List.range P.length).map fun i : Nat => (i : Int)) := by
  unfold ord
  rw [← ixs_val]
  exact (srt_perm _ _).map _
def asum (g : Int → Int) : List Int → Int
  | [] => 0
  | i :: r => g i + asum g r
theorem asum_app (g : Int → Int) (a b : List Int) : asum g (a ++ b) = asum g a + asum g b := by
  induction a with
  | nil => simp [asum]
  | cons x r ih => simp [asum, ih]; omega
theorem asum_perm (g : Int → Int) {a b : List Int} (h : a.Perm b) : asum g a = asum g b := by
  induction h with
  | nil => rfl
  | cons x _ ih => simp [asum, ih]
  | swap x y l => simp [asum]; omega
  | trans _ _ i1 i2 => rw [i1, i2]
def area (P : List Prt) (kf : Int) (i : Int) : Int := ((gi P i).w + kf) * ((gi P i).h + kf)
theorem asum_range (P : List Prt) (kf : Int) : ∀ n, n ≤ P.length → asum (area P kf) ((List.range n).map fun i : Nat => (i : Int)) = bsum kf (P.take n)
  | 0, _ => by simp [asum, bsum]
  | n + 1, h => by
    rw [List.range_succ, List.map_append, asum_app, asum_range P kf n (by omega), bsum_take (by omega)]
    simp [asum, area, gi_nat (show n < P.length by omega)]
theorem asum_ord (P : List Prt) (kf : Int) : asum (area P kf) (ord P) = bsum kf P := by
  rw [asum_perm _ (ord_perm P), asum_range P kf P.length (Nat.le_refl _), List.take_length]
theorem hmx_ge {P : List Prt} : ∀ p ∈ P, p.h ≤ hmx P := by
  have key : ∀ (P : List Prt) (t : Int), t ≤ P.foldl (fun t p => if t < p.h then p.h else t) t ∧ ∀ p ∈ P, p.h ≤ P.foldl (fun t p => if t < p.h then p.h else t) t := by
    intro P
    induction P with
    | nil => intro t; simp
    | cons p r ih =>
      intro t
      rw [List.foldl_cons]
      obtain ⟨h1, h2⟩ := ih (if t < p.h then p.h else t)
      have h3 : t ≤ (if t < p.h then p.h else t) ∧ p.h ≤ (if t < p.h then p.h else t) := by split <;> omega
      refine ⟨by omega, fun q hq => ?_⟩
      rcases List.mem_cons.1 hq with rfl | hq
      · omega
      · exact h2 q hq
  exact (key P 0).2
theorem bnd_arith {X1 X2 X3 X4 A cur fst : Int} (h1 : fst ≤ cur) (h2 : X1 ≤ 2 * (A - cur) + fst) (h3 : X2 ≤ X3 + X4) (h4 : X3 ≤ cur) : X1 + X2 ≤ 2 * (A + X4 - X4) + X4 := by omega
structure InvB (P : List Prt) (w kf : Int) (o : List Int) (i : Nat) (S : PS) : Prop where
  none : S.num < 0 → i = 0 ∧ S.top = -kf
  lf : S.lf = []
  len : S.pl.length = i
  top : ∀ j (h : j < o.length), j < i → (gi P o[j]).h ≤ S.top
  ht : 0 ≤ S.num → ∀ j (h : j < o.length), i ≤ j → (gi P o[j]).h ≤ S.top - S.y
  y0 : 0 ≤ S.num → 0 ≤ S.y ∧ 0 ≤ S.top
  bnd : 0 ≤ S.num → ∃ cur fst h1, fst ≤ cur ∧ 0 ≤ cur ∧ h1 ≤ hmx P ∧ (w + kf) * (S.top - h1) ≤ 2 * (asum (area P kf) (o.take i) - cur) + fst ∧ ∀ j (h : j < o.length), i ≤ j → S.x * ((gi P o[j]).h + kf) ≤ cur
theorem invB {P : List Prt} {w kf : Int} {o : List Int} (hok : OK P w kf o) (hs : o.Pairwise fun i j => (gi P j).h ≤ (gi P i).h) (hw : ∀ i ∈ o, (gi P i).w ≤ w) : InvB P w kf o o.length (packS P w (-1) kf o) := by
  refine pack_ind (I := InvB P w kf o) hok ⟨by simp [ini], by simp [ini], by simp [ini], by simp, by simp [ini], by simp [ini], by simp [ini]⟩ fun i hi S hI hv => ?_
  have hpm := gi_memP (hok.ix _ (List.getElem_mem hi))
  have hh := hok.hg _ hpm
  have hpw := hok.wd _ hpm
  have hk := hok.k1
  have hw1 := hok.w1
  have hwi := hw _ (List.getElem_mem hi)
  have hhm := hmx_ge _ hpm
  obtain ⟨a1, a2, a3, a4, a5, a6, a7⟩ := hI
  have hn := hv.n1
  have hx := hv.x1
  have hsort : ∀ j (hj : j < o.length), i ≤ j → (gi P o[j]).h ≤ (gi P o[i]).h := fun j hj hij => by
    rcases Nat.lt_or_ge i j with h | h
    · exact List.pairwise_iff_getElem.1 hs i j hi hj h
    · have : j = i := by omega
      subst this; exact Int.le_refl _
  have hpos : ∀ j (hj : j < o.length), 0 ≤ (gi P o[j]).h + kf := fun j hj => by
    have := hok.hg _ (gi_memP (hok.ix _ (List.getElem_mem hj))); omega
  have hsum : asum (area P kf) (o.take (i + 1)) = asum (area P kf) (o.take i) + ((gi P o[i]).w + kf) * ((gi P o[i]).h + kf) := by
    rw [List.take_succ_eq_append_getElem hi, asum_app]; simp [asum, area]
  generalize hA : asum (area P kf) (o.take i) = A at *
  generalize hz : gi P o[i] = p at *
  have hap : 0 ≤ (p.w + kf) * (p.h + kf) := Int.mul_nonneg (by omega) (by omega)
  unfold stepP
  rw [hz]
  split
  · rename_i c
    obtain ⟨cur, fst, h1, b1, b2, b3, b4, b5⟩ := a7 c.1
    refine ⟨fun hneg => by simp at hneg; omega, a2, by simp [a3], fun j hj hij => ?_, fun _ j hj hij => a5 c.1 j hj (by omega), fun _ => a6 c.1, fun _ => ⟨cur + (p.w + kf) * (p.h + kf), fst, h1, by omega, by omega, b3, ?_, fun j hj hij => ?_⟩⟩
    · by_cases e : j = i
      · subst e
        have := a5 c.1 j hj (Nat.le_refl _)
        have := (a6 c.1).1
        simp only; omega
      · exact a4 j hj (by omega)
    · rw [hsum]; simp only; omega
    · have b6 := b5 j hj (by omega)
      have b7 := hsort j hj (by omega)
      simp only
      rw [Int.add_mul]
      have : (p.w + kf) * ((gi P o[j]).h + kf) ≤ (p.w + kf) * (p.h + kf) := Int.mul_le_mul_of_nonneg_left (by omega) (by omega)
      omega
  · rename_i c
    rw [if_neg (by omega)]
    refine ⟨fun hneg => by simp at hneg; omega, a2, by simp [a3], fun j hj hij => ?_, fun _ j hj hij => ?_, fun _ => ?_, fun _ => ?_⟩
    · simp only
      by_cases e : j = i
      · subst e
        rw [hz]
        by_cases c0 : 0 ≤ S.num
        · have := (a6 c0).2; omega
        · have := (a1 (by omega)).2; omega
      · have := a4 j hj (by omega)
        omega
    · have := hsort j hj (by omega)
      simp only; omega
    · simp only
      by_cases c0 : 0 ≤ S.num
      · have := (a6 c0).2; omega
      · have := (a1 (by omega)).2; omega
    · have hnewb : ∀ j (h : j < o.length), i + 1 ≤ j → (p.w + kf) * ((gi P o[j]).h + kf) ≤ (p.w + kf) * (p.h + kf) := fun j hj hij => by
        have := hsort j hj (by omega)
        exact Int.mul_le_mul_of_nonneg_left (by omega) (by omega)
      by_cases c0 : 0 ≤ S.num
      · obtain ⟨cur, fst, h1, b1, b2, b3, b4, b5⟩ := a7 c0
        have c2 : w + kf ≤ S.x + (p.w + kf) := by omega
        have b6 := b5 i hi (Nat.le_refl _)
        rw [hz] at b6
        have k1 : (w + kf) * (p.h + kf) ≤ (S.x + (p.w + kf)) * (p.h + kf) := Int.mul_le_mul_of_nonneg_right c2 (by omega)
        rw [Int.add_mul S.x] at k1
        refine ⟨(p.w + kf) * (p.h + kf), (p.w + kf) * (p.h + kf), h1, Int.le_refl _, hap, b3, ?_, hnewb⟩
        simp only
        have e : S.top + kf + p.h - h1 = (S.top - h1) + (p.h + kf) := by omega
        rw [e, Int.mul_add, hsum]
        exact bnd_arith b1 b4 k1 b6
      · obtain ⟨e0, e1⟩ := a1 (by omega)
        subst e0
        refine ⟨(p.w + kf) * (p.h + kf), (p.w + kf) * (p.h + kf), p.h, Int.le_refl _, hap, hhm, ?_, hnewb⟩
        simp only
        have e : S.top + kf + p.h - p.h = 0 := by omega
        have eA : A = 0 := by rw [← hA]; simp [asum]
        rw [e, Int.mul_zero, hsum, eA]
        omega
/-- The height is at most the bound, at least each part's height, and nothing is left. -/
theorem height_laws {P : List Prt} {w kf : Int} (hc : nrw P w kf = 0) : max 0 (packS P w (-1) kf (ord P)).top ≤ bndv P w kf ∧ (∀ p ∈ P, p.h ≤ max 0 (packS P w (-1) kf (ord P)).top) ∧ (max 0 (packS P w (-1) kf (ord P)).top = 0 ↔ P.length = 0) := by
  obtain ⟨hc1, hc2⟩ := nrw_inv hc
  obtain ⟨h1, h2, h3, h4, h5⟩ := chk_inv hc1
  have hok := ok_of_chk hc1
  have hB := invB hok (ord_sorted P) (fun i hi => hc2 _ (gi_memP (ord_ix P i hi)))
  have hol := ord_len P
  have hbb := bsum_b (P := P) h2 h5 P.length (Nat.le_refl _)
  have hhb := hmx_b (P := P) h2 P.length (Nat.le_refl _)
  rw [List.take_length] at hbb hhb
  have hq := quo_b (S := bsum kf P) (w := w) (kf := kf) (by omega) h3.1 h5.1
  have hall : ∀ p ∈ P, p.h ≤ (packS P w (-1) kf (ord P)).top := by
    intro p hp
    obtain ⟨j, hj, rfl⟩ := List.getElem_of_mem hp
    have hm : (j : Int) ∈ ord P := (ord_perm P).mem_iff.2 (List.mem_map.2 ⟨j, List.mem_range.2 hj, rfl⟩)
    obtain ⟨k, hk, he⟩ := List.getElem_of_mem hm
    have := hB.top k hk hk
    rw [he, gi_nat hj] at this
    exact this
  have has := asum_ord P kf
  refine ⟨?_, fun p hp => by have := hall p hp; omega, ?_⟩
  · have hb0 : 0 ≤ bndv P w kf := by unfold bndv; omega
    by_cases c : 0 ≤ (packS P w (-1) kf (ord P)).num
    · obtain ⟨cur, fst, t1, b1, b2, b3, b4, b5⟩ := hB.bnd c
      rw [List.take_length, has] at b4
      have k1 : ((packS P w (-1) kf (ord P)).top - t1) * (w + kf) ≤ 2 * bsum kf P := by
        rw [Int.mul_comm]; omega
      have k2 : (packS P w (-1) kf (ord P)).top - t1 ≤ 2 * bsum kf P / (w + kf) := (Int.le_ediv_iff_mul_le (by omega)).2 k1
      have k3 : (2 * bsum kf P).tdiv (w + kf) = 2 * bsum kf P / (w + kf) := Int.tdiv_eq_ediv_of_nonneg (by omega)
      unfold bndv at hb0 ⊢
      rw [k3] at hb0 ⊢
      omega
    · have := (hB.none (by omega)).2
      omega
  · constructor
    · intro h
      by_cases hP : P.length = 0
      · exact hP
      · exfalso
        have hp : P[0]'(by omega) ∈ P := List.getElem_mem _
        have g1 := hall _ hp
        have g2 := (h2 _ hp).2.1
        omega
    · intro h
      have : P = [] := List.length_eq_zero_iff.1 h
      subst this
      have : ord [] = [] := List.length_eq_zero_iff.1 (by rw [ord_len]; rfl)
      rw [this]
      simp [packS, ini]
      omega
/-- On a sheet of that height all parts are placed. -/
theorem pack_same {P : List Prt} {w kf : Int} (hc : nrw P w kf = 0) : packS P w (max 0 (packS P w (-1) kf (ord P)).top) kf (ord P) = packS P w (-1) kf (ord P) := by
  obtain ⟨hc1, hc2⟩ := nrw_inv hc
  have hok := ok_of_chk hc1
  have hmono : ∀ j, j ≤ (ord P).length → (packS P w (-1) kf ((ord P).take j)).top ≤ (packS P w (-1) kf (ord P)).top := by
    intro j hj
    obtain ⟨d, hd⟩ : ∃ d, d + j = (ord P).length := ⟨(ord P).length - j, by omega⟩
    induction d generalizing j with
    | zero => rw [List.take_of_length_le (by omega)]; exact Int.le_refl _
    | succ d ih =>
      have h1 := ih (j + 1) (by omega) (by omega)
      have hlt : j < (ord P).length := by omega
      have hh := hok.hg _ (gi_memP (hok.ix _ (List.getElem_mem hlt)))
      have hk := hok.k1
      rw [packS_take hlt] at h1
      unfold stepP at h1
      split at h1
      · exact h1
      · split at h1
        · exact h1
        · simp only at h1; omega
  generalize hM : (packS P w (-1) kf (ord P)).top = M at *
  have key : ∀ j, j ≤ (ord P).length → packS P w (max 0 M) kf ((ord P).take j) = packS P w (-1) kf ((ord P).take j) := by
    intro j
    induction j with
    | zero => intro _; rfl
    | succ j ih =>
      intro hj
      have hlt : j < (ord P).length := by omega
      have h1 := hmono (j + 1) hj
      rw [packS_take hlt] at h1
      rw [packS_take hlt, packS_take hlt, ih (by omega)]
      generalize packS P w (-1) kf ((ord P).take j) = S at *
      unfold stepP at h1 ⊢
      split
      · rfl
      · rename_i c
        rw [if_neg c] at h1
        by_cases c3 : w < (gi P (ord P)[j]).w
        · rw [if_pos (Or.inl c3), if_pos (Or.inl c3)]
        · rw [if_neg (by omega)] at h1
          simp only at h1
          rw [if_neg (by omega), if_neg (by omega)]
  have := key (ord P).length (Nat.le_refl _)
  rw [List.take_length] at this
  exact this
theorem law10 (P : List Prt) (nn : Bool) (w kf : Int) (hlen : (P.length : Int) ≤ 9223372036854775807) : ∃ m, callL T27 10 [pv nn P, AV.int IntKind.i64 w, AV.int IntKind.i64 kf] [] = some (.bool true, m) := by
  obtain ⟨m0, haw⟩ := awake
  have h13 := q13' P nn 40 hlen []
  by_cases hs : (P.length : Int) ≤ 40 ∧ ∀ b ∈ P, b.name.length ≤ 60
  rotate_left
  · refine ⟨m0, ?_⟩
    rw [decide_eq_false hs] at h13
    apply callL_body (vf := c10) rfl rfl
    simp [c10, haw, h13]
  have hsm := sml_of (n := 40) (by omega) hs
  have hl := hsm.len
  rw [decide_eq_true hs] at h13
  have h15 := q15 P nn (by omega) []
  have h27 := q27 P true w kf hsm m0
  have h28 := q28 P true w kf hsm []
  by_cases hc : nrw P w kf = 0
  rotate_left
  · rw [if_neg hc] at h27 h28
    refine ⟨m0, ?_⟩
    apply callL_body (vf := c10) rfl rfl
    simp [c10, haw, h13, h15, h27, h28, hc]
  rw [if_pos hc] at h27 h28
  obtain ⟨l1, l2, l3⟩ := height_laws hc
  have hsame := pack_same hc
  obtain ⟨hc1, hc2⟩ := nrw_inv hc
  have hok := ok_of_chk hc1
  have hB := invB hok (ord_sorted P) (fun i hi => hc2 _ (gi_memP (ord_ix P i hi)))
  have hol := ord_len P
  generalize hT : max 0 (packS P w (-1) kf (ord P)).top = TT at *
  have hT0 : 0 ≤ TT := by omega
  generalize bndv P w kf = BB at *
  have l1' : ¬ BB < TT := by omega
  have l0' : ¬ TT < 0 := by omega
  have h20 := q20 P true w TT kf hsm (ordM P m0)
  have hz : (TT == 0) = ((P.length : Int) == 0) := by
    rw [Bool.eq_iff_iff]
    simp only [beq_iff_eq]
    constructor
    · intro h; have := l3.1 h; omega
    · intro h; exact l3.2 (by omega)
  by_cases hT1 : 1 ≤ TT ∧ TT ≤ 1000000
  · have hck : chk P w TT kf = 0 := by
      have hs1 : sideB 1 = true := by decide
      have hs2 : sideB TT = true := by unfold sideB; simpa using hT1
      unfold chk at hc1 ⊢
      rw [hs1] at hc1
      rw [hs2]
      exact hc1
    rw [if_pos hck, hsame] at h20
    have hlf := hB.lf
    have hpl := hB.len
    have hk1 : ¬ TT < 1 := by omega
    have hk2 : ¬ 1000000 < TT := by omega
    have hpl' : ((packS P w (-1) kf (ord P)).pl.length : Int) = P.length := by omega
    generalize packS P w (-1) kf (ord P) = S at *
    refine ⟨ordM P (ordM P m0), ?_⟩
    apply callL_body (vf := c10) rfl rfl
    simp only [layV] at h20
    simp [c10, haw, h13, h15, h27, h28, l1', l0', -beq_iff_eq]
    refine ⟨hz, fun _ => ?_⟩
    refine wp_loop (fun n s => ∃ (i : Nat), n = P.length - i ∧ i ≤ P.length ∧ s.get 0 = pv nn P ∧ s.get 1 = AV.int IntKind.i64 w ∧ s.get 2 = AV.int IntKind.i64 kf ∧ s.get 7 = AV.int IntKind.i64 TT ∧ s.get 11 = AV.int IntKind.i64 i ∧ s.mem = ordM P m0) ?_ P.length _ ?_
    rotate_left
    · exact ⟨0, by simp⟩
    rintro n s ⟨i, hn, hi, e0, e1, e2, e7, e11, hm⟩
    by_cases hlt : i < P.length
    · have gp := gi_nat hlt
      have hh := l2 _ (List.getElem_mem hlt)
      have hh' : ¬ TT < P[i].h := by omega
      have w1 : IntKind.wrap .i64 ((i : Int) + 1) = (i : Int) + 1 := wrap64 (by omega) (by omega)
      generalize P[i] = p at *
      simp [e0, e1, e2, e7, e11, hm, hlt, gp, hh', w1]
      exact ⟨P.length - (i + 1), by omega, i + 1, rfl, by omega, rfl⟩
    · simp [e0, e1, e2, e7, e11, hm, hlt, hk1, hk2, h15, h20, hlf, hpl']
  · refine ⟨ordM P m0, ?_⟩
    apply callL_body (vf := c10) rfl rfl
    simp [c10, haw, h13, h15, h27, h28, l1', l0', -beq_iff_eq]
    refine ⟨hz, fun _ => ?_⟩
    refine wp_loop (fun n s => ∃ (i : Nat), n = P.length - i ∧ i ≤ P.length ∧ s.get 0 = pv nn P ∧ s.get 1 = AV.int IntKind.i64 w ∧ s.get 2 = AV.int IntKind.i64 kf ∧ s.get 7 = AV.int IntKind.i64 TT ∧ s.get 11 = AV.int IntKind.i64 i ∧ s.mem = ordM P m0) ?_ P.length _ ?_
    rotate_left
    · exact ⟨0, by simp⟩
    rintro n s ⟨i, hn, hi, e0, e1, e2, e7, e11, hm⟩
    by_cases hlt : i < P.length
    · have gp := gi_nat hlt
      have hh := l2 _ (List.getElem_mem hlt)
      have hh' : ¬ TT < P[i].h := by omega
      have w1 : IntKind.wrap .i64 ((i : Int) + 1) = (i : Int) + 1 := wrap64 (by omega) (by omega)
      generalize P[i] = p at *
      simp [e0, e1, e2, e7, e11, hm, hlt, gp, hh', w1]
      exact ⟨P.length - (i + 1), by omega, i + 1, rfl, by omega, rfl⟩
    · by_cases hk1 : TT < 1
      · simp [e0, e7, e11, hm, hlt, hk1]
      · have hk2 : 1000000 < TT := by omega
        simp [e0, e7, e11, hm, hlt, hk1, hk2]
end Go.Vm.Ch27
