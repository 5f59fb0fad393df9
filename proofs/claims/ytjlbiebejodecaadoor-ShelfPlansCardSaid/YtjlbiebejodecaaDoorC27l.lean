/- Chapter 27: what its functions compute. -/
import Derived.Test.YtjlbiebejodecaaDoorC27k
namespace Go.Vm.Ch27
open _root_.Ch27 (T27 c30 c31 c6)
open Go.Vm.Stable
set_option maxRecDepth 10000
set_option maxHeartbeats 8000000
theorem q31 (P : List Prt) (nn : Bool) (w kf : Int) (hl : P.length ≤ 80) (hg : Good P) (h3 : 1 ≤ w ∧ w ≤ 1000000) (h5 : 0 ≤ kf ∧ kf ≤ 1000) (m : Mem) : callL T27 31 [pv nn P, AV.int IntKind.i64 w, AV.int IntKind.i64 kf] m = some (AV.int IntKind.i64 (bndv P w kf), m) := by
  apply callL_body (vf := c31) rfl rfl
  simp [c31]
  refine wp_loop (fun n s => ∃ (i : Nat), n = P.length - i ∧ i ≤ P.length ∧ s.get 0 = pv nn P ∧ s.get 1 = AV.int IntKind.i64 w ∧ s.get 2 = AV.int IntKind.i64 kf ∧ s.get 7 = AV.int IntKind.i64 (bsum kf (P.take i)) ∧ s.get 8 = AV.int IntKind.i64 (hmx (P.take i)) ∧ s.get 9 = AV.int IntKind.i64 i ∧ s.mem = m) ?_ P.length _ ?_
  rotate_left
  · exact ⟨0, by simp [bsum, hmx]⟩
  rintro n s ⟨i, hn, hi, e0, e1, e2, e7, e8, e9, hm⟩
  have hb := bsum_b hg h5 i hi
  have hh := hmx_b hg i hi
  by_cases hlt : i < P.length
  · have hbt := bsum_take (kf := kf) hlt
    have hht := hmx_take hlt
    have hb2 := bsum_b hg h5 (i + 1) (by omega)
    have hp := hg _ (List.getElem_mem hlt)
    have hpr := prod_le (a := P[i].w + kf) (b := P[i].h + kf) (by omega) (by omega)
    have gp := gi_nat hlt
    have hnx : ∃ n', n' < n ∧ ∃ i', n' = P.length - i' ∧ i' ≤ P.length ∧ i' = i + 1 := ⟨P.length - (i + 1), by omega, i + 1, rfl, by omega, rfl⟩
    obtain ⟨n', y1, i', y2, y3, y4⟩ := hnx
    rw [← y4] at hbt hht hb2
    generalize P[i] = p at *
    have w1 : W64 ((i : Int) + 1) ((i' : Nat) : Int) := .mkI (by omega) (by omega) (by omega)
    have wa : W64 (p.w + kf) (p.w + kf) := .mkI rfl (by omega) (by omega)
    have wb : W64 (p.h + kf) (p.h + kf) := .mkI rfl (by omega) (by omega)
    generalize hC : (p.w + kf) * (p.h + kf) = C at hbt hpr
    have wc : W64 ((p.w + kf) * (p.h + kf)) C := .mkI hC (by omega) (by omega)
    have wd : W64 (bsum kf (P.take i) + C) (bsum kf (P.take i')) := .mkI (by omega) (by omega) (by omega)
    simp [e0, e1, e2, e7, e8, e9, hm, hlt, gp, wa.eq, wb.eq, wc.eq, wd.eq, w1.eq]
    exact ⟨n', y1, i', y2, y3, rfl, hht.symm, rfl⟩
  have hii : i = P.length := by omega
  subst hii
  rw [List.take_length] at e7 e8 hb hh
  have hq := quo_b (S := bsum kf P) (w := w) (kf := kf) (by omega) h3.1 h5.1
  have wa : W64 (2 * bsum kf P) (2 * bsum kf P) := .mkI rfl (by omega) (by omega)
  have wb : W64 (w + kf) (w + kf) := .mkI rfl (by omega) (by omega)
  have hz : ¬ w + kf = 0 := by omega
  unfold bndv
  generalize hS2 : 2 * bsum kf P = S2 at *
  generalize hQ : S2.tdiv (w + kf) = Q at *
  have wc : W64 Q Q := .mkI rfl (by omega) (by omega)
  have wd : W64 (Q + hmx P) (Q + hmx P) := .mkI rfl (by omega) (by omega)
  simp [e0, e1, e2, e7, e8, e9, hm, wb.eq, hz, wc.eq, wd.eq, hS2, wa.eq, hQ]
/-- An induction over the parts of the rule. -/
theorem pack_ind {P : List Prt} {w h kf : Int} {o : List Int} (hok : OK P w kf o) {I : Nat → PS → Prop} (h0 : I 0 (ini kf)) (hs : ∀ i (hi : i < o.length) S, I i S → InvP kf w i S → I (i + 1) (stepP P w h kf S o[i])) : I o.length (packS P w h kf o) := by
  have key : ∀ i, i ≤ o.length → I i (packS P w h kf (o.take i)) := by
    intro i
    induction i with
    | zero => intro _; simp [packS]; exact h0
    | succ i ih =>
      intro hi
      rw [packS_take (by omega)]
      exact hs i (by omega) _ (ih (by omega)) (inv_pack hok i (by omega))
  have := key o.length (Nat.le_refl _)
  rw [List.take_length] at this
  exact this
/-- With so few parts a great height is no limit. -/
theorem pack_high {P : List Prt} {w kf : Int} {o : List Int} (hok : OK P w kf o) : packS P w (-1) kf o = packS P w 1000000000 kf o := by
  have key : ∀ i, i ≤ o.length → packS P w (-1) kf (o.take i) = packS P w 1000000000 kf (o.take i) := by
    intro i
    induction i with
    | zero => intro _; rfl
    | succ i ih =>
      intro hi
      have hinv := inv_pack (h := 1000000000) hok i (by omega)
      have hpm := gi_memP (hok.ix _ (List.getElem_mem (show i < o.length by omega)))
      have hh := hok.hg _ hpm
      have hk := hok.k1
      have hl := hok.len
      have ht := hinv.t1
      rw [packS_take (by omega), packS_take (by omega), ih (by omega)]
      unfold stepP
      split
      · rfl
      · by_cases c : w < (gi P o[i]).w
        · rw [if_pos (Or.inl c), if_pos (Or.inl c)]
        · rw [if_neg (by omega), if_neg (by omega)]
  have := key o.length (Nat.le_refl _)
  rw [List.take_length] at this
  exact this
theorem ord_sorted (P : List Prt) : (ord P).Pairwise fun i j => (gi P j).h ≤ (gi P i).h := by
  have hs := (stab_srt (swoS P) (ixs P)).1
  unfold ord
  rw [List.pairwise_map]
  refine List.Pairwise.imp (fun {x y} hxy => ?_) hs
  unfold ltc cmpS at hxy
  rw [ltx_cmp] at hxy
  unfold ltx at hxy
  simp at hxy
  omega
/-- The greatest top of places. -/
def topL (P : List Prt) (pl : List Plc) : Int := pl.foldl (fun t q => if t < q.y + (gi P q.part).h then q.y + (gi P q.part).h else t) 0
theorem topL_go (P : List Prt) (M : Int) : ∀ (pl : List Plc) (t : Int), t ≤ M → (∀ q ∈ pl, q.y + (gi P q.part).h ≤ M) → ((∃ q ∈ pl, q.y + (gi P q.part).h = M) ∨ t = M) →
    pl.foldl (fun t q => if t < q.y + (gi P q.part).h then q.y + (gi P q.part).h else t) t = M
  | [], t, _, _, h3 => by
    rcases h3 with ⟨q, hq, _⟩ | h3
    · simp at hq
    · exact h3
  | p :: pl, t, h1, h2, h3 => by
    rw [List.foldl_cons]
    have hp := h2 p (by simp)
    apply topL_go P M pl
    · split <;> omega
    · exact fun q hq => h2 q (by simp [hq])
    · rcases h3 with ⟨q, hq, he⟩ | h3
      · rcases List.mem_cons.1 hq with rfl | hq
        · right; split <;> omega
        · exact .inl ⟨q, hq, he⟩
      · right; split <;> omega
structure InvT (P : List Prt) (kf : Int) (o : List Int) (i : Nat) (S : PS) : Prop where
  low : S.num < 0 → S.pl = [] ∧ S.top = -kf
  le : ∀ q ∈ S.pl, q.y + (gi P q.part).h ≤ S.top
  ex : 0 ≤ S.num → ∃ q ∈ S.pl, q.y + (gi P q.part).h = S.top
  ht : 0 ≤ S.num → ∀ j (h : j < o.length), i ≤ j → (gi P o[j]).h ≤ S.top - S.y
  pos : 0 ≤ S.num → 0 ≤ S.top
theorem invT {P : List Prt} {w h kf : Int} {o : List Int} (hok : OK P w kf o) (hs : o.Pairwise fun i j => (gi P j).h ≤ (gi P i).h) : InvT P kf o o.length (packS P w h kf o) := by
  refine pack_ind (I := InvT P kf o) hok ⟨by simp [ini], by simp [ini], by simp [ini], by simp [ini], by simp [ini]⟩ fun i hi S hI hv => ?_
  have hpm := gi_memP (hok.ix _ (List.getElem_mem hi))
  have hh := hok.hg _ hpm
  have hk := hok.k1
  obtain ⟨a1, a2, a3, a4, a5⟩ := hI
  have hn := hv.n1
  have hsort : ∀ j (hj : j < o.length), i + 1 ≤ j → (gi P o[j]).h ≤ (gi P o[i]).h := fun j hj hij => List.pairwise_iff_getElem.1 hs i j hi hj (by omega)
  unfold stepP
  split
  · rename_i c
    refine ⟨fun hneg => by simp at hneg; omega, fun q hq => ?_, fun hp => ?_, fun hp j hj hij => a4 c.1 j hj (by omega), fun _ => a5 c.1⟩
    · rcases List.mem_append.1 hq with hq | hq
      · exact a2 q hq
      · have := List.mem_singleton.1 hq
        subst this
        have := a4 c.1 i hi (Nat.le_refl _)
        simp only; omega
    · obtain ⟨q, hq, he⟩ := a3 c.1
      exact ⟨q, List.mem_append.2 (.inl hq), he⟩
  · split
    · exact ⟨a1, a2, a3, fun hp j hj hij => a4 hp j hj (by omega), a5⟩
    · refine ⟨fun hneg => by simp at hneg; omega, fun q hq => ?_, fun _ => ⟨_, List.mem_append.2 (.inr (List.mem_singleton.2 rfl)), rfl⟩, fun _ j hj hij => ?_, fun _ => ?_⟩
      · rcases List.mem_append.1 hq with hq | hq
        · have := a2 q hq
          simp only; omega
        · have := List.mem_singleton.1 hq
          subst this
          simp
      · have := hsort j hj hij
        simp only; omega
      · simp only
        by_cases c : 0 ≤ S.num
        · have := a5 c; omega
        · have := (a1 (by omega)).2; omega
theorem topL_eq {P : List Prt} {w h kf : Int} {o : List Int} (hok : OK P w kf o) (hs : o.Pairwise fun i j => (gi P j).h ≤ (gi P i).h) : topL P (packS P w h kf o).pl = max 0 (packS P w h kf o).top := by
  have hT := invT (h := h) hok hs
  have hk := hok.k1
  generalize packS P w h kf o = S at *
  unfold topL
  by_cases c : 0 ≤ S.num
  · have hp := hT.pos c
    have e : max 0 S.top = S.top := by omega
    rw [e]
    exact topL_go P S.top S.pl 0 hp hT.le (.inl (hT.ex c))
  · obtain ⟨h1, h2⟩ := hT.low (by omega)
    rw [h1, h2]
    simp; omega
theorem pack_pl {P : List Prt} {w h kf : Int} {o : List Int} (hok : OK P w kf o) : ∀ q ∈ (packS P w h kf o).pl, (0 ≤ q.part ∧ q.part < P.length) ∧ 0 ≤ q.y ∧ q.y ≤ 81081000 := by
  have := pack_ind (I := fun i S => ∀ q ∈ S.pl, (0 ≤ q.part ∧ q.part < P.length) ∧ 0 ≤ q.y ∧ q.y ≤ 81081000) (h := h) hok (by simp [ini]) fun i hi S hI hv => by
    have hx := hok.ix _ (List.getElem_mem hi)
    have hl := hok.len
    have hk := hok.k1
    have := hv.y1
    have := hv.t1
    unfold stepP
    split
    · intro q hq
      rcases List.mem_append.1 hq with hq | hq
      · exact hI q hq
      · have := List.mem_singleton.1 hq
        subst this
        exact ⟨hx, by simp only; omega⟩
    · split
      · exact hI
      · intro q hq
        rcases List.mem_append.1 hq with hq | hq
        · exact hI q hq
        · have := List.mem_singleton.1 hq
          subst this
          exact ⟨hx, by simp only; omega⟩
  exact this
theorem topL_take {P : List Prt} {pl : List Plc} {i : Nat} (h : i < pl.length) : topL P (pl.take (i + 1)) = if topL P (pl.take i) < pl[i].y + (gi P pl[i].part).h then pl[i].y + (gi P pl[i].part).h else topL P (pl.take i) := by
  unfold topL; rw [List.take_succ_eq_append_getElem h, List.foldl_append]; rfl
theorem q30 (P : List Prt) (nn : Bool) (w kf : Int) (hl : P.length ≤ 1000000) (hok : OK P w kf (ord P)) (m : Mem) : callL T27 30 [pv nn P, AV.int IntKind.i64 w, AV.int IntKind.i64 kf] m = some (AV.int IntKind.i64 (topL P (packS P w 1000000000 kf (ord P)).pl), m) := by
  have h23 := q23 P nn w 1000000000 kf hl hok (by omega) []
  have hpl := pack_pl (h := 1000000000) hok
  have hinv := inv_pack (h := 1000000000) hok (ord P).length (Nat.le_refl _)
  rw [List.take_length] at hinv
  have hlen := hok.len
  apply callL_body (vf := c30) rfl rfl
  simp only [layV] at h23
  generalize packS P w 1000000000 kf (ord P) = S at *
  have hpll := hinv.pl
  simp [c30, h23]
  refine wp_loop (fun n s => ∃ (i : Nat), n = S.pl.length - i ∧ i ≤ S.pl.length ∧ s.get 0 = pv nn P ∧ s.get 7 = .ptr (.loc 7 0) 0 ∧ s.loc 7 = [.cells false [ovn eL S.pl, ovn eI S.lf]] ∧ s.get 8 = AV.int IntKind.i64 (topL P (S.pl.take i)) ∧ s.get 9 = AV.int IntKind.i64 i ∧ s.mem = m) ?_ S.pl.length _ ?_
  rotate_left
  · exact ⟨0, by simp [topL]⟩
  rintro n s ⟨i, hn, hi, e0, e7, l7, e8, e9, hm⟩
  by_cases hlt : i < S.pl.length
  · have ht := topL_take (P := P) hlt
    have hq := hpl _ (List.getElem_mem hlt)
    have hpm := gi_memP hq.1
    have hh := hok.hg _ hpm
    have gp := gi_nat hlt
    generalize S.pl[i] = q at *
    have w1 : IntKind.wrap .i64 ((i : Int) + 1) = (i : Int) + 1 := wrap64 (by omega) (by omega)
    have wa : W64 (q.y + (gi P q.part).h) (q.y + (gi P q.part).h) := .mkI rfl (by omega) (by omega)
    simp [e0, e7, l7, e8, e9, hm, hlt, gp, hq.1, wa.eq, w1]
    exact ⟨S.pl.length - (i + 1), by omega, i + 1, rfl, by omega, ht.symm, rfl⟩
  · have : i = S.pl.length := by omega
    subst this
    rw [List.take_length] at e8
    simp [e7, l7, e8, e9, hm]
theorem law6 (P : List Prt) (nn : Bool) (w kf : Int) (hlen : (P.length : Int) ≤ 9223372036854775807) : ∃ m, callL T27 6 [pv nn P, AV.int IntKind.i64 w, AV.int IntKind.i64 kf] [] = some (.bool true, m) := by
  obtain ⟨m0, haw⟩ := awake
  have h13 := q13' P nn 80 hlen []
  by_cases hs : (P.length : Int) ≤ 80 ∧ ∀ b ∈ P, b.name.length ≤ 60
  rotate_left
  · refine ⟨m0, ?_⟩
    rw [decide_eq_false hs] at h13
    apply callL_body (vf := c6) rfl rfl
    simp [c6, haw, h13]
  have hsm := sml_of (n := 80) (by omega) hs
  have hl := hsm.len
  rw [decide_eq_true hs] at h13
  have h15 := q15 P nn (by omega) []
  have h27 := q27 P true w kf hsm m0
  have h28 := q28 P true w kf hsm []
  have h29 := q29 P nn w kf hsm []
  by_cases hc : nrw P w kf = 0
  · obtain ⟨hc1, hc2⟩ := nrw_inv hc
    obtain ⟨h1, h2, h3, h4, h5⟩ := chk_inv hc1
    have hok := ok_of_chk hc1
    have h30 := q30 P nn w kf (by omega) hok []
    have h31 := q31 P nn w kf hl h2 h3 h5 []
    rw [← pack_high hok, topL_eq hok (ord_sorted P)] at h30
    rw [if_pos hc] at h27 h28
    rw [hc] at h29
    generalize max 0 (packS P w (-1) kf (ord P)).top = TT at *
    generalize bndv P w kf = BB at *
    refine ⟨ordM P m0, ?_⟩
    apply callL_body (vf := c6) rfl rfl
    simp [c6, haw, h13, h15, h27, h28, h29, h30, h31]
  · rw [if_neg hc] at h27 h28
    refine ⟨m0, ?_⟩
    apply callL_body (vf := c6) rfl rfl
    simp [c6, haw, h13, h15, h27, h28, h29, hc]
end Go.Vm.Ch27
