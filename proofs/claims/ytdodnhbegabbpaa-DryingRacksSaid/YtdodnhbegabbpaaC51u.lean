/- Chapter 51: what its functions compute. -/
import Derived.Test.YtdodnhbegabbpaaC51t
import Derived.Test.YtdodnhbegabbpaaC51n
namespace Go.Vm.Ch51
open Go.Vm.Stable
theorem best_min (F : List Int) : ∀ k i, i < k → F.getD (best F k) 0 ≤ F.getD i 0
  | 0, i, h => by omega
  | k + 1, i, h => by
    rw [best]
    split
    · rename_i hlt
      by_cases hi : i = k
      · subst hi; exact Int.le_refl _
      · have := best_min F k i (by omega); omega
    · rename_i hlt
      by_cases hi : i = k
      · subst hi; omega
      · exact best_min F k i (by omega)
theorem getD_set (F : List Int) (p i : Nat) (v : Int) (h : p < F.length) : (F.set p v).getD i 0 = if i = p then v else F.getD i 0 := by
  rw [List.getD_eq_getElem?_getD, List.getD_eq_getElem?_getD, List.getElem?_set]
  by_cases hi : p = i
  · subst hi; simp [h]
  · rw [if_neg hi, if_neg (fun e => hi e.symm)]
/-- What the stays of a run of batches are. -/
theorem rackGo_fits (t : Int → Int) : ∀ (bs : List Bat) (free : List Int), 0 < free.length → ∀ b ∈ bs, ∃ s ∈ rackGo t free bs, s.name = b.name ∧ 0 ≤ s.place ∧ s.place < free.length ∧ b.arr ≤ s.frm ∧ s.to = s.frm + t b.th
  | [], _, _, b, hb => by simp at hb
  | c :: bs, free, hf, b, hb => by
    rw [rackGo]
    rcases List.mem_cons.1 hb with rfl | hb
    · have := best_lt' free free.length hf (Nat.le_refl _)
      exact ⟨_, List.mem_cons_self .., rfl, by simp only; omega, by simp only; omega, by simp only; omega, rfl⟩
    · obtain ⟨s, hs, h⟩ := rackGo_fits t bs (free.set (best free free.length) (max c.arr (free.getD (best free free.length) 0) + t c.th)) (by simpa using hf) b hb
      rw [List.length_set] at h
      exact ⟨s, List.mem_cons_of_mem _ hs, h⟩
theorem rackGo_le (t : Int → Int) (ht : ∀ n, 0 ≤ t n ∧ t n ≤ 1000000) : ∀ (bs : List Bat) (free : List Int) (c : Nat), (∀ b ∈ bs, 0 ≤ b.arr ∧ b.arr ≤ 1000000000) → (∀ x ∈ free, 0 ≤ x ∧ x ≤ 1000000000 + 1000000 * (c : Int)) → ∀ s ∈ rackGo t free bs, 0 ≤ s.frm ∧ s.frm ≤ s.to ∧ s.to ≤ 1000000000 + 1000000 * ((c + bs.length : Nat) : Int)
  | [], free, c, _, _ => by simp [rackGo]
  | b :: bs, free, c, hb, hf => by
    intro s hs
    rw [rackGo] at hs
    have hb0 := hb b (by simp)
    have htb := ht b.th
    have hg : 0 ≤ free.getD (best free free.length) 0 ∧ free.getD (best free free.length) 0 ≤ 1000000000 + 1000000 * (c : Int) := by
      rw [List.getD_eq_getElem?_getD]
      cases he : free[best free free.length]? with
      | none => simp; omega
      | some z => simpa using hf z (List.mem_of_getElem? he)
    rcases List.mem_cons.1 hs with rfl | hs
    · simp only [List.length_cons]; omega
    · have := rackGo_le t ht bs _ (c + 1) (fun b' h => hb b' (by simp [h])) (fun y hy => by
        rcases List.mem_or_eq_of_mem_set hy with h | h
        · have := hf y h; omega
        · rw [h]; omega) s hs
      simp only [List.length_cons]; omega
theorem rackGo_ge (t : Int → Int) (ht : ∀ n, 0 ≤ t n) : ∀ (bs : List Bat) (free : List Int), 0 < free.length → ∀ s ∈ rackGo t free bs, free.getD s.place.toNat 0 ≤ s.frm
  | [], _, _ => by simp [rackGo]
  | b :: bs, free, hf => by
    intro s hs
    rw [rackGo] at hs
    have hp := best_lt' free free.length hf (Nat.le_refl _)
    rcases List.mem_cons.1 hs with rfl | hs
    · simp only [Int.toNat_natCast]; omega
    · have := rackGo_ge t ht bs _ (by simpa using hf) s hs
      rw [getD_set _ _ _ _ hp] at this
      have h0 := ht b.th
      split at this
      · rename_i e; rw [e]; omega
      · exact this
theorem rackGo_apart (t : Int → Int) (ht : ∀ n, 0 ≤ t n) : ∀ (bs : List Bat) (free : List Int), 0 < free.length → (rackGo t free bs).Pairwise fun a b => a.place = b.place → a.to ≤ b.frm
  | [], _, _ => by simp [rackGo]
  | b :: bs, free, hf => by
    rw [rackGo]
    have hp := best_lt' free free.length hf (Nat.le_refl _)
    refine List.pairwise_cons.2 ⟨fun s hs he => ?_, rackGo_apart t ht bs _ (by simpa using hf)⟩
    have := rackGo_ge t ht bs _ (by simpa using hf) s hs
    rw [getD_set _ _ _ _ hp] at this
    simp only at he
    rw [if_pos (by omega)] at this
    exact this
theorem rackS_mem {xs ys : List Int} {pl : Nat} {list : List Bat} (hr : rdy xs ys pl list = 0) : ∀ s ∈ rackS xs ys pl list, 0 ≤ s.frm ∧ s.frm ≤ s.to ∧ s.to ≤ 2000000000 := by
  obtain ⟨hg, hp1, hp2, hl128, -⟩ := rdy_ok hr
  have hb := rdy_bok hr
  intro s hs
  have := rackGo_le (tm xs ys) (tm_bounds0 hg) (srt ltB list) (List.replicate pl 0) 0 (fun b hbm => by have := hb b (((stab_srt swoB list).2.1.mem swoB).2 hbm); exact ⟨this.1, this.2.1⟩) (fun x hx => by have := (List.mem_replicate.1 hx).2; omega) s hs
  rw [srt_len swoB] at this
  omega
theorem rackS_len {xs ys : List Int} {pl : Nat} {list : List Bat} : (rackS xs ys pl list).length = list.length := by
  unfold rackS; rw [rackGo_len, srt_len swoB]
theorem rackS_valid {xs ys : List Int} {pl : Nat} {list : List Bat} (hr : rdy xs ys pl list = 0) : ValidP xs ys pl list (rackS xs ys pl list) := by
  obtain ⟨hg, hp1, hp2, hl128, -⟩ := rdy_ok hr
  refine valid_iff.2 ⟨hr, rackS_len, fun b hb => ?_, fun i j hj hij ho => ?_⟩
  · have hb' : b ∈ srt ltB list := ((stab_srt swoB list).2.1.mem swoB).1 hb
    obtain ⟨s, hs, h1, h2, h3, h4, h5⟩ := rackGo_fits (tm xs ys) (srt ltB list) (List.replicate pl 0) (by simp; omega) b hb'
    refine ⟨s, hs, ?_⟩
    have := (tm_bounds0 hg b.th).1
    rw [List.length_replicate] at h3
    unfold fits
    rw [decide_eq_true_iff]
    exact ⟨h1, h2, h3, h4, by omega, by omega⟩
  · have := (List.pairwise_iff_getElem.1 (rackGo_apart (tm xs ys) (fun n => (tm_bounds0 hg n).1) (srt ltB list) (List.replicate pl 0) (by simp; omega))) i j (by unfold rackS at hj; omega) hj hij ho.1.symm
    obtain ⟨o1, o2, o3⟩ := ho
    unfold rackS at o2
    omega

/-! ### more places -/
def cnt (F : List Int) (x : Int) : Nat := F.countP (fun y => decide (y ≤ x))
theorem cnt_set {F : List Int} {p : Nat} (h : p < F.length) (v x : Int) : cnt (F.set p v) x + (if F[p] ≤ x then 1 else 0) = cnt F x + (if v ≤ x then 1 else 0) := by
  unfold cnt
  rw [List.countP_set h]
  have hpos : decide (F[p] ≤ x) = true → 0 < F.countP (fun y => decide (y ≤ x)) := fun hd => List.countP_pos_iff.2 ⟨_, List.getElem_mem h, hd⟩
  simp only [decide_eq_true_eq] at hpos ⊢
  by_cases h1 : F[p] ≤ x
  · have := hpos h1
    simp only [h1, if_true]
    split <;> omega
  · simp only [h1, if_false]
    split <;> omega
theorem rackGo_more (t : Int → Int) (ht : ∀ n, 0 ≤ t n) : ∀ (bs : List Bat) (F G : List Int), 0 < F.length → 0 < G.length → (∀ x, cnt G x ≤ cnt F x) → ∀ (i : Nat) (h : i < (rackGo t G bs).length) (h' : i < (rackGo t F bs).length), (rackGo t G bs)[i].name = (rackGo t F bs)[i].name ∧ (rackGo t F bs)[i].frm ≤ (rackGo t G bs)[i].frm
  | [], F, G, _, _, _, i, h, h' => by simp [rackGo] at h
  | b :: bs, F, G, hF, hG, hc, i, h, h' => by
    have hpF := best_lt' F F.length hF (Nat.le_refl _)
    have hpG := best_lt' G G.length hG (Nat.le_refl _)
    have eF : F.getD (best F F.length) 0 = F[best F F.length] := by rw [List.getD_eq_getElem?_getD, List.getElem?_eq_getElem hpF]; rfl
    have eG : G.getD (best G G.length) 0 = G[best G G.length] := by rw [List.getD_eq_getElem?_getD, List.getElem?_eq_getElem hpG]; rfl
    have hmin : F[best F F.length] ≤ G[best G G.length] := by
      have h1 : 0 < cnt G G[best G G.length] := List.countP_pos_iff.2 ⟨_, List.getElem_mem hpG, by simp⟩
      have h2 : 0 < cnt F G[best G G.length] := Nat.lt_of_lt_of_le h1 (hc _)
      obtain ⟨y, hy, hle⟩ := List.countP_pos_iff.1 h2
      obtain ⟨k, hk, rfl⟩ := List.getElem_of_mem hy
      have h3 := best_min F F.length k hk
      rw [eF] at h3
      have h4 : F.getD k 0 = F[k] := by rw [List.getD_eq_getElem?_getD, List.getElem?_eq_getElem hk]; rfl
      rw [h4] at h3
      have h5 : F[k] ≤ G[best G G.length] := by simpa using hle
      omega
    have htb := ht b.th
    simp only [rackGo] at h h' ⊢
    cases i with
    | zero =>
      simp only [List.getElem_cons_zero]
      rw [eF, eG]
      exact ⟨trivial, by omega⟩
    | succ i =>
      simp only [List.getElem_cons_succ]
      refine rackGo_more t ht bs _ _ (by simpa using hF) (by simpa using hG) (fun x => ?_) i _ _
      rw [eF, eG]
      have c1 := cnt_set hpF (max b.arr F[best F F.length] + t b.th) x
      have c2 := cnt_set hpG (max b.arr G[best G G.length] + t b.th) x
      have c3 := hc x
      by_cases hx : G[best G G.length] ≤ x
      · have hx2 : F[best F F.length] ≤ x := by omega
        rw [if_pos hx2] at c1
        rw [if_pos hx] at c2
        by_cases hv : max b.arr G[best G G.length] + t b.th ≤ x
        · rw [if_pos hv] at c2
          rw [if_pos (by omega)] at c1
          omega
        · rw [if_neg hv] at c2
          omega
      · have hz : cnt G x = 0 := by
          unfold cnt
          rw [List.countP_eq_zero]
          intro y hy
          obtain ⟨k, hk, rfl⟩ := List.getElem_of_mem hy
          have h3 := best_min G G.length k hk
          rw [eG] at h3
          have h4 : G.getD k 0 = G[k] := by rw [List.getD_eq_getElem?_getD, List.getElem?_eq_getElem hk]; rfl
          rw [h4] at h3
          simp; omega
        rw [if_neg hx, if_neg (by omega)] at c2
        omega
theorem cnt_rep (n : Nat) (x : Int) : cnt (List.replicate n 0) x = if 0 ≤ x then n else 0 := by
  unfold cnt
  rw [List.countP_replicate]; simp
theorem rackS_more {xs ys : List Int} (hg : Good xs ys) {p q : Nat} (hp : 0 < p) (hpq : p ≤ q) (list : List Bat) (i : Nat) (h : i < (rackS xs ys p list).length) (h' : i < (rackS xs ys q list).length) :
    (rackS xs ys p list)[i].name = (rackS xs ys q list)[i].name ∧ (rackS xs ys q list)[i].frm ≤ (rackS xs ys p list)[i].frm :=
  rackGo_more (tm xs ys) (fun n => (tm_bounds0 hg n).1) (srt ltB list) (List.replicate q 0) (List.replicate p 0) (by simp; omega) (by simp; omega) (fun x => by rw [cnt_rep, cnt_rep]; split <;> omega) i h h'
end Go.Vm.Ch51
