/- Chapter 51: what its functions compute. -/
import Derived.Test.YtdodnhbegabbpaaC51u
namespace Go.Vm.Ch51
open Go.Vm.Stable
def sm {α : Type} (f : α → Int) : List α → Int
  | [] => 0
  | x :: L => f x + sm f L
theorem sm_perm {α : Type} {f : α → Int} {A B : List α} (h : A.Perm B) : sm f A = sm f B := by
  induction h with
  | nil => rfl
  | cons x _ ih => simp only [sm, ih]
  | swap x y _ => simp only [sm]; omega
  | trans _ _ h1 h2 => rw [h1, h2]
theorem sm_nonneg {α : Type} {f : α → Int} : ∀ {L : List α}, (∀ x ∈ L, 0 ≤ f x) → 0 ≤ sm f L
  | [], _ => Int.le_refl _
  | x :: L, h => by
    have := h x (by simp)
    have := sm_nonneg (L := L) fun y hy => h y (by simp [hy])
    simp only [sm]; omega
theorem sm_filter {α : Type} (f : α → Int) (p : α → Bool) : ∀ L : List α, sm f L = sm f (L.filter p) + sm f (L.filter fun x => !p x)
  | [] => rfl
  | x :: L => by
    have := sm_filter f p L
    cases h : p x
    · rw [List.filter_cons_of_neg (by simp [h]), List.filter_cons_of_pos (by simp [h])]
      simp only [sm]; omega
    · rw [List.filter_cons_of_pos h, List.filter_cons_of_neg (by simp [h])]
      simp only [sm]; omega
theorem sm_if {α : Type} (f : α → Int) (p : α → Bool) : ∀ L : List α, sm (fun x => if p x then f x else 0) L = sm f (L.filter p)
  | [] => rfl
  | x :: L => by
    have := sm_if f p L
    cases h : p x
    · rw [List.filter_cons_of_neg (by simp [h])]; simp only [sm, h]; simp [this]
    · rw [List.filter_cons_of_pos h]; simp only [sm, h, this]; simp
theorem work_sm (t : Int → Int) (a : Int) (L : List Bat) : work t a L = sm (fun x => if decide (a ≤ x.arr) then t x.th else 0) L := by
  have key : ∀ (L : List Bat) (z : Int), L.foldl (fun n x => if a ≤ x.arr then n + t x.th else n) z = z + sm (fun x => if decide (a ≤ x.arr) then t x.th else 0) L := by
    intro L
    induction L with
    | nil => intro z; simp [sm]
    | cons b L ih =>
      intro z
      rw [List.foldl_cons, ih]
      simp only [sm, decide_eq_true_eq]
      split <;> omega
  unfold work
  rw [key]; omega
def len (s : Sta) : Int := s.to - s.frm
theorem sum_le (t : Int → Int) (a : Int) : ∀ (list : List Bat) (stays : List Sta), (list.map Bat.name).Nodup → (∀ x ∈ list, ∃ s ∈ stays, s.name = x.name ∧ x.arr ≤ s.frm ∧ len s = t x.th) → (∀ s ∈ stays, s.frm ≤ s.to) →
    sm (fun x : Bat => if decide (a ≤ x.arr) then t x.th else 0) list ≤ sm (fun s => if decide (a ≤ s.frm) then len s else 0) stays
  | [], stays, _, _, h => by
    refine sm_nonneg fun s hs => ?_
    have := h s hs
    unfold len; split <;> omega
  | x :: list, stays, hn, hf, h => by
    obtain ⟨s, hs, h1, h2, h3⟩ := hf x (by simp)
    rw [List.map_cons, List.nodup_cons] at hn
    rw [sm_perm (List.perm_cons_erase hs)]
    have ih := sum_le t a list (stays.erase s) hn.2 (fun y hy => by
      obtain ⟨s', hs', k1, k2, k3⟩ := hf y (by simp [hy])
      have hne : s' ≠ s := fun e => hn.1 (List.mem_map.2 ⟨y, hy, by rw [← k1, e, h1]⟩)
      exact ⟨s', (List.mem_erase_of_ne hne).2 hs', k1, k2, k3⟩) (fun s' hs' => h s' (List.mem_of_mem_erase hs'))
    simp only [sm]
    have hx : (if decide (a ≤ x.arr) = true then t x.th else 0) ≤ (if decide (a ≤ s.frm) = true then len s else 0) := by
      have := h s hs
      by_cases hc : a ≤ x.arr
      · rw [if_pos (by simpa using hc), if_pos (by simp; omega), h3]; omega
      · rw [if_neg (by simpa using hc)]
        unfold len; split <;> omega
    omega
/-- Stays that lie apart, between two minutes, are together no longer than the time between. -/
theorem apart_le : ∀ (n : Nat) (L : List Sta) (a E : Int), L.length ≤ n → a ≤ E → (∀ s ∈ L, a ≤ s.frm ∧ s.frm ≤ s.to ∧ s.to ≤ E) → L.Pairwise (fun s o => s.to ≤ o.frm ∨ o.to ≤ s.frm) → sm len L ≤ E - a
  | _, [], a, E, _, h, _, _ => by simp only [sm]; omega
  | 0, s :: L, _, _, hl, _, _, _ => by simp at hl
  | n + 1, s :: L, a, E, hl, h, hb, hp => by
    obtain ⟨hp1, hp2⟩ := List.pairwise_cons.1 hp
    have hs := hb s (by simp)
    simp only [sm]
    rw [sm_filter len (fun o => decide (s.to ≤ o.frm)) L]
    have h1 := apart_le n (L.filter fun o => decide (s.to ≤ o.frm)) s.to E (by have := List.length_filter_le (fun o => decide (s.to ≤ o.frm)) L; simp at hl; omega) hs.2.2 (fun o ho => by
      rw [List.mem_filter] at ho
      have := hb o (by simp [ho.1])
      have := of_decide_eq_true ho.2
      omega) (hp2.sublist List.filter_sublist)
    have h2 := apart_le n (L.filter fun o => !decide (s.to ≤ o.frm)) a s.frm (by have := List.length_filter_le (fun o => !decide (s.to ≤ o.frm)) L; simp at hl; omega) hs.1 (fun o ho => by
      rw [List.mem_filter] at ho
      have := hb o (by simp [ho.1])
      have h3 : ¬ s.to ≤ o.frm := by simpa using ho.2
      have := hp1 o ho.1
      omega) (hp2.sublist List.filter_sublist)
    unfold len at *
    omega
theorem places_le (a E : Int) (h : a ≤ E) : ∀ (n : Nat) (L : List Sta), (∀ s ∈ L, 0 ≤ s.place ∧ s.place < n ∧ a ≤ s.frm ∧ s.frm ≤ s.to ∧ s.to ≤ E) → L.Pairwise (fun s o => s.place = o.place → s.to ≤ o.frm ∨ o.to ≤ s.frm) → sm len L ≤ n * (E - a)
  | 0, L, hb, _ => by
    cases L with
    | nil => simp [sm]
    | cons s L => have := hb s (by simp); omega
  | n + 1, L, hb, hp => by
    rw [sm_filter len (fun o => decide (o.place = n)) L]
    have h1 := apart_le _ (L.filter fun o => decide (o.place = n)) a E (Nat.le_refl _) h (fun o ho => (hb o (List.mem_filter.1 ho).1).2.2) (by
      refine List.Pairwise.imp_of_mem (fun {s o} hs ho hso => hso ?_) (hp.sublist List.filter_sublist)
      rw [List.mem_filter] at hs ho
      rw [of_decide_eq_true hs.2, of_decide_eq_true ho.2])
    have h2 := places_le a E h n (L.filter fun o => !decide (o.place = n)) (fun o ho => by
      rw [List.mem_filter] at ho
      have h3 := hb o ho.1
      have h4 : ¬ o.place = n := by simpa using ho.2
      omega) (hp.sublist List.filter_sublist)
    have e : ((n + 1 : Nat) : Int) * (E - a) = (n : Int) * (E - a) + (E - a) := by
      rw [Int.natCast_add, Int.add_mul]; simp
    omega
theorem endT_ge {L : List Sta} {s : Sta} (h : s ∈ L) : s.to ≤ endT L := by
  have key : ∀ (L : List Sta) (z : Int), z ≤ L.foldl (fun n s => max n s.to) z ∧ ∀ s ∈ L, s.to ≤ L.foldl (fun n s => max n s.to) z := by
    intro L
    induction L with
    | nil => intro z; simp
    | cons b L ih =>
      intro z
      have := ih (max z b.to)
      rw [List.foldl_cons]
      refine ⟨by omega, fun s hs => ?_⟩
      rcases List.mem_cons.1 hs with rfl | hs
      · omega
      · exact this.2 s hs
  exact (key L 0).2 s h
theorem bnd_le {xs ys : List Int} {pl : Int} {list : List Bat} {stays : List Sta} (hv : ValidP xs ys pl list stays) (hE : 0 ≤ endT stays) : bnd (tm xs ys) pl list list ≤ endT stays := by
  obtain ⟨hr, hl, hfit, hov⟩ := valid_iff.1 hv
  obtain ⟨-, -, hst, hcl⟩ := hv
  obtain ⟨hg, hp1, hp2, hl128, hnames, hb, hnd⟩ := rdy_ok hr
  have hf : ∀ x ∈ list, ∃ s ∈ stays, s.name = x.name ∧ x.arr ≤ s.frm ∧ len s = tm xs ys x.th ∧ s.frm ≤ s.to := fun x hx => by
    obtain ⟨s, hs, he⟩ := hfit x hx
    unfold fits at he
    rw [decide_eq_true_iff] at he
    exact ⟨s, hs, he.1, he.2.2.2.1, he.2.2.2.2.2, he.2.2.2.2.1⟩
  have hall : ∀ s ∈ stays, 0 ≤ s.place ∧ s.place < pl ∧ s.frm ≤ s.to := fun s hs => by
    have h1 := hst s hs
    unfold fit1 at h1
    split at h1
    · exact h1.elim
    · rename_i k _
      have := (tm_bounds0 hg (gi list k).th).1
      omega
  have hpw : stays.Pairwise (fun s o => s.place = o.place → s.to ≤ o.frm ∨ o.to ≤ s.frm) := by
    rw [List.pairwise_iff_getElem]
    intro i j hi hj hij hpe
    have := hcl i j hj hij
    unfold clash at this
    rw [Bool.or_eq_false_iff] at this
    have h2 := this.2
    simp only [hpe, decide_true, Bool.true_and, Bool.and_eq_false_iff, decide_eq_false_iff_not] at h2
    rcases h2 with h2 | h2 <;> omega
  obtain ⟨n, hn⟩ : ∃ n : Nat, pl = n := ⟨pl.toNat, by omega⟩
  have hone : ∀ b ∈ list, b.arr + tm xs ys b.th ≤ endT stays ∧ b.arr + (work (tm xs ys) b.arr list + pl - 1).tdiv pl ≤ endT stays := fun b hbm => by
    obtain ⟨s, hs, h1, h2, h3, h4⟩ := hf b hbm
    have h5 := endT_ge hs
    have h6 := tm_bounds0 hg b.th
    unfold len at h3
    refine ⟨by omega, ?_⟩
    have hw0 := (work_le (tm_bounds0 hg) b.arr list).1
    have hw : work (tm xs ys) b.arr list ≤ pl * (endT stays - b.arr) := by
      rw [work_sm]
      refine Int.le_trans (sum_le (tm xs ys) b.arr list stays hnd (fun x hx => by obtain ⟨s, a1, a2, a3, a4, _⟩ := hf x hx; exact ⟨s, a1, a2, a3, a4⟩) (fun s hs => (hall s hs).2.2)) ?_
      rw [sm_if, hn]
      refine places_le b.arr (endT stays) (by omega) n _ (fun s hs => ?_) (hpw.sublist List.filter_sublist)
      rw [List.mem_filter] at hs
      have := hall s hs.1
      have := of_decide_eq_true hs.2
      have := endT_ge hs.1
      omega
    have hd : (work (tm xs ys) b.arr list + pl - 1).tdiv pl ≤ endT stays - b.arr := by
      rw [Int.tdiv_eq_ediv_of_nonneg (by omega)]
      have : (work (tm xs ys) b.arr list + pl - 1) / pl < endT stays - b.arr + 1 := by
        rw [Int.ediv_lt_iff_lt_mul (by omega), Int.add_mul, Int.mul_comm (endT stays - b.arr) pl]
        omega
      omega
    omega
  have key : ∀ (L : List Bat) (z : Int), z ≤ endT stays → (∀ b ∈ L, b.arr + tm xs ys b.th ≤ endT stays ∧ b.arr + (work (tm xs ys) b.arr list + pl - 1).tdiv pl ≤ endT stays) → L.foldl (fun n b => max (max n (b.arr + tm xs ys b.th)) (b.arr + (work (tm xs ys) b.arr list + pl - 1).tdiv pl)) z ≤ endT stays := by
    intro L
    induction L with
    | nil => intro z hz _; simpa using hz
    | cons b L ih =>
      intro z hz h
      rw [List.foldl_cons]
      have := h b (by simp)
      exact ih _ (by omega) fun b' hb' => h b' (by simp [hb'])
  exact key list 0 hE hone
end Go.Vm.Ch51
