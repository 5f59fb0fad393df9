/- Chapter 51: what its functions compute. -/
import Derived.Test.YtdodnhbegabbpaaC51m
namespace Go.Vm.Ch51
open _root_.Ch51 (T51 c5)
set_option maxRecDepth 10000
set_option maxHeartbeats 4000000
/-- Two lists without doubles, as long as each other, one within the other: then also the other way. -/
theorem sub_sup {α : Type} [DecidableEq α] : ∀ (a b : List α), a.Nodup → b.length = a.length → (∀ x ∈ a, x ∈ b) → b.Nodup ∧ ∀ x ∈ b, x ∈ a
  | [], b, _, hl, _ => by
    have : b = [] := List.length_eq_zero_iff.1 hl
    subst this; simp
  | x :: a, b, hn, hl, hs => by
    have hx : x ∈ b := hs x (by simp)
    rw [List.nodup_cons] at hn
    have hp : b.Perm (x :: b.erase x) := List.perm_cons_erase hx
    have ih := sub_sup a (b.erase x) hn.2 (by rw [List.length_erase_of_mem hx, hl]; simp) fun y hy => by
      have hne : y ≠ x := fun e => hn.1 (e ▸ hy)
      exact (List.mem_erase_of_ne hne).2 (hs y (by simp [hy]))
    have hxe : x ∉ b.erase x := fun h => hn.1 (ih.2 x h)
    refine ⟨hp.nodup_iff.2 (List.nodup_cons.2 ⟨hxe, ih.1⟩), fun y hy => ?_⟩
    have := hp.mem_iff.1 hy
    rcases List.mem_cons.1 this with rfl | h
    · simp
    · exact List.mem_cons_of_mem _ (ih.2 y h)
theorem find_name {list : List Bat} (hn : (list.map Bat.name).Nodup) {b : Bat} (hb : b ∈ list) {s : List UInt8} (h : b.name = s) : ∃ k, list.findIdx? (fun x => x.name == s) = some k ∧ gi list k = b := by
  obtain ⟨k, hk, rfl⟩ := List.getElem_of_mem hb
  refine ⟨k, ?_, gi_nat hk⟩
  rw [List.findIdx?_eq_some_iff_getElem]
  refine ⟨hk, by simp [h], fun j hj => ?_⟩
  have := (nodup_iff list).1 hn j k hk hj
  simp only [beq_iff_eq]
  rw [← h]; exact this
theorem valid_iff {xs ys : List Int} {places : Int} {list : List Bat} {stays : List Sta} : ValidP xs ys places list stays ↔ (rdy xs ys places list = 0 ∧ PossP xs ys places list stays) := by
  constructor
  · rintro ⟨hr, hl, hfit, hcl⟩
    obtain ⟨hg, hp1, hp2, hl128, hnames, hb, hnd⟩ := rdy_ok hr
    have hsn : (stays.map Sta.name).Nodup := by
      unfold List.Nodup
      rw [List.pairwise_iff_getElem]
      intro i j hi hj hij
      simp only [List.length_map] at hi hj
      have := hcl i j hj hij
      simp only [List.getElem_map]
      intro e
      simp [clash, e] at this
    have hsub : ∀ x ∈ stays.map Sta.name, x ∈ list.map Bat.name := by
      intro x hx
      obtain ⟨s, hs, rfl⟩ := List.mem_map.1 hx
      have := hfit s hs
      unfold fit1 at this
      split at this
      · exact this.elim
      · rename_i k hk
        rw [List.findIdx?_eq_some_iff_getElem] at hk
        obtain ⟨hk, he, _⟩ := hk
        exact List.mem_map.2 ⟨_, List.getElem_mem hk, by simpa using he⟩
    have hsup := (sub_sup _ (list.map Bat.name) hsn (by simp [hl]) hsub).2
    refine ⟨hr, hl, fun b hbl => ?_, fun i j hj hij ho => ?_⟩
    · obtain ⟨s, hs, he⟩ := List.mem_map.1 (hsup b.name (List.mem_map.2 ⟨b, hbl, rfl⟩))
      have hf := hfit s hs
      obtain ⟨k, hk, hke⟩ := find_name hnd hbl he.symm
      have htb := (tm_bounds0 hg b.th).1
      unfold fit1 at hf
      rw [hk] at hf
      simp only [hke] at hf
      refine ⟨s, hs, ?_⟩
      unfold fits
      rw [decide_eq_true_iff]
      exact ⟨he, by omega, by omega, by omega, by omega, by omega⟩
    · have := hcl i j hj hij
      obtain ⟨o1, o2, o3⟩ := ho
      simp [clash, o1, o2, o3] at this
  · rintro ⟨hr, hl, hfit, hov⟩
    obtain ⟨hg, hp1, hp2, hl128, hnames, hb, hnd⟩ := rdy_ok hr
    have hsub : ∀ x ∈ list.map Bat.name, x ∈ stays.map Sta.name := by
      intro x hx
      obtain ⟨b, hb, rfl⟩ := List.mem_map.1 hx
      obtain ⟨s, hs, he⟩ := hfit b hb
      unfold fits at he
      rw [decide_eq_true_iff] at he
      exact List.mem_map.2 ⟨s, hs, he.1⟩
    obtain ⟨hsn, hsup⟩ := sub_sup _ (stays.map Sta.name) hnd (by simp [hl]) hsub
    refine ⟨hr, hl, fun s hs => ?_, fun i j hj hij => ?_⟩
    · obtain ⟨b, hbl, he⟩ := List.mem_map.1 (hsup s.name (List.mem_map.2 ⟨s, hs, rfl⟩))
      obtain ⟨s', hs', hf⟩ := hfit b hbl
      unfold fits at hf
      rw [decide_eq_true_iff] at hf
      have hss : s' = s := by
        obtain ⟨i, hi, rfl⟩ := List.getElem_of_mem hs
        obtain ⟨j, hj, rfl⟩ := List.getElem_of_mem hs'
        unfold List.Nodup at hsn
        rw [List.pairwise_iff_getElem] at hsn
        rcases Nat.lt_trichotomy i j with h | h | h
        · have := hsn i j (by simpa using hi) (by simpa using hj) h
          simp only [List.getElem_map] at this
          exact absurd (he.symm.trans hf.1.symm) this
        · subst h; rfl
        · have := hsn j i (by simpa using hj) (by simpa using hi) h
          simp only [List.getElem_map] at this
          exact absurd (hf.1.trans he) this
      subst hss
      obtain ⟨k, hk, hke⟩ := find_name hnd hbl he
      unfold fit1
      rw [hk]
      simp only [hke]
      omega
    · have ho := hov i j hj hij
      have hne : ¬ stays[i].name = stays[j].name := by
        unfold List.Nodup at hsn
        rw [List.pairwise_iff_getElem] at hsn
        have := hsn i j (by simp; omega) (by simpa using hj) hij
        simpa using this
      have hno : ¬ (stays[i].place = stays[j].place ∧ stays[i].frm < stays[j].to ∧ stays[j].frm < stays[i].to) := fun h => ho ⟨h.1.symm, h.2.2, h.2.1⟩
      unfold clash
      simp only [hne, Bool.or_eq_false_iff, beq_eq_false_iff_ne, ne_eq, not_false_eq_true, true_and]
      rw [Bool.eq_false_iff]
      intro h
      simp only [Bool.and_eq_true, decide_eq_true_eq] at h
      exact hno ⟨h.1.1, h.1.2, h.2⟩
end Go.Vm.Ch51
