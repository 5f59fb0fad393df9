/- Chapter 11: what its functions compute. -/
import Derived.Test.YtmlfcgmiaapffaaGreatDoorC11b
namespace Go.Vm.Ch11
open _root_.Ch11 (T11 c96 c103)
set_option maxRecDepth 10000
set_option maxHeartbeats 4000000
def goodN (i : Nat) (n : Nat) : Prop := partN n = true ∧ ¬ (65 ≤ n ∧ n ≤ 90) ∧ (i = 0 → letterN n = true)
theorem inner_part (c : UInt8) : inner c = true ↔ (partN c.toNat = true ∧ ¬ (65 ≤ c.toNat ∧ c.toNat ≤ 90)) := by
  unfold inner partN
  simp only [decide_eq_true_eq]
  omega
theorem nm_bad {b : List UInt8} {i : Nat} (h : i < b.length) (hb : ¬ goodN i b[i].toNat) : nameOK b = false := by
  cases b with
  | nil => simp at h
  | cons c r =>
    rw [Bool.eq_false_iff]
    intro hn
    simp only [nameOK, Bool.and_eq_true, decide_eq_true_eq] at hn
    obtain ⟨⟨h1, h2, h3⟩, h4⟩ := hn
    have hi := (inner_part _).1 (List.all_eq_true.1 h4 _ (List.getElem_mem h))
    refine hb ⟨hi.1, hi.2, fun h0 => ?_⟩
    subst h0
    simp only [List.getElem_cons_zero]
    unfold letterN; simp only [decide_eq_true_eq]; omega
theorem nm_good {b : List UInt8} (hg : ∀ i (h : i < b.length), goodN i b[i].toNat) : nameOK b = decide (1 ≤ b.length ∧ b.length ≤ 24) := by
  cases b with
  | nil => rfl
  | cons c r =>
    have h0 := hg 0 (by simp)
    simp only [List.getElem_cons_zero] at h0
    have hl := h0.2.2 rfl
    unfold letterN at hl
    simp only [decide_eq_true_eq] at hl
    have hall : (c :: r).all inner = true := by
      rw [List.all_eq_true]
      intro x hx
      obtain ⟨i, hi, rfl⟩ := List.getElem_of_mem hx
      have := hg i hi
      exact (inner_part _).2 ⟨this.1, this.2.1⟩
    have h2 := h0.2.1
    show (decide ((c :: r).length ≤ 24 ∧ 97 ≤ c.toNat ∧ c.toNat ≤ 122) && (c :: r).all inner) = _
    rw [hall, Bool.and_true]
    congr 1
    rw [eq_iff_iff]
    simp
    omega
theorem lab_bad {b : List UInt8} {i : Nat} (h : i < b.length) (hb : labN b[i].toNat = false) : labelOK b = false := by
  unfold labelOK
  have : b.all (fun c => labN c.toNat) = false := by
    rw [List.all_eq_false]; exact ⟨_, List.getElem_mem h, by simp [hb]⟩
  rw [this]; simp
theorem lab_good {b : List UInt8} (hg : ∀ i (h : i < b.length), labN b[i].toNat = true) : labelOK b = (decide (1 ≤ b.length ∧ b.length ≤ 40) && !(b.head? == some 32) && !(b.getLast? == some 32)) := by
  unfold labelOK
  have : b.all (fun c => labN c.toNat) = true := by
    rw [List.all_eq_true]
    intro x hx
    obtain ⟨i, hi, rfl⟩ := List.getElem_of_mem hx
    exact hg i hi
  rw [this, Bool.and_true]
theorem u8_32 (c : UInt8) : (c = 32) ↔ ((c.toNat : Int) = 32) := by
  constructor
  · rintro rfl; rfl
  · intro h
    have : c.toNat = (32 : UInt8).toNat := by show c.toNat = 32; omega
    exact UInt8.toNat_inj.1 this
theorem lab_ends {b : List UInt8} (h : 0 < b.length) : (b.head? == some 32) = decide ((b[0].toNat : Int) = 32) ∧ (b.getLast? == some 32) = decide ((b[b.length - 1].toNat : Int) = 32) := by
  constructor
  · rw [List.head?_eq_getElem?, List.getElem?_eq_getElem h]
    rw [Bool.eq_iff_iff]; simp [u8_32]
  · rw [List.getLast?_eq_getElem?, List.getElem?_eq_getElem (by omega)]
    rw [Bool.eq_iff_iff]; simp [u8_32]
theorem q103 (b : List UInt8) (hlen : (b.length : Int) < 4611686018427387904) (m : Mem) : callL T11 103 [.str b] m = some (.bool (labelOK b), m) := by
  apply callL_body (vf := c103) rfl rfl
  simp [c103]
  refine wp_loop (fun w s => ∃ i : Nat, w = b.length - i ∧ i ≤ b.length ∧ s.get 0 = .str b ∧ s.get 3 = AV.int IntKind.i64 i ∧ s.mem = m ∧ ∀ j (h : j < b.length), j < i → labN b[j].toNat = true) ?_ b.length _ ?_
  rotate_left
  · exact ⟨0, by simp⟩
  rintro w s ⟨i, hn, hi, e0, e3, hm, hbef⟩
  by_cases h : i < b.length
  · have w1 : IntKind.wrap .i64 ((i : Int) + 1) = (i : Int) + 1 := wrap64 (by omega) (by omega)
    cases hl : labN b[i].toNat
    · have hbad := lab_bad h hl
      unfold labN at hl
      rw [decide_eq_false_iff_not] at hl
      by_cases k1 : (b[i].toNat : Int) < 32
      · simp [e0, e3, hm, h, k1, hbad]
      · by_cases k2 : (126 : Int) < b[i].toNat
        · simp [e0, e3, hm, h, k1, k2, hbad]
        · have k3 : (b[i].toNat : Int) = 34 := by omega
          simp [e0, e3, hm, h, k3, hbad]
    · have hl' := hl
      unfold labN at hl
      rw [decide_eq_true_iff] at hl
      have k1 : ¬ (b[i].toNat : Int) < 32 := by omega
      have k2 : ¬ (126 : Int) < b[i].toNat := by omega
      have k3 : ¬ (b[i].toNat : Int) = 34 := by omega
      simp [e0, e3, hm, h, k1, k2, k3, w1]
      refine ⟨b.length - (i + 1), by omega, i + 1, rfl, by omega, rfl, fun j hj hlt => ?_⟩
      by_cases e : j = i
      · subst e; exact hl'
      · exact hbef j hj (by omega)
  have hg := lab_good (b := b) fun j hj => hbef j hj (by omega)
  by_cases h1 : 1 ≤ b.length
  rotate_left
  · have h1I : ¬ (1 : Int) ≤ b.length := by omega
    simp [e0, e3, hm, h, hg, h1, h1I]
  have h1I : (1 : Int) ≤ b.length := by omega
  by_cases h2 : b.length ≤ 40
  rotate_left
  · have h2I : ¬ (b.length : Int) ≤ 40 := by omega
    simp [e0, e3, hm, h, hg, h1, h1I, h2, h2I]
  have h2I : (b.length : Int) ≤ 40 := by omega
  obtain ⟨e1, e2⟩ := lab_ends (b := b) h1
  rw [hg, e1, e2]
  obtain ⟨k, hk⟩ : ∃ k, b.length = k + 1 := ⟨b.length - 1, by omega⟩
  have w1 : IntKind.wrap .i64 ((b.length : Int) - 1) = ((b.length - 1 : Nat) : Int) := by rw [wrap64 (by omega) (by omega)]; omega
  have hlast : b.length - 1 < b.length := by omega
  have h0 : b[0]? = some b[0] := List.getElem?_eq_getElem h1
  have hL : b[b.length - 1]? = some b[b.length - 1] := List.getElem?_eq_getElem hlast
  generalize b[0] = x0 at *
  generalize b[b.length - 1] = xl at *
  generalize b.length - 1 = l at *
  by_cases k1 : (x0.toNat : Int) = 32
  · simp [e0, e3, hm, h, h1I, h2I, h1, h2, h0, k1]
  · by_cases k2 : (xl.toNat : Int) = 32
    · simp [e0, e3, hm, h, h1I, h2I, h1, h2, h0, k1, w1, hL, k2]
    · simp [e0, e3, hm, h, h1I, h2I, h1, h2, h0, k1, w1, hL, k2]
end Go.Vm.Ch11
