/- Chapter 51: what its functions compute. -/
import Derived.Test.YtdodnhbegabbpaaC51l
namespace Go.Vm.Ch51
open _root_.Ch51 (T51 c29 c30 c49)
set_option maxRecDepth 10000
set_option maxHeartbeats 4000000
def over (a b : Sta) : Prop := a.place = b.place ∧ a.frm < b.to ∧ b.frm < a.to
def PossP (xs ys : List Int) (places : Int) (list : List Bat) (stays : List Sta) : Prop :=
  stays.length = list.length ∧ (∀ b ∈ list, ∃ s ∈ stays, fits xs ys places b s = true) ∧ ∀ i j (h : j < stays.length) (h' : i < j), ¬ over stays[j] stays[i]
open Classical in
noncomputable def possB (xs ys : List Int) (places : Int) (list : List Bat) (stays : List Sta) : Bool := decide (PossP xs ys places list stays)
theorem possB_t {xs ys : List Int} {places : Int} {list : List Bat} {stays : List Sta} (h : PossP xs ys places list stays) : possB xs ys places list stays = true := by
  unfold possB; simpa using h
theorem possB_f {xs ys : List Int} {places : Int} {list : List Bat} {stays : List Sta} (h : ¬ PossP xs ys places list stays) : possB xs ys places list stays = false := by
  unfold possB; simpa using h
def SOK (s : Sta) : Prop := 0 ≤ s.frm ∧ s.frm ≤ 9223372036854775807 ∧ 0 ≤ s.to ∧ s.to ≤ 9223372036854775807
theorem q30 (xs ys : List Int) (nx ny nn ns : Bool) (places : Int) (list : List Bat) (stays : List Sta) (hg : Good xs ys) (hb : ∀ b ∈ list, 1 ≤ b.th ∧ b.th ≤ 1000000) (hlen : (list.length : Int) < 4611686018427387904) (hto : ∀ s ∈ stays, SOK s) (m : Mem) :
    callL T51 30 [rv nx ny xs ys, AV.int IntKind.i64 places, bv nn list, sv ns stays] m = some (.bool (possB xs ys places list stays), m) := by
  apply callL_body (vf := c30) rfl rfl
  by_cases hl : stays.length = list.length
  rotate_left
  · have := possB_f (fun h : PossP xs ys places list stays => hl h.1)
    have hl' : ¬ (stays.length : Int) = list.length := by omega
    simp [c30, this, hl']
  simp [c30, hl]
  refine wp_loop (fun w s => ∃ i : Nat, w = list.length - i ∧ i ≤ list.length ∧ s.get 1 = AV.int IntKind.i64 places ∧ s.get 2 = bv nn list ∧ s.get 3 = sv ns stays ∧ s.get 4 = .ptr (.loc 4 0) 0 ∧ s.loc 4 = [.cells false [iv nx xs, iv ny ys]] ∧ s.get 9 = AV.int IntKind.i64 i ∧ s.mem = m ∧
    (∀ j (h : j < list.length), j < i → ∃ s ∈ stays, fits xs ys places list[j] s = true)) ?_ list.length _ ?_
  rotate_left
  · exact ⟨0, by simp⟩
  rintro w s ⟨i, hn, hi, e1, e2, e3, e4, l4, e9, hm, hfit⟩
  have w1 : IntKind.wrap .i64 ((i : Int) + 1) = (i : Int) + 1 := wrap64 (by omega) (by omega)
  by_cases h : i < list.length
  · simp [e2, e9, h]
    refine wp_loop (fun w s => ∃ (j : Nat) (f : Bool), w = stays.length - j ∧ j ≤ stays.length ∧ s.get 1 = AV.int IntKind.i64 places ∧ s.get 2 = bv nn list ∧ s.get 3 = sv ns stays ∧ s.get 4 = .ptr (.loc 4 0) 0 ∧ s.loc 4 = [.cells false [iv nx xs, iv ny ys]] ∧ s.get 9 = AV.int IntKind.i64 i ∧ s.get 10 = .bool f ∧ s.get 11 = AV.int IntKind.i64 j ∧ s.mem = m ∧
      (f = true → ∃ s ∈ stays, fits xs ys places list[i] s = true) ∧ (f = false → ∀ k (h : k < stays.length), k < j → fits xs ys places list[i] stays[k] = false)) ?_ stays.length _ ?_
    rotate_left
    · exact ⟨0, false, by simp [e1, e2, e3, e4, l4, e9, hm]⟩
    clear e1 e2 e3 e4 l4 e9 hm
    rintro w2 s ⟨j, f, hn2, hj, e1, e2, e3, e4, l4, e9, e10, e11, hm, hft, hff⟩
    have w2 : IntKind.wrap .i64 ((j : Int) + 1) = (j : Int) + 1 := wrap64 (by omega) (by omega)
    by_cases hji : j < stays.length
    · have h49 := q49 xs ys nx ny places list[i] stays[j] hg (hb _ (List.getElem_mem h)) (hto _ (List.getElem_mem hji)) []
      cases f with
      | true =>
        simp [e1, e2, e3, e4, l4, e9, e10, e11, hm, hji, w2]
        exact ⟨stays.length - (j + 1), by omega, j + 1, rfl, by omega, rfl, hft rfl⟩
      | false =>
        cases hfv : fits xs ys places list[i] stays[j]
        · rw [hfv] at h49
          simp [e1, e2, e3, e4, l4, e9, e10, e11, hm, hji, h, w2, gi_nat h, gi_nat hji, h49]
          refine ⟨stays.length - (j + 1), by omega, j + 1, rfl, by omega, rfl, fun k hk hlt => ?_⟩
          by_cases e : k = j
          · subst e; exact hfv
          · exact hff rfl k hk (by omega)
        · rw [hfv] at h49
          simp [e1, e2, e3, e4, l4, e9, e10, e11, hm, hji, h, w2, gi_nat h, gi_nat hji, h49]
          exact ⟨stays.length - (j + 1), by omega, j + 1, rfl, by omega, rfl, _, List.getElem_mem hji, hfv⟩
    · have hj' : ¬ j < list.length := by omega
      cases f with
      | true =>
        simp [e1, e2, e3, e4, l4, e9, e10, e11, hm, hji, w1]
        refine ⟨list.length - (i + 1), by omega, i + 1, rfl, by omega, rfl, fun k hk hlt => ?_⟩
        by_cases e : k = i
        · subst e; exact hft rfl
        · exact hfit k hk (by omega)
      | false =>
        have := possB_f (xs := xs) (ys := ys) (places := places) (list := list) (stays := stays) fun hv => by
          obtain ⟨x, hx, hxe⟩ := hv.2.1 _ (List.getElem_mem h)
          obtain ⟨k, hk, rfl⟩ := List.getElem_of_mem hx
          rw [hff rfl k hk (by omega)] at hxe; cases hxe
        simp [e3, e10, e11, hm, hji, this]
  simp [e2, e9, h]
  refine wp_loop (fun w s => ∃ i : Nat, w = stays.length - i ∧ i ≤ stays.length ∧ s.get 3 = sv ns stays ∧ s.get 12 = AV.int IntKind.i64 i ∧ s.mem = m ∧ ∀ j k (h : k < stays.length) (h' : j < k), k < i → ¬ over stays[k] stays[j]) ?_ stays.length _ ?_
  rotate_left
  · exact ⟨0, by simp [e3, hm]⟩
  have hall : ∀ b ∈ list, ∃ s ∈ stays, fits xs ys places b s = true := fun b hb => by
    obtain ⟨k, hk, rfl⟩ := List.getElem_of_mem hb
    exact hfit k hk (by omega)
  rintro w s ⟨i, hn, hi, e3, e12, hm, hov⟩
  have w1 : IntKind.wrap .i64 ((i : Int) + 1) = (i : Int) + 1 := wrap64 (by omega) (by omega)
  by_cases h : i < stays.length
  rotate_left
  · have := possB_t (show PossP xs ys places list stays from ⟨hl, hall, fun j k hk hjk => hov j k hk hjk (by omega)⟩)
    simp [e3, e12, hm, h, this]
  simp [e3, e12, h]
  refine wp_loop (fun w s => ∃ j : Nat, w = i - j ∧ j ≤ i ∧ s.get 3 = sv ns stays ∧ s.get 12 = AV.int IntKind.i64 i ∧ s.get 13 = AV.int IntKind.i64 j ∧ s.mem = m ∧ ∀ k (h : k < stays.length), k < j → ¬ over stays[i] stays[k]) ?_ i _ ?_
  rotate_left
  · exact ⟨0, by simp [e3, e12, hm]⟩
  clear e3 e12 hm
  rintro w2 s ⟨j, hn2, hj, e3, e12, e13, hm, hov2⟩
  have w2 : IntKind.wrap .i64 ((j : Int) + 1) = (j : Int) + 1 := wrap64 (by omega) (by omega)
  by_cases hji : j < i
  · have hjl : j < stays.length := by omega
    have hnext : ¬ over stays[i] stays[j] → ∃ n', n' < i - j ∧ ∃ j_1, n' = i - j_1 ∧ j_1 ≤ i ∧ (j : Int) + 1 = (j_1 : Int) ∧ ∀ k (h : k < stays.length), k < j_1 → ¬ over stays[i] stays[k] := by
      intro hno
      refine ⟨i - (j + 1), by omega, j + 1, rfl, by omega, rfl, fun k hk hlt => ?_⟩
      by_cases e : k = j
      · subst e; exact hno
      · exact hov2 k hk (by omega)
    by_cases g1 : stays[i].place = stays[j].place
    rotate_left
    · simp [e3, e12, e13, hm, hji, h, hjl, w2, gi_nat h, gi_nat hjl, g1, hn2]
      exact hnext fun ho => g1 ho.1
    by_cases g2 : stays[i].frm < stays[j].to
    rotate_left
    · simp [e3, e12, e13, hm, hji, h, hjl, w2, gi_nat h, gi_nat hjl, g1, g2, hn2]
      exact hnext fun ho => g2 ho.2.1
    by_cases g3 : stays[j].frm < stays[i].to
    rotate_left
    · simp [e3, e12, e13, hm, hji, h, hjl, w2, gi_nat h, gi_nat hjl, g1, g2, g3, hn2]
      exact hnext fun ho => g3 ho.2.2
    have := possB_f (xs := xs) (ys := ys) (places := places) (list := list) (stays := stays) fun hv => hv.2.2 j i h hji ⟨g1, g2, g3⟩
    simp [e3, e12, e13, hm, hji, h, hjl, gi_nat h, gi_nat hjl, g1, g2, g3, this]
  · simp [e3, e12, e13, hm, hji, w1]
    refine ⟨stays.length - (i + 1), by omega, i + 1, rfl, by omega, rfl, fun j' k hk hjk hki => ?_⟩
    by_cases e : k = i
    · subst e
      exact hov2 j' (by omega) (by omega)
    · exact hov j' k hk hjk (by omega)
end Go.Vm.Ch51
