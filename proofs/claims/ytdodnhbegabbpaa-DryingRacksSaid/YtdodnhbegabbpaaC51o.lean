/- Chapter 51: what its functions compute. -/
import Derived.Test.YtdodnhbegabbpaaC51n
namespace Go.Vm.Ch51
open _root_.Ch51 (T51 c5)
set_option maxRecDepth 10000
set_option maxHeartbeats 4000000
theorem law5 (xs ys : List Int) (nx ny nn ns : Bool) (places : Int) (list : List Bat) (stays : List Sta) (hl : (list.length : Int) ≤ 9223372036854775807) (hs : (stays.length : Int) ≤ 9223372036854775807)
    (hst : ∀ s ∈ stays, s.frm ≤ 9223372036854775807 ∧ s.to ≤ 9223372036854775807) : ∃ g, callL T51 5 [rv nx ny xs ys, AV.int IntKind.i64 places, bv nn list, sv ns stays] [] = some (.bool true, g) := by
  obtain ⟨g, haw⟩ := awake
  refine ⟨g, ?_⟩
  have h23 := q23 list nn 30 hl []
  by_cases hsh : xs.length ≤ 20 ∧ ys.length ≤ 20
  rotate_left
  · apply callL_body (vf := c5) rfl rfl
    simp [c5, haw, q12, hsh]
  by_cases hf : (list.length ≤ (30 : Int) ∧ ∀ b ∈ list, b.name.length ≤ 60)
  rotate_left
  · have e : decide (list.length ≤ (30 : Int) ∧ ∀ b ∈ list, b.name.length ≤ 60) = false := by simpa using hf
    rw [e] at h23
    apply callL_body (vf := c5) rfl rfl
    simp [c5, haw, q12, hsh, h23]
  have e : decide (list.length ≤ (30 : Int) ∧ ∀ b ∈ list, b.name.length ≤ 60) = true := by simpa using hf
  rw [e] at h23
  by_cases h40 : (40 : Int) < stays.length
  · apply callL_body (vf := c5) rfl rfl
    simp [c5, haw, q12, hsh, h23, h40]
  apply callL_body (vf := c5) rfl rfl
  simp [c5, haw, q12, hsh, h23, h40]
  refine wp_loop (fun w s => ∃ i : Nat, w = stays.length - i ∧ i ≤ stays.length ∧ s.get 1 = AV.int IntKind.i64 places ∧ s.get 2 = bv nn list ∧ s.get 3 = sv ns stays ∧ s.get 4 = .ptr (.loc 4 0) 0 ∧ s.loc 4 = [.cells false [iv nx xs, iv ny ys]] ∧ s.get 9 = AV.int IntKind.i64 i ∧ s.mem = g ∧
    (∀ j (h : j < stays.length), j < i → 0 ≤ stays[j].frm ∧ 0 ≤ stays[j].to)) ?_ stays.length _ ?_
  rotate_left
  · exact ⟨0, by simp⟩
  rintro w s ⟨i, hn, hi, e1, e2, e3, e4, l4, e9, hm, hbef⟩
  have w1 : IntKind.wrap .i64 ((i : Int) + 1) = (i : Int) + 1 := wrap64 (by omega) (by omega)
  by_cases h : i < stays.length
  · by_cases g1 : stays[i].frm < 0
    · simp [e3, e9, hm, h, gi_nat h, g1]
    by_cases g2 : stays[i].to < 0
    · simp [e3, e9, hm, h, gi_nat h, g1, g2]
    by_cases g3 : (60 : Int) < stays[i].name.length
    · simp [e3, e9, hm, h, gi_nat h, g1, g2, g3]
    simp [e1, e2, e3, e4, l4, e9, hm, h, w1, gi_nat h, g1, g2, g3]
    refine ⟨stays.length - (i + 1), by omega, i + 1, rfl, by omega, rfl, fun k hk hlt => ?_⟩
    by_cases e : k = i
    · subst e; omega
    · exact hbef k hk (by omega)
  have hok : ∀ s ∈ stays, SOK s := fun s hs => by
    obtain ⟨k, hk, rfl⟩ := List.getElem_of_mem hs
    have := hbef k hk (by omega)
    have := hst _ hs
    unfold SOK; omega
  have hnm : ∀ b ∈ list, (b.name.length : Int) < 4611686018427387904 := fun b hb => by have := hf.2 b hb; omega
  have h25 := q25 list nn (by omega) []
  have h27 := q27 stays ns (by omega) []
  have h26 := q26 xs ys nx ny nn places list hsh.1 hsh.2 (by omega) hnm []
  have h29 := q29 xs ys nx ny true true places list stays hsh.1 hsh.2 (by omega) hnm (by omega) (fun s hs => (hok s hs).2.2) []
  by_cases hr : rdy xs ys places list = 0
  · obtain ⟨hg, hp1, hp2, hl128, hnames, hb, hnd⟩ := rdy_ok hr
    have h30 := q30 xs ys nx ny nn ns places list stays hg (fun b hbl => (hb b hbl).2.2) (by omega) hok []
    have hvp : validB xs ys places list stays = possB xs ys places list stays := by
      by_cases hv : ValidP xs ys places list stays
      · rw [validB_t hv, possB_t (valid_iff.1 hv).2]
      · rw [validB_f hv, possB_f fun hp => hv (valid_iff.2 ⟨hr, hp⟩)]
    rw [hr] at h26
    rw [hvp] at h29
    generalize possB xs ys places list stays = B at *
    simp [e1, e2, e3, e4, l4, e9, hm, h, q15, h25, h27, h26, h29, h30]
  · have hv := validB_f (stays := stays) (fun h : ValidP xs ys places list stays => hr h.1)
    rw [hv] at h29
    simp [e1, e2, e3, e4, l4, e9, hm, h, q15, h25, h27, h26, h29, hr]
end Go.Vm.Ch51
