/- Chapter 51: what its functions compute. -/
import Derived.Test.YtdodnhbegabbpaaC51u
namespace Go.Vm.Ch51
open _root_.Ch51 (T51 c8)
open Go.Vm.Stable
set_option maxRecDepth 10000
set_option maxHeartbeats 8000000
theorem law8 (xs ys : List Int) (nx ny nn : Bool) (places : Int) (list : List Bat) (hl : (list.length : Int) ≤ 9223372036854775807) : ∃ g, callL T51 8 [rv nx ny xs ys, AV.int IntKind.i64 places, bv nn list] [] = some (.bool true, g) := by
  obtain ⟨g, haw⟩ := awake
  have h23 := q23 list nn 30 hl []
  by_cases hsh : xs.length ≤ 20 ∧ ys.length ≤ 20
  rotate_left
  · refine ⟨g, callL_body (vf := c8) rfl rfl ?_⟩
    simp [c8, haw, q12, hsh]
  by_cases hf : (list.length ≤ (30 : Int) ∧ ∀ b ∈ list, b.name.length ≤ 60)
  rotate_left
  · have e : decide (list.length ≤ (30 : Int) ∧ ∀ b ∈ list, b.name.length ≤ 60) = false := by simpa using hf
    rw [e] at h23
    refine ⟨g, callL_body (vf := c8) rfl rfl ?_⟩
    simp [c8, haw, q12, hsh, h23]
  have e : decide (list.length ≤ (30 : Int) ∧ ∀ b ∈ list, b.name.length ≤ 60) = true := by simpa using hf
  rw [e] at h23
  have hnm : ∀ b ∈ list, (b.name.length : Int) < 4611686018427387904 := fun b hb => by have := hf.2 b hb; omega
  have h25 := q25 list nn (by omega) []
  by_cases hr : rdy xs ys places list = 0
  rotate_left
  · have h31 := q31_err xs ys nx ny true places list hsh.1 hsh.2 (by omega) hnm hr g
    have h24 := q24_err xs ys nx ny true places list hsh.1 hsh.2 (by omega) hnm hr g
    generalize rdy xs ys places list = r at *
    refine ⟨g, callL_body (vf := c8) rfl rfl ?_⟩
    simp [c8, haw, q12, hsh, h23, q15, h25, h31, h24, hr]
  obtain ⟨hg, hp1, hp2, hl128, -⟩ := rdy_ok hr
  obtain ⟨pl, rfl⟩ : ∃ pl : Nat, places = pl := ⟨places.toNat, by omega⟩
  have hb := rdy_bok hr
  have h24 := q24_ok xs ys nx ny pl list hsh.1 hsh.2 hnm (by omega) hr g
  have h31 := q31_ok xs ys nx ny pl list hsh.1 hsh.2 hnm (by omega) hr (rmem list g)
  have hmem := rackS_mem hr
  have h29 := q29 xs ys nx ny true (decide (list ≠ [])) pl list (rackS xs ys pl list) hsh.1 hsh.2 (by omega) hnm (by rw [rackS_len]; omega) (fun s hs => by have := hmem s hs; omega) []
  rw [validB_t (rackS_valid hr)] at h29
  have hLl : (rackS xs ys pl list).length = list.length := rackS_len
  generalize rackS xs ys pl list = L at *
  generalize decide (list ≠ []) = nz at *
  refine ⟨rmem list (rmem list g), callL_body (vf := c8) rfl rfl ?_⟩
  generalize rmem list (rmem list g) = M at *
  simp [c8, haw, q12, hsh, h23, q15, h25, h31, h24]
  refine wp_loop (fun w s => ∃ i : Nat, w = L.length - i ∧ i ≤ L.length ∧ s.get 1 = AV.int IntKind.i64 pl ∧ s.get 2 = bv nn list ∧ s.get 3 = .ptr (.loc 3 0) 0 ∧ s.loc 3 = [.cells false [iv nx xs, iv ny ys]] ∧ s.get 7 = sv nz L ∧ s.get 9 = AV.int IntKind.i64 (endT L) ∧ s.get 11 = AV.int IntKind.i64 (endT (L.take i)) ∧ s.get 12 = AV.int IntKind.i64 i ∧ s.mem = M) ?_ L.length _ ?_
  rotate_left
  · exact ⟨0, by simp [endT]⟩
  rintro w s ⟨i, hwl, hi, e1, e2, e3, l3, e7, e9, e11, e12, hm⟩
  by_cases h : i < L.length
  · have w1 : W64 ((i : Int) + 1) ((i + 1 : Nat) : Int) := .mk' (by omega) (by omega) (by omega)
    simp [e1, e2, e3, l3, e7, e9, e11, e12, hm, h, gi_nat h, w1.eq, max_if, -Int.natCast_add]
    exact ⟨L.length - (i + 1), by omega, i + 1, rfl, by omega, by rw [endT_take h], rfl⟩
  · have hiL : i = L.length := by omega
    rw [hiL, List.take_length] at e11
    have h' : ¬ i < list.length := by omega
    simp [e1, e2, e3, l3, e7, e9, e11, e12, hm, h', hLl, q15, h25, h29]
end Go.Vm.Ch51
