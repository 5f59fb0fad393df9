/- Chapter 51: what its functions compute. -/
import Derived.Test.YtdodnhbegabbpaaC51x
namespace Go.Vm.Ch51
open _root_.Ch51 (T51 c9)
open Go.Vm.Stable
set_option maxRecDepth 10000
set_option maxHeartbeats 8000000
theorem endT_nonneg (L : List Sta) : 0 ≤ endT L := by
  have key : ∀ (L : List Sta) (z : Int), z ≤ L.foldl (fun n s => max n s.to) z := by
    intro L
    induction L with
    | nil => intro z; simp
    | cons b L ih => intro z; rw [List.foldl_cons]; have := ih (max z b.to); omega
  exact key L 0
theorem law9 (xs ys : List Int) (nx ny nn ns : Bool) (places : Int) (list : List Bat) (stays : List Sta) (hl : (list.length : Int) ≤ 9223372036854775807) (hs : (stays.length : Int) ≤ 9223372036854775807)
    (hst : ∀ s ∈ stays, s.frm ≤ 9223372036854775807 ∧ s.to ≤ 9223372036854775807) : ∃ g, callL T51 9 [rv nx ny xs ys, AV.int IntKind.i64 places, bv nn list, sv ns stays] [] = some (.bool true, g) := by
  obtain ⟨g, haw⟩ := awake
  have h23 := q23 list nn 30 hl []
  by_cases hsh : xs.length ≤ 20 ∧ ys.length ≤ 20
  rotate_left
  · refine ⟨g, callL_body (vf := c9) rfl rfl ?_⟩
    simp [c9, haw, q12, hsh]
  by_cases hf : (list.length ≤ (30 : Int) ∧ ∀ b ∈ list, b.name.length ≤ 60)
  rotate_left
  · have e : decide (list.length ≤ (30 : Int) ∧ ∀ b ∈ list, b.name.length ≤ 60) = false := by simpa using hf
    rw [e] at h23
    refine ⟨g, callL_body (vf := c9) rfl rfl ?_⟩
    simp [c9, haw, q12, hsh, h23]
  have e : decide (list.length ≤ (30 : Int) ∧ ∀ b ∈ list, b.name.length ≤ 60) = true := by simpa using hf
  rw [e] at h23
  by_cases h40 : (40 : Int) < stays.length
  · refine ⟨g, callL_body (vf := c9) rfl rfl ?_⟩
    simp [c9, haw, q12, hsh, h23, h40]
  have hnm : ∀ b ∈ list, (b.name.length : Int) < 4611686018427387904 := fun b hb => by have := hf.2 b hb; omega
  have h25 := q25 list nn (by omega) []
  have h27 := q27 stays ns (by omega) []
  -- an early question may end the call: the memory is then the first one
  by_cases hbad : ∃ s ∈ stays, s.frm < 0 ∨ s.to < 0 ∨ (60 : Int) < s.name.length
  · refine ⟨g, callL_body (vf := c9) rfl rfl ?_⟩
    simp [c9, haw, q12, hsh, h23, h40]
    refine wp_loop (fun w s => ∃ i : Nat, w = stays.length - i ∧ i ≤ stays.length ∧ s.get 3 = sv ns stays ∧ s.get 9 = AV.int IntKind.i64 (endT (stays.take i)) ∧ s.get 10 = AV.int IntKind.i64 i ∧ s.mem = g ∧ ∀ j (h : j < stays.length), j < i → ¬ (stays[j].frm < 0 ∨ stays[j].to < 0 ∨ (60 : Int) < stays[j].name.length)) ?_ stays.length _ ?_
    rotate_left
    · exact ⟨0, by simp [endT]⟩
    rintro w s ⟨i, hwl, hi, e3, e9, e10, hm, hbef⟩
    by_cases h : i < stays.length
    · by_cases g1 : stays[i].frm < 0
      · simp [e3, e10, hm, h, gi_nat h, g1]
      by_cases g2 : stays[i].to < 0
      · simp [e3, e10, hm, h, gi_nat h, g1, g2]
      by_cases g3 : (60 : Int) < stays[i].name.length
      · simp [e3, e10, hm, h, gi_nat h, g1, g2, g3]
      have w1 : W64 ((i : Int) + 1) ((i + 1 : Nat) : Int) := .mk' (by omega) (by omega) (by omega)
      simp [e3, e9, e10, hm, h, gi_nat h, g1, g2, g3, w1.eq, max_if, -Int.natCast_add]
      refine ⟨stays.length - (i + 1), by omega, i + 1, rfl, by omega, by rw [endT_take h], rfl, fun j hj hlt => ?_⟩
      by_cases e : j = i
      · subst e; omega
      · have := hbef j hj (by omega); omega
    · exfalso
      obtain ⟨s', hs', hb'⟩ := hbad
      obtain ⟨j, hj, rfl⟩ := List.getElem_of_mem hs'
      exact hbef j hj (by omega) hb'
  have hgood : ∀ j (h : j < stays.length), ¬ stays[j].frm < 0 ∧ ¬ stays[j].to < 0 ∧ ¬ (60 : Int) < stays[j].name.length := fun j h => by
    refine ⟨fun hh => hbad ⟨_, List.getElem_mem h, .inl hh⟩, fun hh => hbad ⟨_, List.getElem_mem h, .inr (.inl hh)⟩, fun hh => hbad ⟨_, List.getElem_mem h, .inr (.inr hh)⟩⟩
  have hto : ∀ s ∈ stays, 0 ≤ s.to ∧ s.to ≤ 9223372036854775807 := fun s hs => by
    obtain ⟨j, hj, rfl⟩ := List.getElem_of_mem hs
    have := hgood j hj
    have := hst _ hs
    omega
  have hloop : ∀ (s : St) (c : VC) (Q : VExit → St → Prop), s.get 1 = AV.int IntKind.i64 places → s.get 2 = bv nn list → s.get 3 = sv ns stays → s.get 4 = .ptr (.loc 4 0) 0 → s.loc 4 = [.cells false [iv nx xs, iv ny ys]] → s.get 9 = AV.int IntKind.i64 0 → s.get 10 = AV.int IntKind.i64 0 → s.mem = g →
      (∀ n s, (∃ i : Nat, n = stays.length - i ∧ i ≤ stays.length ∧ s.get 1 = AV.int IntKind.i64 places ∧ s.get 2 = bv nn list ∧ s.get 3 = sv ns stays ∧ s.get 4 = .ptr (.loc 4 0) 0 ∧ s.loc 4 = [.cells false [iv nx xs, iv ny ys]] ∧ s.get 9 = AV.int IntKind.i64 (endT (stays.take i)) ∧ s.get 10 = AV.int IntKind.i64 i ∧ s.mem = g) →
        wp T51 c s (roundK (fun s' => ∃ n', n' < n ∧ ∃ i : Nat, n' = stays.length - i ∧ i ≤ stays.length ∧ s'.get 1 = AV.int IntKind.i64 places ∧ s'.get 2 = bv nn list ∧ s'.get 3 = sv ns stays ∧ s'.get 4 = .ptr (.loc 4 0) 0 ∧ s'.loc 4 = [.cells false [iv nx xs, iv ny ys]] ∧ s'.get 9 = AV.int IntKind.i64 (endT (stays.take i)) ∧ s'.get 10 = AV.int IntKind.i64 i ∧ s'.mem = g) Q)) → wp T51 (.loop c) s Q := by
    intro s c Q h1 h2 h3 h4 h5 h6 h7 h8 hstep
    refine wp_loop (fun n s => ∃ i : Nat, n = stays.length - i ∧ i ≤ stays.length ∧ s.get 1 = AV.int IntKind.i64 places ∧ s.get 2 = bv nn list ∧ s.get 3 = sv ns stays ∧ s.get 4 = .ptr (.loc 4 0) 0 ∧ s.loc 4 = [.cells false [iv nx xs, iv ny ys]] ∧ s.get 9 = AV.int IntKind.i64 (endT (stays.take i)) ∧ s.get 10 = AV.int IntKind.i64 i ∧ s.mem = g) hstep stays.length s ?_
    exact ⟨0, by simp, by simp, h1, h2, h3, h4, h5, by simp [h6, endT], by simp [h7], h8⟩
  by_cases hr : rdy xs ys places list = 0
  rotate_left
  · have h31 := q31_err xs ys nx ny true places list hsh.1 hsh.2 (by omega) hnm hr g
    have h32 := q32_err xs ys nx ny true places list hsh.1 hsh.2 (by omega) hnm hr []
    generalize rdy xs ys places list = r at *
    refine ⟨g, callL_body (vf := c9) rfl rfl ?_⟩
    simp [c9, haw, q12, hsh, h23, h40]
    refine hloop _ _ _ (by simp) (by simp) (by simp) (by simp) (by simp) (by simp) (by simp) (by simp) ?_
    clear hloop
    rintro w s ⟨i, hwl, hi, e1, e2, e3, e4, l4, e9, e10, hm⟩
    by_cases h : i < stays.length
    · have w1 : W64 ((i : Int) + 1) ((i + 1 : Nat) : Int) := .mk' (by omega) (by omega) (by omega)
      obtain ⟨g1, g2, g3⟩ := hgood i h
      simp [e1, e2, e3, e4, l4, e9, e10, hm, h, gi_nat h, g1, g2, g3, w1.eq, max_if, -Int.natCast_add]
      exact ⟨stays.length - (i + 1), by omega, i + 1, rfl, by omega, by rw [endT_take h], rfl⟩
    · simp [e1, e2, e3, e4, l4, e10, hm, h, q15, h25, h32, h31, hr]
  obtain ⟨hg, hp1, hp2, hl128, -⟩ := rdy_ok hr
  obtain ⟨pl, rfl⟩ : ∃ pl : Nat, places = pl := ⟨places.toNat, by omega⟩
  have h31 := q31_ok xs ys nx ny pl list hsh.1 hsh.2 hnm (by omega) hr g
  have h32 := q32_ok xs ys nx ny true pl list hsh.1 hsh.2 hnm (by omega) hr []
  have h29 := q29 xs ys nx ny true true pl list stays hsh.1 hsh.2 (by omega) hnm (by omega) hto []
  have hb1 := bnd_le (rackS_valid hr) (endT_nonneg _)
  have hb2 : validB xs ys pl list stays = true → bnd (tm xs ys) pl list list ≤ endT stays := fun hv => by
    by_cases hv2 : ValidP xs ys pl list stays
    · exact bnd_le hv2 (endT_nonneg _)
    · rw [validB_f hv2] at hv; cases hv
  generalize endT (rackS xs ys pl list) = E at *
  generalize bnd (tm xs ys) pl list list = B at *
  generalize validB xs ys pl list stays = V at *
  refine ⟨rmem list g, callL_body (vf := c9) rfl rfl ?_⟩
  generalize rmem list g = M at *
  simp [c9, haw, q12, hsh, h23, h40]
  refine hloop _ _ _ (by simp) (by simp) (by simp) (by simp) (by simp) (by simp) (by simp) (by simp) ?_
  clear hloop
  rintro w s ⟨i, hwl, hi, e1, e2, e3, e4, l4, e9, e10, hm⟩
  by_cases h : i < stays.length
  · have w1 : W64 ((i : Int) + 1) ((i + 1 : Nat) : Int) := .mk' (by omega) (by omega) (by omega)
    obtain ⟨g1, g2, g3⟩ := hgood i h
    simp [e1, e2, e3, e4, l4, e9, e10, hm, h, gi_nat h, g1, g2, g3, w1.eq, max_if, -Int.natCast_add]
    exact ⟨stays.length - (i + 1), by omega, i + 1, rfl, by omega, by rw [endT_take h], rfl⟩
  · have hiL : i = stays.length := by omega
    rw [hiL, List.take_length] at e9
    cases V with
    | false => simp [e1, e2, e3, e4, l4, e10, hm, h, q15, h25, h27, h32, h31, h29, hb1]
    | true =>
      have hb3 := hb2 rfl
      simp [e1, e2, e3, e4, l4, e9, e10, hm, h, q15, h25, h27, h32, h31, h29, hb1, hb3]
end Go.Vm.Ch51
