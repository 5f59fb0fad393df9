/- Chapter 51: what its functions compute. -/
import Derived.Test.YtdodnhbegabbpaaC51u
namespace Go.Vm.Ch51
open _root_.Ch51 (T51 c10)
open Go.Vm.Stable
set_option maxRecDepth 10000
set_option maxHeartbeats 8000000
theorem rdy_more {xs ys : List Int} {p q : Int} {list : List Bat} (h : rdy xs ys p list = 0) (hpq : p ≤ q) (hq : q ≤ 1000) : rdy xs ys q list = 0 := by
  obtain ⟨hg, hp1, hp2, hl128, -⟩ := rdy_ok h
  unfold rdy at h ⊢
  split at h
  · rename_i hc
    rw [if_pos hc]
    unfold bat at h ⊢
    rw [if_neg (by omega)] at h ⊢
    exact h
  · rename_i hc; exact absurd h hc
theorem rdy_big {xs ys : List Int} {p q : Int} {list : List Bat} (h : rdy xs ys p list = 0) (hq : 1000 < q) : rdy xs ys q list = 6 := by
  unfold rdy at h ⊢
  split at h
  · rename_i hc
    rw [if_pos hc]
    unfold bat
    rw [if_pos (by omega)]
  · rename_i hc; exact absurd h hc
theorem law10 (xs ys : List Int) (nx ny nn : Bool) (places more : Int) (list : List Bat) (hl : (list.length : Int) ≤ 9223372036854775807) : ∃ g, callL T51 10 [rv nx ny xs ys, AV.int IntKind.i64 places, AV.int IntKind.i64 more, bv nn list] [] = some (.bool true, g) := by
  obtain ⟨g, haw⟩ := awake
  have h23 := q23 list nn 30 hl []
  by_cases hsh : xs.length ≤ 20 ∧ ys.length ≤ 20
  rotate_left
  · refine ⟨g, callL_body (vf := c10) rfl rfl ?_⟩
    simp [c10, haw, q12, hsh]
  by_cases hf : (list.length ≤ (30 : Int) ∧ ∀ b ∈ list, b.name.length ≤ 60)
  rotate_left
  · have e : decide (list.length ≤ (30 : Int) ∧ ∀ b ∈ list, b.name.length ≤ 60) = false := by simpa using hf
    rw [e] at h23
    refine ⟨g, callL_body (vf := c10) rfl rfl ?_⟩
    simp [c10, haw, q12, hsh, h23]
  have e : decide (list.length ≤ (30 : Int) ∧ ∀ b ∈ list, b.name.length ≤ 60) = true := by simpa using hf
  rw [e] at h23
  by_cases hm1 : more < 0
  · refine ⟨g, callL_body (vf := c10) rfl rfl ?_⟩
    simp [c10, haw, q12, hsh, h23, hm1]
  by_cases hm2 : 1000 < more
  · refine ⟨g, callL_body (vf := c10) rfl rfl ?_⟩
    simp [c10, haw, q12, hsh, h23, hm1, hm2]
  have hnm : ∀ b ∈ list, (b.name.length : Int) < 4611686018427387904 := fun b hb => by have := hf.2 b hb; omega
  have h25 := q25 list nn (by omega) []
  by_cases hr : rdy xs ys places list = 0
  rotate_left
  · have h24 := q24_err xs ys nx ny true places list hsh.1 hsh.2 (by omega) hnm hr g
    generalize rdy xs ys places list = r at *
    refine ⟨g, callL_body (vf := c10) rfl rfl ?_⟩
    simp [c10, haw, q12, hsh, h23, hm1, hm2, q15, h25, h24, hr]
  obtain ⟨hg, hp1, hp2, hl128, -⟩ := rdy_ok hr
  obtain ⟨pl, rfl⟩ : ∃ pl : Nat, places = pl := ⟨places.toNat, by omega⟩
  obtain ⟨mo, rfl⟩ : ∃ mo : Nat, more = mo := ⟨more.toNat, by omega⟩
  have h24 := q24_ok xs ys nx ny pl list hsh.1 hsh.2 hnm (by omega) hr g
  have w0 : W64 ((pl : Int) + mo) ((pl + mo : Nat) : Int) := .mk' (by omega) (by omega) (by omega)
  by_cases hbig : 1000 < pl + mo
  · have hr2 : rdy xs ys ((pl + mo : Nat) : Int) list = 6 := rdy_big hr (by omega)
    have h24b := q24_err xs ys nx ny true ((pl + mo : Nat) : Int) list hsh.1 hsh.2 (by omega) hnm (by rw [hr2]; decide) (rmem list g)
    rw [hr2] at h24b
    have hb2 : (1000 : Int) < ((pl + mo : Nat) : Int) := by omega
    generalize pl + mo = q at *
    refine ⟨rmem list g, callL_body (vf := c10) rfl rfl ?_⟩
    simp [c10, haw, q12, hsh, h23, hm1, hm2, q15, h25, h24, h24b, w0.eq, hb2]
  have hr2 : rdy xs ys ((pl + mo : Nat) : Int) list = 0 := rdy_more hr (by omega) (by omega)
  have h24b := q24_ok xs ys nx ny (pl + mo) list hsh.1 hsh.2 hnm (by omega) hr2 (rmem list g)
  have hmo := fun i h h' => rackS_more hg (p := pl) (q := pl + mo) (by omega) (by omega) list i h h'
  have hAl : (rackS xs ys pl list).length = list.length := rackS_len
  have hBl : (rackS xs ys (pl + mo) list).length = list.length := rackS_len
  generalize rackS xs ys pl list = A at *
  generalize rackS xs ys (pl + mo) list = B at *
  generalize decide (list ≠ []) = nz at *
  refine ⟨rmem list (rmem list g), callL_body (vf := c10) rfl rfl ?_⟩
  generalize rmem list (rmem list g) = M at *
  generalize pl + mo = q at *
  simp [c10, haw, q12, hsh, h23, hm1, hm2, q15, h25, h24, h24b, w0.eq, hAl, hBl]
  refine wp_loop (fun w s => ∃ i : Nat, w = A.length - i ∧ i ≤ A.length ∧ s.get 9 = sv nz A ∧ s.get 11 = sv nz B ∧ s.get 13 = AV.int IntKind.i64 i ∧ s.mem = M) ?_ A.length _ ?_
  rotate_left
  · exact ⟨0, by simp⟩
  rintro w s ⟨i, hwl, hi, e9, e11, e13, hm⟩
  by_cases h : i < A.length
  · have hB : i < B.length := by omega
    have w1 : W64 ((i : Int) + 1) ((i + 1 : Nat) : Int) := .mk' (by omega) (by omega) (by omega)
    obtain ⟨n1, n2⟩ := hmo i h hB
    have n3 : ¬ A[i].frm < B[i].frm := by omega
    simp [e9, e11, e13, hm, h, hB, gi_nat h, gi_nat hB, w1.eq, n1, n3, -Int.natCast_add]
    exact ⟨A.length - (i + 1), by omega, i + 1, rfl, by omega, rfl⟩
  · simp [e9, e13, hm, h]
end Go.Vm.Ch51
