/- Chapter 11: what its functions compute. -/
import Derived.Test.YtmlfcgmiaapffaaGreatDoorL11
import Derived.Test.YtmlfcgmiaapffaaGreatDoorVJ
import Derived.KernelRfl
namespace Go.Vm.Ch11
open _root_.Ch11 (T11 c96 c103 c80 c95 c101 c98 c117 c94 c100 c116)
set_option maxRecDepth 10000
set_option maxHeartbeats 4000000
def cls (i : Nat) : Int := if (97 ≤ i ∧ i ≤ 122) ∨ (65 ≤ i ∧ i ≤ 90) then 1 else if 48 ≤ i ∧ i ≤ 57 then 2 else if i = 95 then 3 else if i ∈ [40, 41, 44, 61, 58, 60, 62, 43, 47] then 4 else 0
def tbl : List AV := (List.range 256).map fun i => AV.int .u8 (cls i)
theorem tbl_get (i : Nat) (h : i < 256) : tbl[i]? = some (.int .u8 (cls i)) := by
  simp [tbl, h]
theorem q116 : callL T11 116 [] [] = some (.agg tbl, []) := by
  have h : callN T11 60 116 [] [] = some (.agg tbl, []) := by kernel_rfl
  exact callL_of h
def inner (c : UInt8) : Bool := decide ((97 ≤ c.toNat ∧ c.toNat ≤ 122) ∨ (48 ≤ c.toNat ∧ c.toNat ≤ 57) ∨ c.toNat = 95)
theorem tbl_len : tbl.length = 256 := by simp [tbl]
theorem tbl_one : tbl.all AV.one = true := by simp [tbl]
theorem tbl_view : tbl.map AV.view = tbl := by simp [tbl]
theorem q94 : callL T11 94 [] [] = some (.agg tbl, []) := by
  apply callL_body (vf := c94) rfl rfl
  simp [c94, q116, -List.all_eq_true, tbl_len, tbl_one, tbl_view, stCells_agg]
  rw [← tbl_len]; exact List.take_length
theorem q95 (c : Nat) (hc : c < 256) : callL T11 95 [.int .u8 c] [] = some (.bool (decide (cls c = 1 ∨ cls c = 2 ∨ cls c = 3)), []) := by
  apply callL_body (vf := c95) rfl rfl
  have hc2 : (c : Int) < 256 := by omega
  simp [c95, q94, hc2, tbl_get c hc]
  by_cases h1 : cls c = 1 <;> by_cases h2 : cls c = 2 <;> by_cases h3 : cls c = 3 <;> simp [h1, h2, h3]
theorem q80 (b : List UInt8) (g : FuncId) (p : UInt8 → Bool) (hp : ∀ c ∈ b, callL T11 g [.int .u8 c.toNat] [] = some (.bool (p c), [])) (hlen : (b.length : Int) < 4611686018427387904) (m : Mem) :
    callL T11 80 [.str b, .fn (.func g) []] m = some (AV.int IntKind.i64 ((b.takeWhile p).length : Nat), m) := by
  apply callL_body (vf := c80) rfl rfl
  simp [c80]
  refine wp_loop (fun w s => ∃ i : Nat, w = b.length - i ∧ i ≤ b.length ∧ s.get 0 = .str b ∧ s.get 1 = .fn (.func g) [] ∧ s.get 5 = AV.int IntKind.i64 i ∧ s.mem = m ∧ (b.takeWhile p).length = i + ((b.drop i).takeWhile p).length) ?_ b.length _ ?_
  rotate_left
  · exact ⟨0, by simp⟩
  rintro w s ⟨i, hn, hi, h0, h1, h5, hm, hbef⟩
  have w1 : IntKind.wrap .i64 ((i : Int) + 1) = (i : Int) + 1 := wrap64 (by omega) (by omega)
  by_cases h : i < b.length
  · have hd : b.drop i = b[i] :: b.drop (i + 1) := by simp
    rw [hd] at hbef
    have hpi := hp _ (List.getElem_mem h)
    by_cases hb : p b[i] = true
    · simp only [hb] at hpi
      simp only [List.takeWhile_cons, hb, if_true, List.length_cons] at hbef
      simp [h0, h1, h5, hm, w1, h, hpi]
      exact ⟨b.length - (i + 1), by omega, i + 1, rfl, by omega, by omega, by omega⟩
    · have hb' : p b[i] = false := by simpa using hb
      simp only [hb'] at hpi
      rw [List.takeWhile_cons, if_neg hb] at hbef
      simp only [List.length_nil, Nat.add_zero] at hbef
      simp [h0, h1, h5, hm, w1, h, hpi, hbef]
  · have he : i = b.length := by omega
    subst he
    simp at hbef
    simp [h0, h1, h5, hm, hbef]
def nameOK (b : List UInt8) : Bool := match b with
  | [] => false
  | c :: _ => decide (b.length ≤ 24 ∧ 97 ≤ c.toNat ∧ c.toNat ≤ 122) && b.all inner
theorem tw_all {α : Type} (p : α → Bool) (b : List α) : (b.takeWhile p).length = b.length ↔ b.all p = true := by
  induction b with
  | nil => simp
  | cons c r ih =>
    cases h : p c
    · simp [h]
    · simp [h, ih]
end Go.Vm.Ch11
