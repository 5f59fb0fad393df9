/- Chapter 10: what its functions compute. -/
import Derived.Test.YtmncbcgcahfdcaaGreatDoorL10
import Derived.Test.YtmncbcgcahfdcaaGreatDoorVJ
import Derived.KernelRfl
namespace Go.Vm.Ch10
open _root_.Ch10 (T10 c76 c71 c82 c40 c94 c69 c80 c77 c91 c68 c79 c88)
set_option maxRecDepth 10000
set_option maxHeartbeats 4000000
def cls (i : Nat) : Int := if (97 ≤ i ∧ i ≤ 122) ∨ (65 ≤ i ∧ i ≤ 90) then 1 else if 48 ≤ i ∧ i ≤ 57 then 2 else if i = 95 then 3 else if i ∈ [40, 41, 44, 61, 58, 60, 62, 43, 47] then 4 else 0
def tbl : List AV := (List.range 256).map fun i => AV.int .u8 (cls i)
theorem tbl_get (i : Nat) (h : i < 256) : tbl[i]? = some (.int .u8 (cls i)) := by
  simp [tbl, h]
theorem q88 : callL T10 88 [] [] = some (.agg tbl, []) := by
  have h : callN T10 60 88 [] [] = some (.agg tbl, []) := by kernel_rfl
  exact callL_of h
def inner (c : UInt8) : Bool := decide ((97 ≤ c.toNat ∧ c.toNat ≤ 122) ∨ (48 ≤ c.toNat ∧ c.toNat ≤ 57) ∨ c.toNat = 95)
theorem tbl_len : tbl.length = 256 := by simp [tbl]
theorem tbl_one : tbl.all AV.one = true := by simp [tbl]
theorem tbl_view : tbl.map AV.view = tbl := by simp [tbl]
theorem q68 : callL T10 68 [] [] = some (.agg tbl, []) := by
  apply callL_body (vf := c68) rfl rfl
  simp [c68, q88, -List.all_eq_true, tbl_len, tbl_one, tbl_view, stCells_agg]
  rw [← tbl_len]; exact List.take_length
theorem q69 (c : Nat) (hc : c < 256) : callL T10 69 [.int .u8 c] [] = some (.bool (decide (cls c = 1 ∨ cls c = 2 ∨ cls c = 3)), []) := by
  apply callL_body (vf := c69) rfl rfl
  have hc2 : (c : Int) < 256 := by omega
  simp [c69, q68, hc2, tbl_get c hc]
  by_cases h1 : cls c = 1 <;> by_cases h2 : cls c = 2 <;> by_cases h3 : cls c = 3 <;> simp [h1, h2, h3]
theorem q94 (c : UInt8) : callL T10 94 [.int .u8 c.toNat] [] = some (.bool (inner c), []) := by
  have hc : c.toNat < 256 := c.toNat_lt
  apply callL_body (vf := c94) rfl rfl
  have e : inner c = (decide (cls c.toNat = 1 ∨ cls c.toNat = 2 ∨ cls c.toNat = 3) && decide ((c.toNat : Int) < 65 ∨ 90 < (c.toNat : Int))) := by
    have key : ∀ n : Fin 256, decide ((97 ≤ n.val ∧ n.val ≤ 122) ∨ (48 ≤ n.val ∧ n.val ≤ 57) ∨ n.val = 95) = (decide (cls n.val = 1 ∨ cls n.val = 2 ∨ cls n.val = 3) && decide ((n.val : Int) < 65 ∨ 90 < (n.val : Int))) := by decide +kernel
    exact key ⟨c.toNat, hc⟩
  rw [e]
  have h30 := q69 c.toNat hc
  generalize decide (cls c.toNat = 1 ∨ cls c.toNat = 2 ∨ cls c.toNat = 3) = B at *
  cases B
  · simp [c94, h30]
  · by_cases h1 : (c.toNat : Int) < 65
    · simp [c94, h30, h1]
    · by_cases h2 : 90 < (c.toNat : Int) <;> simp [c94, h30, h1, h2]
theorem q40 (b : List UInt8) (g : FuncId) (p : UInt8 → Bool) (hp : ∀ c ∈ b, callL T10 g [.int .u8 c.toNat] [] = some (.bool (p c), [])) (hlen : (b.length : Int) < 4611686018427387904) (m : Mem) :
    callL T10 40 [.str b, .fn (.func g) []] m = some (AV.int IntKind.i64 ((b.takeWhile p).length : Nat), m) := by
  apply callL_body (vf := c40) rfl rfl
  simp [c40]
  refine wp_loop (fun w s => ∃ i : Nat, w = b.length - i ∧ i ≤ b.length ∧ s.get 0 = .str b ∧ s.get 1 = .fn (.func g) [] ∧ s.get 5 = AV.int IntKind.i64 i ∧ s.mem = m ∧ (b.takeWhile p).length = i + ((b.drop i).takeWhile p).length) ?_ b.length _ ?_
  rotate_left
  · exact ⟨0, by simp⟩
  rintro w s ⟨i, hn, hi, h0, h1, h5, hm, hbef⟩
  have w1 : IntKind.wrap .i64 ((i : Int) + 1) = (i : Int) + 1 := wrap64 (by omega) (by omega)
  by_cases h : i < b.length
  · have hd : b.drop i = b[i] :: b.drop (i + 1) := by simp
    rw [hd] at hbef
    have hpi := hp _ (List.getElem_mem h)
    by_cases hb : p b[i] = true
    · simp only [hb] at hpi
      simp only [List.takeWhile_cons, hb, if_true, List.length_cons] at hbef
      simp [h0, h1, h5, hm, w1, h, hpi]
      exact ⟨b.length - (i + 1), by omega, i + 1, rfl, by omega, by omega, by omega⟩
    · have hb' : p b[i] = false := by simpa using hb
      simp only [hb'] at hpi
      rw [List.takeWhile_cons, if_neg hb] at hbef
      simp only [List.length_nil, Nat.add_zero] at hbef
      simp [h0, h1, h5, hm, w1, h, hpi, hbef]
  · have he : i = b.length := by omega
    subst he
    simp at hbef
    simp [h0, h1, h5, hm, hbef]
def nameOK (b : List UInt8) : Bool := match b with
  | [] => false
  | c :: _ => decide (b.length ≤ 24 ∧ 97 ≤ c.toNat ∧ c.toNat ≤ 122) && b.all inner
theorem tw_all {α : Type} (p : α → Bool) (b : List α) : (b.takeWhile p).length = b.length ↔ b.all p = true := by
  induction b with
  | nil => simp
  | cons c r ih =>
    cases h : p c
    · simp [h]
    · simp [h, ih]
theorem q76 (b : List UInt8) (hlen : (b.length : Int) < 4611686018427387904) (m : Mem) : callL T10 76 [.str b] m = some (.bool (nameOK b), m) := by
  apply callL_body (vf := c76) rfl rfl
  have h23 := q40 b 94 inner (fun c _ => q94 c) hlen
  have hall := tw_all inner b
  cases b with
  | nil => simp [c76, nameOK]
  | cons c r =>
    have e : ((((c :: r).takeWhile inner).length : Int) == (((c :: r).length : Nat) : Int)) = (c :: r).all inner := by
      rw [Bool.eq_iff_iff, ← hall]; simp; omega
    generalize ((c :: r).takeWhile inner).length = L at *
    clear hall
    have hc : c.toNat < 256 := c.toNat_lt
    by_cases h1 : 24 < (c :: r).length
    · have h1' : (24 : Int) < (r.length : Int) + 1 := by simp at h1; omega
      have h2 : ¬ (c :: r).length ≤ 24 := by omega
      simp [c76, nameOK, h1']
      simp at h2; omega
    · have h1' : ¬ (24 : Int) < (r.length : Int) + 1 := by simp at h1; omega
      have h2 : r.length + 1 ≤ 24 := by simp at h1; omega
      by_cases h3 : (c.toNat : Int) < 97
      · simp [c76, nameOK, h1', h3]
        omega
      · by_cases h4 : 122 < (c.toNat : Int)
        · simp [c76, nameOK, h1', h3, h4]
          omega
        · simp at e h23
          simp [c76, nameOK, h1', h3, h4, h23, h2, e]
          omega
end Go.Vm.Ch10
