/- Chapter 11: what its functions compute. -/
import Derived.Test.YtmlfcgmiaapffaaGreatDoorC11zo
import Derived.Test.YtmlfcgmiaapffaaGreatDoorC11wl
import Derived.Test.YtmlfcgmiaapffaaGreatDoorC11rz
namespace Go.Vm.Ch11
open _root_.Ch11 (T11 c43 c21 c133 c114 c84 c107)
set_option maxRecDepth 10000
set_option maxHeartbeats 16000000
def spT (p : Tk) : List UInt8 := spl p.k p.t p.n
theorem q43 (p : Tk) (hn : inI p.n) (ht : p.t.length ≤ 1000000) (m : Mem) : callL T11 43 [tv p] m = some (.tup [.str (if vT p then spT p else []), AV.int .i64 (if vT p then 0 else 2)], m) := by
  obtain ⟨k, t, n, a⟩ := p
  have h67 := q67 k t n a ht []
  have h68 := q68 n hn.1 hn.2 []
  apply callL_body (vf := c43) rfl rfl
  cases hv : vT ⟨k, t, n, a⟩ with
  | false =>
    have hv' : valP k t n = false := hv
    simp [c43, tv, et, h67, hv', objCells]
  | true =>
    have hv' : valP k t n = true := hv
    by_cases k2 : k = 2
    · subst k2
      simp [c43, tv, et, h67, hv', h68, objCells, spT, spl]
    · by_cases k3 : k = 3
      · subst k3
        simp only at ht
        simp [c43, tv, et, h67, hv', h68, objCells, spT, spl]
        omega
      · simp [c43, tv, et, h67, hv', h68, objCells, k2, k3, spT, spl]
theorem q21 (p : Tk) (hn : inI p.n) (ht : p.t.length ≤ 1000000) (m : Mem) : callL T11 21 [tv p] m = some (.tup [.str (if vT p then spT p else []), AV.int .i64 (if vT p then 0 else 2)], m) := by
  obtain ⟨k, t, n, a⟩ := p
  have h44 := q44 k t n a hn []
  have h45 := q45 k t n a hn ht []
  apply callL_body (vf := c21) rfl rfl
  cases hv : vT ⟨k, t, n, a⟩ with
  | false =>
    have hv' : valP k t n = false := hv
    simp [c21, tv, et, h44, hv', objCells]
  | true =>
    have hv' : valP k t n = true := hv
    simp [c21, tv, et, h44, h45, hv', objCells, spT]
theorem vT_tkOK {p : Tk} (h : vT p = true) : tkOK p = true := by
  obtain ⟨k, x, n, a⟩ := p
  simp only [vT, valP] at h
  simp only [tkOK, Bool.and_eq_true, decide_eq_true_eq]
  split at h
  · simp only [Bool.and_eq_true, decide_eq_true_eq] at h
    obtain ⟨h1, -, h3, -⟩ := h
    omega
  split at h
  · simp only [Bool.and_eq_true, decide_eq_true_eq] at h
    obtain ⟨h1, h2, h3⟩ := h
    subst h1
    simp only [List.length_nil]; omega
  split at h
  · simp only [Bool.and_eq_true, decide_eq_true_eq, labelOK] at h
    obtain ⟨h1, ⟨⟨h2, -⟩, -⟩, -⟩ := h
    omega
  split at h
  · simp only [Bool.and_eq_true, decide_eq_true_eq] at h
    obtain ⟨h1, h2, -⟩ := h
    omega
  · cases h
def isS (p : Tk) (c : UInt8) : Bool := decide (p.k = 4) && decide (p.t = [c])
theorem q84 (p : Tk) (c : UInt8) (m : Mem) : callL T11 84 [tv p, .str [c]] m = some (.bool (isS p c), m) := by
  obtain ⟨k, t, n, a⟩ := p
  apply callL_body (vf := c84) rfl rfl
  by_cases hk : k = 4
  · simp [c84, tv, et, objCells, isS, hk]
    rw [Bool.eq_iff_iff]; simp
  · simp [c84, tv, et, objCells, isS, hk]
theorem q107a (s : List UInt8) (c : UInt8) (m : Mem) : callL T11 107 [.str s, .str [c]] m = some (AV.int .i64 (idxI c s), m) := by
  have h := q127 s c []
  apply callL_body (vf := c107) rfl rfl
  simp [c107, h]
theorem q133 (s : List UInt8) (c : UInt8) (m : Mem) : callL T11 133 [.str s, .str [c]] m = some (.bool (decide (0 ≤ idxI c s)), m) := by
  have h := q107a s c []
  apply callL_body (vf := c133) rfl rfl
  simp [c133, h]
theorem q114 (p : Tk) (s : List UInt8) (m : Mem) : callL T11 114 [tv p, .str s] m = some (.bool (decide (p.k = 4) && match p.t with | [c] => decide (0 ≤ idxI c s) | _ => false), m) := by
  obtain ⟨k, t, n, a⟩ := p
  apply callL_body (vf := c114) rfl rfl
  by_cases hk : k = 4
  rotate_left
  · simp [c114, tv, et, objCells, hk]
  match t with
  | [] => simp [c114, tv, et, objCells, hk]
  | [c] =>
    have h := q133 s c []
    simp [c114, tv, et, objCells, hk, h]
  | c :: d :: t =>
    have h1 : ¬ (t.length : Int) + 1 + 1 = 1 := by omega
    simp [c114, tv, et, objCells, hk, h1]
theorem isS2 (p : Tk) : (decide (p.k = 4) && match p.t with | [c] => decide (0 ≤ idxI c [41, 44]) | _ => false) = (isS p 41 || isS p 44) := by
  obtain ⟨k, t, n, a⟩ := p
  match t with
  | [] => simp [isS]
  | [c] =>
    have key : ∀ c : Fin 256, decide (0 ≤ idxI (UInt8.ofNat c.val) [41, 44]) = (decide (UInt8.ofNat c.val = 41) || decide (UInt8.ofNat c.val = 44)) := by decide +kernel
    have := key ⟨c.toNat, c.toNat_lt⟩
    simp only [UInt8.ofNat_toNat] at this
    simp only [isS, this, List.cons.injEq, and_true]
    cases decide (k = 4) <;> simp
  | c :: d :: t => simp [isS]
theorem isS1 (p : Tk) : (decide (p.k = 4) && match p.t with | [c] => decide (0 ≤ idxI c [40]) | _ => false) = isS p 40 := by
  obtain ⟨k, t, n, a⟩ := p
  match t with
  | [] => simp [isS]
  | [c] =>
    have key : ∀ c : Fin 256, decide (0 ≤ idxI (UInt8.ofNat c.val) [40]) = decide (UInt8.ofNat c.val = 40) := by decide +kernel
    have := key ⟨c.toNat, c.toNat_lt⟩
    simp only [UInt8.ofNat_toNat] at this
    simp only [isS, this, List.cons.injEq, and_true]
  | c :: d :: t => simp [isS]
def ind (d : Nat) : List UInt8 := List.replicate (2 * d) 32
theorem q113 : ∀ (d : Nat), d ≤ 7 → callL T11 113 [.str [32, 32], AV.int .i64 d] [] = some (.str (ind d), [])
  | 0, _ => by
    have h : callN T11 60 113 [.str [32, 32], AV.int .i64 (0 : Nat)] [] = some (.str (ind 0), []) := by kernel_rfl
    exact callL_of h
  | 1, _ => by
    have h : callN T11 60 113 [.str [32, 32], AV.int .i64 (1 : Nat)] [] = some (.str (ind 1), []) := by kernel_rfl
    exact callL_of h
  | 2, _ => by
    have h : callN T11 60 113 [.str [32, 32], AV.int .i64 (2 : Nat)] [] = some (.str (ind 2), []) := by kernel_rfl
    exact callL_of h
  | 3, _ => by
    have h : callN T11 60 113 [.str [32, 32], AV.int .i64 (3 : Nat)] [] = some (.str (ind 3), []) := by kernel_rfl
    exact callL_of h
  | 4, _ => by
    have h : callN T11 60 113 [.str [32, 32], AV.int .i64 (4 : Nat)] [] = some (.str (ind 4), []) := by kernel_rfl
    exact callL_of h
  | 5, _ => by
    have h : callN T11 60 113 [.str [32, 32], AV.int .i64 (5 : Nat)] [] = some (.str (ind 5), []) := by kernel_rfl
    exact callL_of h
  | 6, _ => by
    have h : callN T11 60 113 [.str [32, 32], AV.int .i64 (6 : Nat)] [] = some (.str (ind 6), []) := by kernel_rfl
    exact callL_of h
  | 7, _ => by
    have h : callN T11 60 113 [.str [32, 32], AV.int .i64 (7 : Nat)] [] = some (.str (ind 7), []) := by kernel_rfl
    exact callL_of h
  | d + 8, h => absurd h (by omega)
end Go.Vm.Ch11
