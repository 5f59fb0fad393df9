/- Chapter 27: what its functions compute. -/
import Derived.Test.YtjlbiebejodecaaDoorC27a
namespace Go.Vm.Ch27
open _root_.Ch27 (T27 c14 c39 c41 c42 c44 c53 c68 c71 c16 c13)
set_option maxRecDepth 10000
set_option maxHeartbeats 4000000
structure Prt where
  name : List UInt8
  w : Int
  h : Int
  deriving DecidableEq, Inhabited
structure Plc where
  part : Int
  x : Int
  y : Int
  sh : Int
  deriving DecidableEq, Inhabited
def ep (p : Prt) : List AV := [.str p.name, AV.int IntKind.i64 p.w, AV.int IntKind.i64 p.h]
def el (p : Plc) : List AV := [AV.int IntKind.i64 p.part, AV.int IntKind.i64 p.x, AV.int IntKind.i64 p.y, AV.int IntKind.i64 p.sh]
@[simp] theorem ep_len (b : Prt) : (ep b).length = 3 := rfl
@[simp] theorem ep_view (b : Prt) : (ep b).map AV.view = ep b := rfl
@[simp] theorem ep_one (b : Prt) : (∀ x ∈ ep b, x.one = true) = True := by simp [ep]
@[simp] theorem ep_take (b : Prt) : (ep b).take 3 = ep b := rfl
@[simp] theorem ep0 (b : Prt) : (ep b)[0]? = some (.str b.name) := rfl
@[simp] theorem ep1 (b : Prt) : (ep b)[1]? = some (AV.int IntKind.i64 b.w) := rfl
@[simp] theorem ep2 (b : Prt) : (ep b)[2]? = some (AV.int IntKind.i64 b.h) := rfl
@[simp] theorem el_len (b : Plc) : (el b).length = 4 := rfl
@[simp] theorem el_view (b : Plc) : (el b).map AV.view = el b := rfl
@[simp] theorem el_one (b : Plc) : (∀ x ∈ el b, x.one = true) = True := by simp [el]
@[simp] theorem el_take (b : Plc) : (el b).take 4 = el b := rfl
@[simp] theorem el0 (b : Plc) : (el b)[0]? = some (AV.int IntKind.i64 b.part) := rfl
@[simp] theorem el1 (b : Plc) : (el b)[1]? = some (AV.int IntKind.i64 b.x) := rfl
@[simp] theorem el2 (b : Plc) : (el b)[2]? = some (AV.int IntKind.i64 b.y) := rfl
@[simp] theorem el3 (b : Plc) : (el b)[3]? = some (AV.int IntKind.i64 b.sh) := rfl
abbrev pv (nn : Bool) (P : List Prt) : AV := vv none nn (fun p => .agg (ep p)) P
abbrev lv (nn : Bool) (P : List Plc) : AV := vv none nn (fun p => .agg (el p)) P
abbrev iv (nn : Bool) (zs : List Int) : AV := vv none nn (AV.int .i64) zs
def sideB (n : Int) : Bool := decide (1 ≤ n ∧ n ≤ 1000000)
theorem q68 (n : Int) (m : Mem) : callL T27 68 [AV.int IntKind.i64 n] m = some (.bool (!sideB n), m) := by
  apply callL_body (vf := c68) rfl rfl
  unfold sideB
  by_cases h1 : n < 1
  · simp [c68, h1]
  · by_cases h2 : (1000000 : Int) < n
    · simp [c68, h1, h2]
    · simp [c68, h1, h2]; omega
theorem q44 (n : Int) (m : Mem) : callL T27 44 [AV.int IntKind.i64 n] m = some (.bool (sideB n), m) := by
  apply callL_body (vf := c44) rfl rfl
  unfold sideB
  by_cases h1 : 1 ≤ n
  · simp [c44, h1]
  · simp [c44, h1]
/-- slices.IndexFunc over whole numbers; the function may change memory. -/
theorem q71 (zs : List Int) (nn : Bool) (g : FuncId) (caps : List AV) (p : Nat → Bool) (M : Nat → Mem) (k : Nat) (hk : k ≤ zs.length) (hf : ∀ j, j < k → p j = false) (hkt : k < zs.length → p k = true)
    (hp : ∀ i (h : i < zs.length), i ≤ k → callL T27 g (AV.int IntKind.i64 zs[i] :: caps.map AV.view) (M i) = some (.bool (p i), M (i + 1))) (hlen : (zs.length : Int) < 4611686018427387904) :
    callL T27 71 [iv nn zs, .fn (.func g) caps] (M 0) = some (AV.int IntKind.i64 (if k < zs.length then (k : Int) else -1), M (if k < zs.length then k + 1 else k)) := by
  apply callL_body (vf := c71) rfl rfl
  simp [c71]
  refine wp_loop (fun w s => ∃ i : Nat, w = zs.length - i ∧ i ≤ k ∧ s.get 0 = iv nn zs ∧ s.get 1 = .fn (.func g) caps ∧ s.get 7 = AV.int IntKind.i64 zs.length ∧ s.get 8 = AV.int IntKind.i64 i ∧ s.mem = M i) ?_ zs.length _ ?_
  rotate_left
  · exact ⟨0, by simp⟩
  rintro w s ⟨i, hn, hi, e0, e1, e7, e8, hm⟩
  have w1 : IntKind.wrap .i64 ((i : Int) + 1) = (i : Int) + 1 := wrap64 (by omega) (by omega)
  by_cases h : i < zs.length
  · have hpi := hp i h hi
    by_cases hik : i = k
    · subst hik
      have ht := hkt h
      rw [ht] at hpi
      simp [e0, e1, e7, e8, hm, h, gi_nat h, hpi]
    · have hlt : i < k := by omega
      rw [hf i hlt] at hpi
      simp [e0, e1, e7, e8, hm, h, gi_nat h, hpi, w1]
      exact ⟨zs.length - (i + 1), by omega, i + 1, rfl, by omega, rfl, rfl⟩
  · have hik : i = k := by omega
    subst hik
    simp [e7, e8, hm, h]
theorem q53 (zs : List Int) (nn : Bool) (g : FuncId) (caps : List AV) (p : Nat → Bool) (M : Nat → Mem) (k : Nat) (hk : k ≤ zs.length) (hf : ∀ j, j < k → p j = false) (hkt : k < zs.length → p k = true)
    (hp : ∀ i (h : i < zs.length), i ≤ k → callL T27 g (AV.int IntKind.i64 zs[i] :: caps.map AV.view) (M i) = some (.bool (p i), M (i + 1))) (hlen : (zs.length : Int) < 4611686018427387904) :
    callL T27 53 [iv nn zs, .fn (.func g) caps] (M 0) = some (.bool (decide (k < zs.length)), M (if k < zs.length then k + 1 else k)) := by
  have h71 := q71 zs nn g caps p M k hk hf hkt hp hlen
  apply callL_body (vf := c53) rfl rfl
  by_cases h : k < zs.length
  · simp [h] at h71
    simp [c53, h71, h]
  · simp [h] at h71
    simp [c53, h71, h]
theorem q53p (zs : List Int) (nn : Bool) (g : FuncId) (caps : List AV) (p : Int → Bool) (m : Mem) (hp : ∀ z ∈ zs, callL T27 g (AV.int IntKind.i64 z :: caps.map AV.view) m = some (.bool (p z), m)) (hlen : (zs.length : Int) < 4611686018427387904) :
    callL T27 53 [iv nn zs, .fn (.func g) caps] m = some (.bool (zs.any p), m) := by
  have h := q53 zs nn g caps (fun i => p (zs.getD i 0)) (fun _ => m) (zs.findIdx p) List.findIdx_le_length (fun j hj => by
      have hl : j < zs.length := Nat.lt_of_lt_of_le hj List.findIdx_le_length
      have := List.not_of_lt_findIdx hj
      simp only [List.getD_eq_getElem?_getD, List.getElem?_eq_getElem hl, Option.getD_some]
      simpa using this) (fun hk => by
      simp only [List.getD_eq_getElem?_getD, List.getElem?_eq_getElem hk, Option.getD_some]
      exact List.findIdx_getElem) (fun i hi _ => by
      simp only [List.getD_eq_getElem?_getD, List.getElem?_eq_getElem hi, Option.getD_some]
      exact hp _ (List.getElem_mem hi)) hlen
  have e : decide (zs.findIdx p < zs.length) = zs.any p := by
    rw [Bool.eq_iff_iff, decide_eq_true_iff, List.any_eq_true, List.findIdx_lt_length]
  rw [e] at h
  exact h
theorem q42 (a b : Int) (m : Mem) : callL T27 42 [.vec none true [AV.int IntKind.i64 a, AV.int IntKind.i64 b]] m = some (.bool (sideB a && sideB b), m) := by
  have key := q53p [a, b] true 68 [] (fun n => !sideB n) [] (fun z _ => q68 z []) (by simp)
  apply callL_body (vf := c42) rfl rfl
  simp [vv] at key
  simp [c42, key]
def badP (p : Prt) : Bool := !(sideB p.w && sideB p.h)
theorem q39 (p : Prt) (hlen : (p.name.length : Int) < 4611686018427387904) (m : Mem) : callL T27 39 [.agg (ep p)] m = some (.bool (!nameOK p.name), m) := by
  apply callL_body (vf := c39) rfl rfl
  simp [c39, q40 p.name hlen]
theorem q41 (p : Prt) (m : Mem) : callL T27 41 [.agg (ep p)] m = some (.bool (badP p), m) := by
  apply callL_body (vf := c41) rfl rfl
  simp [c41, q42, badP]
theorem q38 (xs : List Prt) (nn : Bool) (g : FuncId) (caps : List AV) (p : Prt → Bool)
    (hp : ∀ z ∈ xs, callL T27 g (.agg (ep z) :: caps.map AV.view) [] = some (.bool (p z), [])) (hlen : (xs.length : Int) < 9223372036854775807) (m : Mem) :
    callL T27 38 [pv nn xs, .fn (.func g) caps] m = some (.bool (xs.any p), m) :=
  contains_vec (n := 3) (k := 64) rfl rfl ep (fun _ => rfl) xs nn g caps p hp hlen m
/-- The first error of parts and a sheet. -/
def chk (P : List Prt) (w h kf : Int) : Int :=
  if 64 < P.length then 7 else if P.any (fun p => !nameOK p.name) then 4 else if P.any badP || !(sideB w && sideB h) || decide (kf < 0 ∨ 1000 < kf) then 6 else 0
structure Sml (P : List Prt) : Prop where
  len : P.length ≤ 80
  nm : ∀ p ∈ P, p.name.length ≤ 60
theorem q14 (P : List Prt) (nn : Bool) (w h kf : Int) (hs : Sml P) (m : Mem) : callL T27 14 [pv nn P, AV.int IntKind.i64 w, AV.int IntKind.i64 h, AV.int IntKind.i64 kf] m = some (AV.int IntKind.i64 (chk P w h kf), m) := by
  have hl := hs.len
  have h1 := q38 P nn 39 [] (fun p => !nameOK p.name) (fun z hz => q39 z (by have := hs.nm z hz; omega) []) (by omega) []
  have h2 := q38 P nn 41 [] badP (fun z hz => q41 z []) (by omega) []
  have h3 := q42 w h []
  apply callL_body (vf := c14) rfl rfl
  unfold chk
  by_cases k1 : 64 < P.length
  · have k1' : (64 : Int) < P.length := by omega
    simp [c14, k1, k1']
  have k1' : ¬ (64 : Int) < P.length := by omega
  generalize P.any (fun p => !nameOK p.name) = A at *
  generalize P.any badP = B at *
  generalize (sideB w && sideB h) = S at *
  cases A
  rotate_left
  · simp [c14, k1, k1', h1]
  cases B
  rotate_left
  · simp [c14, k1, k1', h1, h2]
  cases S
  · simp [c14, k1, k1', h1, h2, h3]
  by_cases k2 : kf < 0
  · simp [c14, k1, k1', h1, h2, h3, k2]
  by_cases k3 : 1000 < kf
  · simp [c14, k1, k1', h1, h2, h3, k2, k3]
  simp [c14, k1, k1', h1, h2, h3, k2, k3]
end Go.Vm.Ch27
