/- Chapter 51: what its functions compute. -/
import Derived.Test.YtdodnhbegabbpaaC51i
namespace Go.Vm.Ch51
open _root_.Ch51 (T51 c26 c35 c41 c43 c46 c47 c45 c53 c48 c63 c62 c54 c56 c57)
set_option maxRecDepth 10000
set_option maxHeartbeats 4000000
theorem inner_iff (c : UInt8) : inner c = true ↔ ¬ (((c.toNat : Int) < 97 ∨ 122 < (c.toNat : Int)) ∧ ((c.toNat : Int) < 48 ∨ 57 < (c.toNat : Int)) ∧ ¬ (c.toNat : Int) = 95) := by
  unfold inner
  rw [decide_eq_true_iff]
  omega
theorem q62 (b : List UInt8) (hlen : (b.length : Int) < 4611686018427387904) (m : Mem) : callL T51 62 [.str b] m = some (.bool (nameOK b), m) := by
  apply callL_body (vf := c62) rfl rfl
  cases b with
  | nil => simp [c62, nameOK]
  | cons c r =>
    by_cases h1 : (24 : Int) < (r.length : Int) + 1
    · have h0 : ¬ (r.length : Int) + 1 < 1 := by omega
      simp [c62, nameOK, h1, h0]
      omega
    have h0 : ¬ (r.length : Int) + 1 < 1 := by omega
    have h2 : r.length + 1 ≤ 24 := by omega
    by_cases h3 : (c.toNat : Int) < 97
    · simp [c62, nameOK, h0, h1, h3]
      omega
    by_cases h4 : 122 < (c.toNat : Int)
    · simp [c62, nameOK, h0, h1, h3, h4]
      omega
    have h5 : 97 ≤ c.toNat ∧ c.toNat ≤ 122 := by omega
    have he : nameOK (c :: r) = (c :: r).all inner := by simp [nameOK, h2, h5]
    rw [he]
    simp [c62, h0, h1, h3, h4, -List.all_cons]
    generalize hb : c :: r = b at *
    have hbl : (r.length : Int) + 1 = b.length := by rw [← hb]; simp
    refine wp_loop (fun w s => ∃ i : Nat, w = b.length - i ∧ i ≤ b.length ∧ s.get 0 = .str b ∧ s.get 3 = AV.int IntKind.i64 i ∧ s.mem = m ∧ ∀ j (h : j < b.length), j < i → inner b[j] = true) ?_ b.length _ ?_
    rotate_left
    · exact ⟨0, by simp⟩
    rintro w s ⟨i, hn, hi, e0, e3, hm, hbef⟩
    clear h0 h1 h2 h3 h4 h5 he
    have w1 : IntKind.wrap .i64 ((i : Int) + 1) = (i : Int) + 1 := wrap64 (by omega) (by omega)
    by_cases h : i < b.length
    rotate_left
    · have : b.all inner = true := by
        rw [List.all_eq_true]
        intro x hx
        obtain ⟨j, hj, rfl⟩ := List.getElem_of_mem hx
        exact hbef j hj (by omega)
      simp [e0, e3, hm, h, this]
    by_cases hin : inner b[i] = true
    · have hnext : ∃ n', n' < w ∧ ∃ i_1, n' = b.length - i_1 ∧ i_1 ≤ b.length ∧ (i : Int) + 1 = (i_1 : Int) ∧ ∀ j (h : j < b.length), j < i_1 → inner b[j] = true := by
        refine ⟨b.length - (i + 1), by omega, i + 1, rfl, by omega, rfl, fun j hj hlt => ?_⟩
        by_cases e : j = i
        · subst e; exact hin
        · exact hbef j hj (by omega)
      rw [inner_iff] at hin
      by_cases g1 : (b[i].toNat : Int) < 97 <;> by_cases g2 : 122 < (b[i].toNat : Int) <;> by_cases g3 : (b[i].toNat : Int) < 48 <;> by_cases g4 : 57 < (b[i].toNat : Int) <;> by_cases g5 : (b[i].toNat : Int) = 95
      all_goals first | (exfalso; omega) | (simp [e0, e3, hm, h, g1, g2, g3, g4, g5, w1]; exact hnext)
    · have hall : b.all inner = false := by
        rw [List.all_eq_false]
        exact ⟨_, List.getElem_mem h, hin⟩
      rw [inner_iff] at hin
      by_cases g1 : (b[i].toNat : Int) < 97 <;> by_cases g2 : 122 < (b[i].toNat : Int) <;> by_cases g3 : (b[i].toNat : Int) < 48 <;> by_cases g4 : 57 < (b[i].toNat : Int) <;> by_cases g5 : (b[i].toNat : Int) = 95
      all_goals first | (exfalso; omega) | (simp [e0, e3, hm, h, g1, g2, g3, g4, g5, w1, hall])
theorem q54 (b : Bat) (hlen : (b.name.length : Int) < 4611686018427387904) (m : Mem) : callL T51 54 [.agg (eb b)] m = some (.bool (!nameOK b.name), m) := by
  apply callL_body (vf := c54) rfl rfl
  simp [c54, eb, q55 b.name hlen]
def badB (b : Bat) : Bool := decide (b.arr < 0 ∨ 1000000000 < b.arr ∨ ¬ (1 ≤ b.th ∧ b.th ≤ 1000000))
theorem q56 (b : Bat) (m : Mem) : callL T51 56 [.agg (eb b)] m = some (.bool (badB b), m) := by
  apply callL_body (vf := c56) rfl rfl
  by_cases h1 : b.arr < 0
  · simp [c56, eb, badB, h1]
  by_cases h2 : 1000000000 < b.arr
  · simp [c56, eb, badB, h1, h2]
  by_cases h3 : b.th ≤ 1000000
  · simp [c56, eb, badB, h1, h2, q35, h3]
    rw [Bool.eq_iff_iff]; simp
  · simp [c56, eb, badB, h1, h2, q35, h3]
theorem q57 (x b : Bat) (m : Mem) : callL T51 57 [.agg (eb x), .vptr (eb b) 0] m = some (.bool (x.name == b.name), m) := by
  apply callL_body (vf := c57) rfl rfl
  simp [c57, eb]
theorem q46 (x : Bat) (s : Sta) (m : Mem) : callL T51 46 [.agg (eb x), .vptr (es s) 0] m = some (.bool (x.name == s.name), m) := by
  apply callL_body (vf := c46) rfl rfl
  simp [c46, eb, es]
def clash (x s : Sta) : Bool := x.name == s.name || (decide (x.place = s.place) && decide (x.frm < s.to) && decide (s.frm < x.to))
theorem q47 (x s : Sta) (m : Mem) : callL T51 47 [.agg (es x), .vptr (es s) 0] m = some (.bool (clash x s), m) := by
  apply callL_body (vf := c47) rfl rfl
  by_cases h1 : x.name = s.name
  · simp [c47, es, clash, h1]
  by_cases h2 : x.place = s.place
  · by_cases h3 : x.frm < s.to
    · simp [c47, es, clash, h1, h2, h3]
    · simp [c47, es, clash, h1, h2, h3]
  · simp [c47, es, clash, h1, h2]
theorem q53 (xs : List Bat) (nn : Bool) (g : FuncId) (caps : List AV) (p : Bat → Bool)
    (hp : ∀ z ∈ xs, callL T51 g (.agg (eb z) :: caps.map AV.view) [] = some (.bool (p z), [])) (hlen : (xs.length : Int) < 9223372036854775807) (m : Mem) :
    callL T51 53 [bv nn xs, .fn (.func g) caps] m = some (.bool (xs.any p), m) :=
  contains_vec (n := 3) (k := 45) rfl rfl eb (fun _ => rfl) xs nn g caps p hp hlen m
theorem q45 (xs : List Bat) (nn : Bool) (g : FuncId) (caps : List AV) (p : Bat → Bool)
    (hp : ∀ z ∈ xs, callL T51 g (.agg (eb z) :: caps.map AV.view) [] = some (.bool (p z), [])) (hlen : (xs.length : Int) < 9223372036854775807) (m : Mem) :
    callL T51 45 [bv nn xs, .fn (.func g) caps] m = some (AV.int IntKind.i64 (fidx p xs), m) :=
  index_vec (n := 3) rfl eb (fun _ => rfl) xs nn g caps p hp hlen m
theorem q48 (xs : List Sta) (nn : Bool) (g : FuncId) (caps : List AV) (p : Sta → Bool)
    (hp : ∀ z ∈ xs, callL T51 g (.agg (es z) :: caps.map AV.view) [] = some (.bool (p z), [])) (hlen : (xs.length : Int) < 9223372036854775807) (m : Mem) :
    callL T51 48 [sv nn xs, .fn (.func g) caps] m = some (.bool (xs.any p), m) :=
  contains_vec (n := 4) (k := 63) rfl rfl es (fun _ => rfl) xs nn g caps p hp hlen m
end Go.Vm.Ch51
