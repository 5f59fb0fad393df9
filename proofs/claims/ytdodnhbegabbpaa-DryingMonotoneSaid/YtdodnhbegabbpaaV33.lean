/- Vectors of known elements. -/
import Derived.Test.YtdodnhbegabbpaaV32
namespace Go.Vm

/-- A vector whose elements are shown by e. -/
def vv {α : Type} (o : Option Nat) (nn : Bool) (e : α → AV) (xs : List α) : AV := .vec o nn (xs.map e)

/-- An element by a whole number. -/
def gi {α : Type} [Inhabited α] (xs : List α) (i : Int) : α := xs.getD i.toNat default

section
variable {α : Type} {e : α → AV} {xs : List α} {o : Option Nat} {nn : Bool}

@[simp] theorem vv_view : (vv o nn e xs).view = vv none nn e xs := rfl
@[simp] theorem vv_cells : (vv o nn e xs).cells = [vv o nn e xs] := rfl
@[simp] theorem vv_nl : (vv o nn e xs).nl = true := rfl
@[simp] theorem vv_good : (vv o nn e xs).good = true := rfl
@[simp] theorem vv_one : (vv o nn e xs).one = true := rfl
@[simp] theorem vv_len : lenSlV (vv o nn e xs) = some (.int .i64 xs.length) := by simp [vv]
@[simp] theorem vv_take_none (s : St) (t : Nat) : takeV s t (vv none nn e xs) = (vv none nn e xs, s) := rfl
@[simp] theorem vv_take_some (s : St) (t z : Nat) : takeV s t (vv (some z) nn e xs) = (vv (some z) nn e xs, s.set t (vv none nn e xs)) := rfl
@[simp] theorem vv_nil : isNil? 0 (vv o nn e xs) = some !nn := rfl

theorem gi_get [Inhabited α] {i : Int} (h0 : 0 ≤ i) (h : i < xs.length) : xs[i.toNat]? = some (gi xs i) := by
  have : i.toNat < xs.length := by omega
  simp [gi, List.getD, this]

theorem gi_nat [Inhabited α] {i : Nat} (h : i < xs.length) : gi xs (i : Int) = xs[i] := by
  simp [gi, List.getD, h]

theorem gi_mem [Inhabited α] {i : Int} (h0 : 0 ≤ i) (h : i < xs.length) : gi xs i ∈ xs := by
  have : i.toNat < xs.length := by omega
  simp [gi, List.getD, this]

@[simp] theorem vv_iaddr [Inhabited α] {esz : Nat} {k : IntKind} {i : Int} : iaddrSlV esz (vv o nn e xs) (.int k i) = if 0 ≤ i ∧ i < xs.length then elV esz (some (e (gi xs i))) else none := by
  simp only [vv, iaddrSlV, List.getElem?_map]
  by_cases h0 : 0 ≤ i
  · by_cases h : i < xs.length
    · simp only [h0, h, if_true, true_and, gi_get h0 h, Option.map_some]
    · have : xs.length ≤ i.toNat := by omega
      simp only [h0, h, if_true, and_false, if_false, List.getElem?_eq_none this, Option.map_none]
      rfl
  · simp only [h0, if_false, false_and]

end

theorem wrap64 {n : Int} (h1 : -9223372036854775808 ≤ n) (h2 : n ≤ 9223372036854775807) : IntKind.wrap .i64 n = n := by
  have e1 : IntKind.wrap .i64 n = if n % 18446744073709551616 ≥ 9223372036854775808 then n % 18446744073709551616 - 18446744073709551616 else n % 18446744073709551616 := by
    simp [IntKind.wrap, IntKind.bits, IntKind.signed]
  rw [e1]
  split <;> omega

theorem wrapU64 {n : Int} (h1 : 0 ≤ n) (h2 : n < 18446744073709551616) : IntKind.wrap .u64 n = n := by
  have e1 : IntKind.wrap .u64 n = n % 18446744073709551616 := by
    simp [IntKind.wrap, IntKind.bits, IntKind.signed]
  rw [e1]
  omega

end Go.Vm
