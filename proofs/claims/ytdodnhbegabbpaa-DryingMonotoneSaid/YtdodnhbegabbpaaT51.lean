/- Chapter 51: what its functions compute. -/
import Derived.Test.YtdodnhbegabbpaaC51e
import Derived.Test.YtdodnhbegabbpaaVE
import Derived.KernelRfl
namespace Go.Vm.Ch51
open _root_.Ch51 (T51)
theorem one_cells {agg : Bool} {ks : List CK} {a : AV} (h : ArgHas agg ks a) : ∃ cs, a = mkEl agg cs ∧ cs.length = ks.length ∧ ∀ (i : Nat) (k : CK) (c : AV), ks[i]? = some k → cs[i]? = some c → k.has c := h
theorem int_of {v : AV} (h : CK.has (.p (.int .i64)) v) : ∃ n, v = AV.int IntKind.i64 n := by
  obtain ⟨n, rfl, _⟩ := h; exact ⟨n, rfl⟩
theorem arg_int {a : AV} (h : ArgHas false [.p (.int .i64)] a) : ∃ n, a = AV.int IntKind.i64 n := by
  obtain ⟨cs, rfl, hl, hc⟩ := h
  match cs, hl with
  | [c], _ =>
    obtain ⟨n, rfl⟩ := int_of (hc 0 _ c rfl rfl)
    exact ⟨n, rfl⟩
theorem ints_of {v : AV} (h : CK.has (.slice [.int .i64] false) v) : ∃ nn zs, v = iv nn zs := by
  obtain ⟨nn, xs, rfl, -, -, hx⟩ := h
  have : ∃ zs : List Int, xs = zs.map (AV.int .i64) := by
    induction xs with
    | nil => exact ⟨[], rfl⟩
    | cons x r ih =>
      obtain ⟨zs, rfl⟩ := ih fun y hy => hx y (by simp [hy])
      obtain ⟨cs, rfl, hl, hc⟩ := hx x (by simp)
      match cs, hl with
      | [c], _ =>
        obtain ⟨n, rfl, _⟩ := hc 0 _ c rfl rfl
        exact ⟨n :: zs, rfl⟩
  obtain ⟨zs, rfl⟩ := this
  exact ⟨nn, zs, rfl⟩
abbrev ruleS : Bool × List CK := (true, [.slice [.int .i64] false, .slice [.int .i64] false])
abbrev intS : Bool × List CK := (false, [.p (.int .i64)])
abbrev vecS : Bool × List CK := (true, [.p (.int .i64), .p (.int .i64), .p (.int .i64)])
theorem arg_rule {a : AV} (h : ArgHas true [.slice [.int .i64] false, .slice [.int .i64] false] a) : ∃ nx ny xs ys, a = rv nx ny xs ys := by
  obtain ⟨cs, rfl, hl, hc⟩ := h
  match cs, hl with
  | [c, d], _ =>
    obtain ⟨nx, xs, rfl⟩ := ints_of (hc 0 _ c rfl rfl)
    obtain ⟨ny, ys, rfl⟩ := ints_of (hc 1 _ d rfl rfl)
    exact ⟨nx, ny, xs, ys, rfl⟩
theorem arg_vec {a : AV} (h : ArgHas true [.p (.int .i64), .p (.int .i64), .p (.int .i64)] a) : ∃ x y z, a = .agg [AV.int IntKind.i64 x, AV.int IntKind.i64 y, AV.int IntKind.i64 z] := by
  obtain ⟨cs, rfl, hl, hc⟩ := h
  match cs, hl with
  | [c, d, e], _ =>
    obtain ⟨x, rfl⟩ := int_of (hc 0 _ c rfl rfl)
    obtain ⟨y, rfl⟩ := int_of (hc 1 _ d rfl rfl)
    obtain ⟨z, rfl⟩ := int_of (hc 2 _ e rfl rfl)
    exact ⟨x, y, z, rfl⟩
theorem law3_args : ∀ as, ArgsHave [ruleS, intS, intS, vecS] as → ∃ m, callL T51 3 as [] = some (.bool true, m)
  | [a, b, c, d], h => by
    obtain ⟨nx, ny, xs, ys, rfl⟩ := arg_rule h.1
    obtain ⟨t, rfl⟩ := arg_int h.2.1
    obtain ⟨mn, rfl⟩ := arg_int h.2.2.1
    obtain ⟨x, y, z, rfl⟩ := arg_vec h.2.2.2.1
    exact law3 xs ys nx ny t mn x y z
  | [], h => h.elim
  | [_], h => h.2.elim
  | [_, _], h => h.2.2.elim
  | [_, _, _], h => h.2.2.2.elim
  | _ :: _ :: _ :: _ :: _ :: _, h => h.2.2.2.2.elim
theorem callL_ok {P : Program} {T : FuncId → Option VF} (h : ∀ k, CallOK P (callN T k)) : CallOK P (callL T) := by
  intro f args m v m' hc
  obtain ⟨k, hk⟩ := callL_some hc
  exact h k f args m v m' hk
end Go.Vm.Ch51
