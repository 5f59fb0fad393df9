/- Chapter 51: what its functions compute. -/
import Derived.Test.YtdodnhbegabbpaaC51o
import Derived.Test.YtdodnhbegabbpaaT51
namespace Go.Vm.Ch51
open _root_.Ch51 (T51)
abbrev batsS : Bool × List CK := (false, [.slice [.str, .int .i64, .int .i64] true])
abbrev staysS : Bool × List CK := (false, [.slice [.str, .int .i64, .int .i64, .int .i64] true])
def inI (n : Int) : Prop := -9223372036854775808 ≤ n ∧ n ≤ 9223372036854775807
theorem pk_int {v : AV} (h : PK.has (.int .i64) v) : ∃ n, v = AV.int IntKind.i64 n ∧ inI n := by
  obtain ⟨n, rfl, h1, h2⟩ := h
  refine ⟨n, rfl, ?_, ?_⟩
  · have e : IntKind.min .i64 = -9223372036854775808 := by decide
    omega
  · have e : IntKind.max .i64 = 9223372036854775807 := by decide
    omega
theorem pk_str {v : AV} (h : PK.has .str v) : ∃ b : List UInt8, v = .str b ∧ (b.length : Int) ≤ 9223372036854775807 := by
  obtain ⟨b, rfl, h1⟩ := h
  refine ⟨b, rfl, ?_⟩
  have e : maxLen = 9223372036854775807 := by decide
  omega
theorem els_map {α : Type} (e : α → AV) (P : α → Prop) : ∀ (xs : List AV), (∀ x ∈ xs, ∃ z, x = e z ∧ P z) → ∃ zs : List α, xs = zs.map e ∧ ∀ z ∈ zs, P z
  | [], _ => ⟨[], rfl, by simp⟩
  | x :: r, h => by
    obtain ⟨zs, rfl, hz⟩ := els_map e P r fun y hy => h y (by simp [hy])
    obtain ⟨z, rfl, hp⟩ := h x (by simp)
    exact ⟨z :: zs, rfl, fun w hw => by
      rcases List.mem_cons.1 hw with rfl | h
      · exact hp
      · exact hz w h⟩
theorem arg_bats {a : AV} (h : ArgHas false [.slice [.str, .int .i64, .int .i64] true] a) : ∃ nn xs, a = bv nn xs ∧ (xs.length : Int) ≤ 9223372036854775807 ∧ ∀ b ∈ xs, inI b.arr ∧ inI b.th ∧ (b.name.length : Int) ≤ 9223372036854775807 := by
  obtain ⟨cs, rfl, hl, hc⟩ := h
  match cs, hl with
  | [c], _ =>
    obtain ⟨nn, xs, rfl, -, hlen, hx⟩ := hc 0 _ c rfl rfl
    obtain ⟨zs, rfl, hz⟩ := els_map (fun b : Bat => .agg (eb b)) (fun b => inI b.arr ∧ inI b.th ∧ (b.name.length : Int) ≤ 9223372036854775807) xs fun x hxm => by
      obtain ⟨cs, rfl, hl, hc⟩ := hx x hxm
      match cs, hl with
      | [c, d, e], _ =>
        obtain ⟨nm, rfl, hnm⟩ := pk_str (hc 0 _ c rfl rfl)
        obtain ⟨ar, rfl, har⟩ := pk_int (hc 1 _ d rfl rfl)
        obtain ⟨th, rfl, hth⟩ := pk_int (hc 2 _ e rfl rfl)
        exact ⟨⟨nm, ar, th⟩, rfl, har, hth, hnm⟩
    have e : maxLen = 9223372036854775807 := by decide
    exact ⟨nn, zs, rfl, by simp at hlen; omega, hz⟩
theorem arg_stays {a : AV} (h : ArgHas false [.slice [.str, .int .i64, .int .i64, .int .i64] true] a) : ∃ nn xs, a = sv nn xs ∧ (xs.length : Int) ≤ 9223372036854775807 ∧ ∀ b ∈ xs, inI b.place ∧ inI b.frm ∧ inI b.to ∧ (b.name.length : Int) ≤ 9223372036854775807 := by
  obtain ⟨cs, rfl, hl, hc⟩ := h
  match cs, hl with
  | [c], _ =>
    obtain ⟨nn, xs, rfl, -, hlen, hx⟩ := hc 0 _ c rfl rfl
    obtain ⟨zs, rfl, hz⟩ := els_map (fun b : Sta => .agg (es b)) (fun b => inI b.place ∧ inI b.frm ∧ inI b.to ∧ (b.name.length : Int) ≤ 9223372036854775807) xs fun x hxm => by
      obtain ⟨cs, rfl, hl, hc⟩ := hx x hxm
      match cs, hl with
      | [c, d, e, f], _ =>
        obtain ⟨nm, rfl, hnm⟩ := pk_str (hc 0 _ c rfl rfl)
        obtain ⟨ar, rfl, har⟩ := pk_int (hc 1 _ d rfl rfl)
        obtain ⟨th, rfl, hth⟩ := pk_int (hc 2 _ e rfl rfl)
        obtain ⟨t2, rfl, ht2⟩ := pk_int (hc 3 _ f rfl rfl)
        exact ⟨⟨nm, ar, th, t2⟩, rfl, har, hth, ht2, hnm⟩
    have e : maxLen = 9223372036854775807 := by decide
    exact ⟨nn, zs, rfl, by simp at hlen; omega, hz⟩
theorem law5_args : ∀ as, ArgsHave [ruleS, intS, batsS, staysS] as → ∃ m, callL T51 5 as [] = some (.bool true, m)
  | [a, b, c, d], h => by
    obtain ⟨nx, ny, xs, ys, rfl⟩ := arg_rule h.1
    obtain ⟨p, rfl⟩ := arg_int h.2.1
    obtain ⟨nn, list, rfl, hl, _⟩ := arg_bats h.2.2.1
    obtain ⟨ns, stays, rfl, hs, hst⟩ := arg_stays h.2.2.2.1
    exact law5 xs ys nx ny nn ns p list stays hl hs fun s hs => ⟨(hst s hs).2.1.2, (hst s hs).2.2.1.2⟩
  | [], h => h.elim
  | [_], h => h.2.elim
  | [_, _], h => h.2.2.elim
  | [_, _, _], h => h.2.2.2.elim
  | _ :: _ :: _ :: _ :: _ :: _, h => h.2.2.2.2.elim
end Go.Vm.Ch51
