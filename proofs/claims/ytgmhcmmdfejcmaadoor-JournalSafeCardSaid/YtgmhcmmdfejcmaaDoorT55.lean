/- Chapter 55: what its functions compute. -/
import Derived.Test.YtgmhcmmdfejcmaaDoorC55k
import Derived.Test.YtgmhcmmdfejcmaaDoorVI
namespace Go.Vm.Ch55
open _root_.Ch55 (T55)
abbrev movesS : Bool × List CK := (false, [.slice [.int .i64, .str, .int .i64, .int .i64, .int .u8] true])
theorem arg_moves {a : AV} (h : ArgHas false [.slice [.int .i64, .str, .int .i64, .int .i64, .int .u8] true] a) : ∃ nn xs, a = mv nn xs ∧ inL xs.length ∧ ∀ b ∈ xs, inI b.kind ∧ inL b.text.length ∧ inI b.kept ∧ inI b.at' :=
  ck_els (fun b : Mov => .agg (em b)) (fun b => inI b.kind ∧ inL b.text.length ∧ inI b.kept ∧ inI b.at') (arg_one h) fun cs hl hc => by
    match cs, hl with
    | [c, d, e, f, g], _ =>
      obtain ⟨k, rfl, hk⟩ := pk_int (hc 0 _ c rfl rfl)
      obtain ⟨t, rfl, ht⟩ := pk_str (hc 1 _ d rfl rfl)
      obtain ⟨a, rfl, ha⟩ := pk_int (hc 2 _ e rfl rfl)
      obtain ⟨b, rfl, hb⟩ := pk_int (hc 3 _ f rfl rfl)
      obtain ⟨u, rfl⟩ := pk_u8 (hc 4 _ g rfl rfl)
      exact ⟨⟨k, t, a, b, u⟩, rfl, hk, ht, ha, hb⟩
theorem law3_args : ∀ as, ArgsHave [movesS] as → ∃ m, callL T55 3 as [] = some (.bool true, m) :=
  args1 fun a ha => by
    obtain ⟨nn, P, rfl, hl, hP⟩ := arg_moves ha
    exact law3 P nn hl fun p hp => (hP p hp).2.2.2
end Go.Vm.Ch55
