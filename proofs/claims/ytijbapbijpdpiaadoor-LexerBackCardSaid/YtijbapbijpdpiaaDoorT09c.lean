/- Chapter 09: what its functions compute. -/
import Derived.Test.YtijbapbijpdpiaaDoorC09u
import Derived.Test.YtijbapbijpdpiaaDoorT09b
namespace Go.Vm.Ch09
open _root_.Ch09 (T09)
abbrev toksS : Bool × List CK := (false, [.slice [.int .i64, .str, .int .i64, .int .i64] true])
theorem arg_toks {a : AV} (h : ArgHas false [.slice [.int .i64, .str, .int .i64, .int .i64] true] a) : ∃ nn P, a = vv none nn tv P ∧ inL P.length ∧ ∀ p ∈ P, inI p.n ∧ inL p.t.length :=
  ck_els tv (fun p => inI p.n ∧ inL p.t.length) (arg_one h) fun cs hl hc => by
    match cs, hl with
    | [c, d, e, f], _ =>
      obtain ⟨k, rfl, hk⟩ := pk_int (hc 0 _ c rfl rfl)
      obtain ⟨t, rfl, ht⟩ := pk_str (hc 1 _ d rfl rfl)
      obtain ⟨n, rfl, hn⟩ := pk_int (hc 2 _ e rfl rfl)
      obtain ⟨a, rfl, ha⟩ := pk_int (hc 3 _ f rfl rfl)
      exact ⟨⟨k, t, n, a⟩, rfl, hn, ht⟩
theorem law6_args : ∀ as, ArgsHave [toksS, intS] as → ∃ m, callL T09 6 as [] = some (.bool true, m) :=
  args2 fun a b ha hb => by
    obtain ⟨nn, P, rfl, hl, hP⟩ := arg_toks ha
    obtain ⟨B, rfl, hB⟩ := ck_int (arg_one hb)
    exact ⟨[], law6 P nn B hB hl (fun p hp => (hP p hp).1) fun p hp => (hP p hp).2⟩
end Go.Vm.Ch09
