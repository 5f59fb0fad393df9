/- Chapter 09: what its functions compute. -/
import Derived.Test.YtijbapbijpdpiaaDoorC09s
import Derived.Test.YtijbapbijpdpiaaDoorT09
namespace Go.Vm.Ch09
open _root_.Ch09 (T09)
abbrev tokS : Bool × List CK := (true, [.p (.int .i64), .p .str, .p (.int .i64), .p (.int .i64)])
theorem law5_args : ∀ as, ArgsHave [tokS] as → ∃ m, callL T09 5 as [] = some (.bool true, m) :=
  args1 fun a ha => by
    obtain ⟨cs, rfl, hl, hc⟩ := ha
    match cs, hl with
    | [c, d, e, f], _ =>
      obtain ⟨k, rfl, hk⟩ := ck_int (hc 0 _ c rfl rfl)
      obtain ⟨t, rfl, ht⟩ := ck_str (hc 1 _ d rfl rfl)
      obtain ⟨n, rfl, hn⟩ := ck_int (hc 2 _ e rfl rfl)
      obtain ⟨a, rfl, ha⟩ := ck_int (hc 3 _ f rfl rfl)
      exact ⟨[], law5 k t n a hn ht⟩
end Go.Vm.Ch09
