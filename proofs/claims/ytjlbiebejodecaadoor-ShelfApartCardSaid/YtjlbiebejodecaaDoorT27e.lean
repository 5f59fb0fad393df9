/- Chapter 27: what its functions compute. -/
import Derived.Test.YtjlbiebejodecaaDoorC27u
import Derived.Test.YtjlbiebejodecaaDoorT27
namespace Go.Vm.Ch27
open _root_.Ch27 (T27)
theorem law9_args : ∀ as, ArgsHave [partsS, intS, intS, intS] as → ∃ m, callL T27 9 as [] = some (.bool true, m) :=
  args4 fun a b c d ha hb hc hd => by
    obtain ⟨nn, P, rfl, hl, hP⟩ := arg_parts ha
    obtain ⟨w, rfl, hw⟩ := ck_int (arg_one hb)
    obtain ⟨h, rfl, hh⟩ := ck_int (arg_one hc)
    obtain ⟨kf, rfl, hk⟩ := ck_int (arg_one hd)
    exact law9 P nn w h kf hl
end Go.Vm.Ch27
