/- Chapter 27: what its functions compute. -/
import Derived.Test.YtjlbiebejodecaaDoorC27g
import Derived.Test.YtjlbiebejodecaaDoorVI
namespace Go.Vm.Ch27
open _root_.Ch27 (T27)
abbrev partsS : Bool × List CK := (false, [.slice [.str, .int .i64, .int .i64] true])
abbrev layS : Bool × List CK := (true, [.slice [.int .i64, .int .i64, .int .i64, .int .i64] true, .slice [.int .i64] false])
theorem arg_parts {a : AV} (h : ArgHas false [.slice [.str, .int .i64, .int .i64] true] a) : ∃ nn xs, a = pv nn xs ∧ inL xs.length ∧ ∀ b ∈ xs, inI b.w ∧ inI b.h ∧ inL b.name.length :=
  ck_els (fun b : Prt => .agg (ep b)) (fun b => inI b.w ∧ inI b.h ∧ inL b.name.length) (arg_one h) fun cs hl hc => by
    match cs, hl with
    | [c, d, e], _ =>
      obtain ⟨nm, rfl, hnm⟩ := pk_str (hc 0 _ c rfl rfl)
      obtain ⟨w, rfl, hw⟩ := pk_int (hc 1 _ d rfl rfl)
      obtain ⟨h, rfl, hh⟩ := pk_int (hc 2 _ e rfl rfl)
      exact ⟨⟨nm, w, h⟩, rfl, hw, hh, hnm⟩
theorem law3_args : ∀ as, ArgsHave [partsS, intS, intS, intS] as → ∃ m, callL T27 3 as [] = some (.bool true, m) :=
  args4 fun a b c d ha hb hc hd => by
    obtain ⟨nn, P, rfl, hl, hP⟩ := arg_parts ha
    obtain ⟨w, rfl, hw⟩ := ck_int (arg_one hb)
    obtain ⟨h, rfl, hh⟩ := ck_int (arg_one hc)
    obtain ⟨kf, rfl, hk⟩ := ck_int (arg_one hd)
    exact law3 P nn w h kf hl
end Go.Vm.Ch27
