/- Chapter 27: what its functions compute. -/
import Derived.Test.YtjlbiebejodecaaDoorC27zh
import Derived.Test.YtjlbiebejodecaaDoorT27
namespace Go.Vm.Ch27
open _root_.Ch27 (T27)
theorem arg_lay7 {v : AV} (hv : ArgHas true [.slice [.int .i64, .int .i64, .int .i64, .int .i64] true, .slice [.int .i64] false] v) : ∃ a b pl lf, v = lay a b pl lf ∧ inL pl.length ∧ inL lf.length := by
  obtain ⟨cs, rfl, hl, hc⟩ := hv
  match cs, hl with
  | [c, d], _ =>
    obtain ⟨a, pl, rfl, h1, -⟩ := ck_els (fun q : Plc => .agg (el q)) (fun _ => True) (hc 0 _ c rfl rfl) fun cs hl hc => by
      match cs, hl with
      | [c, d, e, f], _ =>
        obtain ⟨p, rfl, -⟩ := pk_int (hc 0 _ c rfl rfl)
        obtain ⟨x, rfl, -⟩ := pk_int (hc 1 _ d rfl rfl)
        obtain ⟨y, rfl, -⟩ := pk_int (hc 2 _ e rfl rfl)
        obtain ⟨s, rfl, -⟩ := pk_int (hc 3 _ f rfl rfl)
        exact ⟨⟨p, x, y, s⟩, rfl, trivial⟩
    obtain ⟨b, lf, rfl, h2, -⟩ := ck_ints (hc 1 _ d rfl rfl)
    exact ⟨a, b, pl, lf, rfl, h1, h2⟩
theorem law7_args : ∀ as, ArgsHave [partsS, intS, intS, intS, layS] as → ∃ m, callL T27 7 as [] = some (.bool true, m) :=
  args5 fun a b c d e ha hb hc hd he => by
    obtain ⟨nn, P, rfl, hl, hP⟩ := arg_parts ha
    obtain ⟨w, rfl, hw⟩ := ck_int (arg_one hb)
    obtain ⟨h, rfl, hh⟩ := ck_int (arg_one hc)
    obtain ⟨kf, rfl, hk⟩ := ck_int (arg_one hd)
    obtain ⟨a, b, pl, lf, rfl, h1, h2⟩ := arg_lay7 he
    exact law7 P nn a b w h kf pl lf hl h1 h2
end Go.Vm.Ch27
