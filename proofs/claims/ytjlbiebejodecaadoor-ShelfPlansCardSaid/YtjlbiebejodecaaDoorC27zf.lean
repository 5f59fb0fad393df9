/- Chapter 27: what its functions compute. -/
import Derived.Test.YtjlbiebejodecaaDoorC27ze
namespace Go.Vm.Ch27
open _root_.Ch27 (T27 c32)
set_option maxRecDepth 10000
set_option maxHeartbeats 8000000
theorem q32a (P : List Prt) (nn a b : Bool) (w h kf : Int) (pl : List Plc) (lf : List Int) (hs : Sml P) (hc : ¬ chk P w h kf = 0) (m : Mem) :
    callL T27 32 [pv nn P, AV.int IntKind.i64 w, AV.int IntKind.i64 h, AV.int IntKind.i64 kf, lay a b pl lf] m = some (.tup [.vec none false [], AV.int IntKind.i64 (chk P w h kf)], m) := by
  have h20 := q20 P nn w h kf hs m
  rw [if_neg hc] at h20
  apply callL_body (vf := c32) rfl rfl
  simp [c32, h20, hc]
theorem q32b (P : List Prt) (nn a b : Bool) (w h kf : Int) (pl : List Plc) (lf : List Int) (hs : Sml P) (hc : chk P w h kf = 0) (hn : (packS P w h kf (ord P)).pl.length ≤ 1000000 ∧ (packS P w h kf (ord P)).lf.length ≤ 1000000) (hd : ¬ ((packS P w h kf (ord P)).pl = pl ∧ (packS P w h kf (ord P)).lf = lf)) (m : Mem) :
    callL T27 32 [pv nn P, AV.int IntKind.i64 w, AV.int IntKind.i64 h, AV.int IntKind.i64 kf, lay a b pl lf] m = some (.tup [.vec none false [], AV.int IntKind.i64 1], ordM P m) := by
  have h20 := q20 P nn w h kf hs m
  rw [if_pos hc, layV_eq] at h20
  generalize hL : packS P w h kf (ord P) = L at *
  have h59 := q59 (!L.pl.isEmpty) (!L.lf.isEmpty) a b L.pl pl L.lf lf hn.1 hn.2 []
  rw [decide_eq_false hd] at h59
  apply callL_body (vf := c32) rfl rfl
  simp [c32, h20, h59]
end Go.Vm.Ch27
