/- Chapter 27: what its functions compute. -/
import Derived.Test.YtjlbiebejodecaaDoorC27zf
namespace Go.Vm.Ch27
open _root_.Ch27 (T27 c32)
set_option maxRecDepth 10000
set_option maxHeartbeats 8000000
theorem q32c (P : List Prt) (nn a b : Bool) (w h kf : Int) (pl : List Plc) (lf : List Int) (hs : Sml P) (hc : chk P w h kf = 0) (hn : (packS P w h kf (ord P)).pl.length ≤ 1000000 ∧ (packS P w h kf (ord P)).lf.length ≤ 1000000) (hd : (packS P w h kf (ord P)).pl = pl ∧ (packS P w h kf (ord P)).lf = lf)
    (hg : Good P) (hk : 0 ≤ kf ∧ kf ≤ 1000) (hpo : ∀ q ∈ pl, PlOK P q) (hl : pl.length ≤ 90) (m : Mem) :
    ∃ mm : Mem, callL T27 32 [pv nn P, AV.int IntKind.i64 w, AV.int IntKind.i64 h, AV.int IntKind.i64 kf, lay a b pl lf] m = some (.tup [nodW (ordM P m).length (shelvesS P kf w pl.length pl h ([], 0)).1, AV.int IntKind.i64 0], mm) ∧ ∃ o, mm = plM (ordM P m) o (shelvesS P kf w pl.length pl h ([], 0)).1 := by
  have h20 := q20 P nn w h kf hs m
  rw [if_pos hc, layV_eq] at h20
  generalize hL : packS P w h kf (ord P) = L at *
  have h59 := q59 (!L.pl.isEmpty) (!L.lf.isEmpty) a b L.pl pl L.lf lf hn.1 hn.2 []
  rw [decide_eq_true hd] at h59
  generalize ordM P m = m1 at *
  have h60 := q60 m1 P nn kf w hg hk pl.length pl a h ([], 0) (by omega) hpo (by simp; omega) (by simp; omega)
  generalize shelvesS P kf w pl.length pl h ([], 0) = S1 at *
  have hobj := plM_obj m1 (pcO P nn kf (nodV m1.length S1.1) S1.2) S1.1
  have e0 : plM m1 (pcO P nn kf (nodV m1.length []) 0) [] = m1 ++ [some (.cells false (pcO P nn kf (.vec none false []) 0))] := rfl
  simp only [pM] at h60
  rw [e0] at h60
  refine ⟨plM m1 (pcO P nn kf (nodV m1.length S1.1) S1.2) S1.1, ?_, _, rfl⟩
  simp only [pcO] at hobj h60 ⊢
  apply callL_body (vf := c32) rfl rfl
  by_cases hN : S1.1 = []
  · simp [nodV, hN] at h60 hobj
    simp [c32, h20, h59, h60, hobj, objCells, nodV, nodW, hN]
  · simp [nodV, hN] at h60 hobj
    simp [c32, h20, h59, h60, hobj, objCells, nodV, nodW, hN]
end Go.Vm.Ch27
