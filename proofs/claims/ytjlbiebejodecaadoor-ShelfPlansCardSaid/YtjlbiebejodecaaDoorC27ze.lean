/- Chapter 27: what its functions compute. -/
import Derived.Test.YtjlbiebejodecaaDoorC27zd
namespace Go.Vm.Ch27
open _root_.Ch27 (T27 c33)
set_option maxRecDepth 10000
set_option maxHeartbeats 8000000
theorem q33 (P : List Prt) (nn : Bool) (w h kf : Int) (hlen : P.length ≤ 1000000) (hok : OK P w kf (ord P)) (hg : Good P) (hk : 0 ≤ kf ∧ kf ≤ 1000) (hw : 0 ≤ w ∧ w ≤ 1000000) (hh : 0 ≤ h ∧ h ≤ 1000000) (hpo : ∀ q ∈ (packS P w h kf (ord P)).pl, PlOK P q) (hn : (packS P w h kf (ord P)).pl.length ≤ 90) (m : Mem) :
    ∃ mm : Mem, callL T27 33 [pv nn P, AV.int IntKind.i64 w, AV.int IntKind.i64 h, AV.int IntKind.i64 kf] m = some (nodW m.length (shelvesS P kf w (packS P w h kf (ord P)).pl.length (packS P w h kf (ord P)).pl h ([], 0)).1, mm) ∧ ∃ o, mm = plM m o (shelvesS P kf w (packS P w h kf (ord P)).pl.length (packS P w h kf (ord P)).pl h ([], 0)).1 := by
  have h23 := q23 P nn w h kf hlen hok (by omega) []
  rw [layV_eq] at h23
  generalize hL : packS P w h kf (ord P) = L at *
  have h61 := q61 m P nn (!L.pl.isEmpty) L.pl w h kf hg hk hw hh hpo (by omega) L.pl.length 0 ([], 0) (by omega) (by omega) (by simp; omega) (by simp; omega)
  rw [List.drop_zero] at h61
  generalize shelvesS P kf w L.pl.length L.pl h ([], 0) = S1 at *
  have hobj := plM_obj m (rcO P nn (!L.pl.isEmpty) L.pl w h kf (nodV m.length S1.1) S1.2) S1.1
  have e0 : plM m (rcO P nn (!L.pl.isEmpty) L.pl w h kf (nodV m.length []) 0) [] = m ++ [some (.cells false (rcO P nn (!L.pl.isEmpty) L.pl w h kf (.vec none false []) 0))] := rfl
  simp only [rM] at h61
  rw [e0] at h61
  refine ⟨plM m (rcO P nn (!L.pl.isEmpty) L.pl w h kf (nodV m.length S1.1) S1.2) S1.1, ?_, _, rfl⟩
  simp only [rcO] at hobj h61 ⊢
  apply callL_body (vf := c33) rfl rfl
  simp at h61
  by_cases hN : S1.1 = []
  · simp [nodV, hN] at h61 hobj
    simp [c33, h23, h61, hobj, objCells, nodV, nodW, hN]
  · simp [nodV, hN] at h61 hobj
    simp [c33, h23, h61, hobj, objCells, nodV, nodW, hN]
end Go.Vm.Ch27
