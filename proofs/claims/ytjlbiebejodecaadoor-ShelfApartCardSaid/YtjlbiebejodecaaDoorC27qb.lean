/- Chapter 27: what its functions compute. -/
import Derived.Test.YtjlbiebejodecaaDoorC27qa
namespace Go.Vm.Ch27
open _root_.Ch27 (T27)
set_option maxRecDepth 10000
set_option maxHeartbeats 8000000
theorem r24_zero {P : List Prt} {nn a b : Bool} {w h kf : Int} {pl : List Plc} {lf : List Int} {i : Nat} {top : Int} {s : St} {V : Bool} (hc : C24 P w h kf pl) (hs : S24 P nn a b w h kf pl lf i top s) (hlt : i < pl.length) (hon : onB P w h pl[i] = true) (hi0 : i = 0) (hv : V = chB P w h kf none pl) {Q : VExit → St → Prop}
    (hR : V = false → ∀ s', s'.get 10 = .bool false → Q .ret s') (hN : ∀ s' top', StI P w h kf pl V (i + 1) top' → S24 P nn a b w h kf pl lf (i + 1) top' s' → Q .normal s') : wp T27 b24 s Q := by
  obtain ⟨e1, e2, e3, e5, l5, e9, l9, e15, e52, e53, e54⟩ := hs
  have gp := gi_nat hlt
  have hpr := hc.rng _ (List.getElem_mem hlt)
  have hpm := hc.g _ (gi_memP hpr)
  have hw := hc.w1
  have hh := hc.h1
  have hk := hc.k1
  have hll := hc.len
  have hdr : pl.drop i = pl[i] :: pl.drop (i + 1) := by simp
  have hpi : pl[i]? = some pl[i] := List.getElem?_eq_getElem hlt
  generalize l17 : s.loc 17 = os17 at *
  generalize l18 : s.loc 18 = os18 at *
  generalize l19 : s.loc 19 = os19 at *
  generalize pl[i] = p at *
  have hW : W64 (w - (gi P p.part).w) (w - (gi P p.part).w) := .mkI rfl (by omega) (by omega)
  have hH : W64 (h - (gi P p.part).h) (h - (gi P p.part).h) := .mkI rfl (by omega) (by omega)
  replace hW := hW.eq
  replace hH := hH.eq
  have hon' := hon
  unfold onB at hon
  generalize hxx : gi P p.part = x at *
  rw [decide_eq_true_iff] at hon
  have k1 : ¬ p.x < 0 := by omega
  have k2 : ¬ p.y < 0 := by omega
  have k3 : ¬ w - x.w < p.x := by omega
  have k4 : ¬ h - x.h < p.y := by omega
  have wt : W64 (p.y + x.h) (p.y + x.h) := .mkI rfl (by omega) (by omega)
  replace wt := wt.eq
  have w2 : W64 ((i : Int) + 1) ((i + 1 : Nat) : Int) := .mkI (by omega) (by omega) (by omega)
  replace w2 := w2.eq
  subst hi0
  rw [List.drop_zero] at hdr
  have gp0 : gi pl 0 = p := gp
  have w20 : IntKind.wrap .i64 1 = 1 := wrap64 (by omega) (by omega)
  rw [hdr, chB, hon', Bool.true_and, hxx] at hv
  by_cases k5 : p.sh = 0
  · rw [decide_eq_true k5, Bool.true_and] at hv
    have hS : StI P w h kf pl V (0 + 1) (p.y + x.h) := .inr ⟨0, p, rfl, hpi, hon', by omega, by omega, hv⟩
    simp [b24, e1, e2, e3, e5, l5, e9, l9, e15, e52, e53, e54, l17, l18, l19, hlt, gp0, hpr, hW, hH, hxx, k1, k2, k3, k4, k5, wt, w20]
    refine hN _ _ hS ⟨by simp [e1], by simp [e2], by simp [e3], by simp [e5], by simp [l5], by simp [e9], by simp [l9], by simp, by simp [e52], by simp [e53], by simp⟩
  · rw [decide_eq_false k5, Bool.false_and] at hv
    simp [b24, e1, e2, e3, e5, l5, e9, l9, e15, e52, e53, e54, l17, l18, l19, hlt, gp0, hpr, hW, hH, hxx, k1, k2, k3, k4, k5]
    exact hR hv _ (by simp)
end Go.Vm.Ch27
