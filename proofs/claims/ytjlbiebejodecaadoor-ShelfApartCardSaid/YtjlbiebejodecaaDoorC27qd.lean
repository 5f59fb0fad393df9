/- Chapter 27: what its functions compute. -/
import Derived.Test.YtjlbiebejodecaaDoorC27qa
namespace Go.Vm.Ch27
open _root_.Ch27 (T27)
set_option maxRecDepth 10000
set_option maxHeartbeats 8000000
theorem r24_next {P : List Prt} {nn a b : Bool} {w h kf : Int} {pl : List Plc} {lf : List Int} {i j : Nat} {q : Plc} {top : Int} {s : St} {V : Bool} (hc : C24 P w h kf pl) (hs : S24 P nn a b w h kf pl lf i top s) (hlt : i < pl.length) (hon : onB P w h pl[i] = true) (hij : i = j + 1) (hq : pl[j]? = some q) (hoq : onB P w h q = true) (t1 : 0 ≤ top) (t2 : top ≤ 1000000) (hv : V = chB P w h kf (some (q, top)) (pl.drop i)) {Q : VExit → St → Prop}
    (hR : V = false → ∀ s', s'.get 10 = .bool false → Q .ret s') (hN : ∀ s' top', StI P w h kf pl V (i + 1) top' → S24 P nn a b w h kf pl lf (i + 1) top' s' → Q .normal s') (k5 : ¬ pl[i].sh = q.sh) : wp T27 b24 s Q := by
  obtain ⟨e1, e2, e3, e5, l5, e9, l9, e15, e52, e53, e54⟩ := hs
  have gp := gi_nat hlt
  have hpr := hc.rng _ (List.getElem_mem hlt)
  have hpm := hc.g _ (gi_memP hpr)
  have hw := hc.w1
  have hh := hc.h1
  have hk := hc.k1
  have hll := hc.len
  have hdr : pl.drop i = pl[i] :: pl.drop (i + 1) := by simp
  have hpi : pl[i]? = some pl[i] := List.getElem?_eq_getElem hlt
  generalize l17 : s.loc 17 = os17 at *
  generalize l18 : s.loc 18 = os18 at *
  generalize l19 : s.loc 19 = os19 at *
  generalize pl[i] = p at *
  have hW : W64 (w - (gi P p.part).w) (w - (gi P p.part).w) := .mkI rfl (by omega) (by omega)
  have hH : W64 (h - (gi P p.part).h) (h - (gi P p.part).h) := .mkI rfl (by omega) (by omega)
  replace hW := hW.eq
  replace hH := hH.eq
  have hon' := hon
  unfold onB at hon
  generalize hxx : gi P p.part = x at *
  rw [decide_eq_true_iff] at hon
  have k1 : ¬ p.x < 0 := by omega
  have k2 : ¬ p.y < 0 := by omega
  have k3 : ¬ w - x.w < p.x := by omega
  have k4 : ¬ h - x.h < p.y := by omega
  have wt : W64 (p.y + x.h) (p.y + x.h) := .mkI rfl (by omega) (by omega)
  replace wt := wt.eq
  have w2 : W64 ((i : Int) + 1) ((i + 1 : Nat) : Int) := .mkI (by omega) (by omega) (by omega)
  replace w2 := w2.eq
  have hi0 : ¬ i = 0 := by omega
  have wi : W64 ((i : Int) - 1) (j : Int) := .mkI (by omega) (by omega) (by omega)
  have hjl : j < pl.length := by omega
  have gq : gi pl (j : Int) = q := by
    rw [gi_nat hjl]; rw [List.getElem?_eq_getElem hjl] at hq; exact Option.some.inj hq
  have hqr := hc.rng q (List.mem_of_getElem? hq)
  have hqm := hc.g _ (gi_memP hqr)
  have hoq' : 0 ≤ q.x ∧ q.x ≤ w - (gi P q.part).w := by unfold onB at hoq; simp at hoq; omega
  generalize hxq : gi P q.part = xq at *
  have wq1 : W64 (q.x + xq.w) (q.x + xq.w) := .mkI rfl (by omega) (by omega)
  have wq2 : W64 (q.x + xq.w + kf) (q.x + xq.w + kf) := .mkI rfl (by omega) (by omega)
  have wq3 : W64 (top + kf) (top + kf) := .mkI rfl (by omega) (by omega)
  replace wi := wi.eq
  replace wq1 := wq1.eq
  replace wq2 := wq2.eq
  replace wq3 := wq3.eq
  rw [hdr, chB, hon', Bool.true_and, hxx, hxq] at hv
  rw [if_neg k5] at hv
  generalize hqs : IntKind.wrap .i64 (q.sh + 1) = qs at *
  by_cases k6 : p.sh = qs
  · rw [if_pos k6] at hv
    have k5' : ¬ qs = q.sh := fun e => k5 (by rw [k6, e])
    by_cases k7 : top + kf ≤ p.y
    · rw [decide_eq_true k7, Bool.true_and] at hv
      have k7' : ¬ p.y < top + kf := by omega
      have hS : StI P w h kf pl V (i + 1) (p.y + x.h) := .inr ⟨i, p, rfl, hpi, hon', by omega, by omega, hv⟩
      simp [b24, e1, e2, e3, e5, l5, e9, l9, e15, e52, e53, e54, l17, l18, l19, hlt, gp, hpr, hW, hH, hxx, k1, k2, k3, k4, hi0, wi, gq, hjl, hqs, k5', k6, k7', wq3, wt, w2, -Int.natCast_add]
      refine hN _ _ hS ⟨by simp [e1], by simp [e2], by simp [e3], by simp [e5], by simp [l5], by simp [e9], by simp [l9], by simp, by simp [e52], by simp [e53], by simp⟩
    · rw [decide_eq_false k7, Bool.false_and] at hv
      have k7' : p.y < top + kf := by omega
      simp [b24, e1, e2, e3, e5, l5, e9, l9, e15, e52, e53, e54, l17, l18, l19, hlt, gp, hpr, hW, hH, hxx, k1, k2, k3, k4, hi0, wi, gq, hjl, hqs, k5', k6, k7', wq3]
      exact hR hv _ (by simp)
  · rw [if_neg k6] at hv
    simp [b24, e1, e2, e3, e5, l5, e9, l9, e15, e52, e53, e54, l17, l18, l19, hlt, gp, hpr, hW, hH, hxx, k1, k2, k3, k4, hi0, wi, gq, hjl, hqs, k5, k6]
    exact hR hv _ (by simp)
end Go.Vm.Ch27
