/- Chapter 27: what its functions compute. -/
import Derived.Test.YtjlbiebejodecaaDoorC27ra
namespace Go.Vm.Ch27
open _root_.Ch27 (T27 c26 c56)
set_option maxRecDepth 10000
set_option maxHeartbeats 8000000
theorem r26_next {P : List Prt} {nn a b : Bool} {w h kf : Int} {pl : List Plc} {lf : List Int} {i : Nat} {tall : Int} {s : St} {V : Bool} (hc : C24 P w h kf pl) (hs : S26 P nn a b w h kf pl lf i tall s) (hlt : i < pl.length) (hon : onB P w h pl[i] = true) {j : Nat} {q : Plc} (hij : i = j + 1) (hq : pl[j]? = some q) (hoq : onB P w h q = true) (t1 : 0 ≤ tall) (t2 : tall ≤ 1000000) (hv : V = chB P w h kf (some (q, q.y + tall)) (pl.drop i)) {Q : VExit → St → Prop}
    (hR : V = false → ∀ s', s'.get 10 = .bool false → s'.mem = s.mem → Q .ret s') (hN : ∀ s' tall', StR P w h kf pl V (i + 1) tall' → S26 P nn a b w h kf pl lf (i + 1) tall' s' → s'.mem = s.mem → Q .normal s') (k5 : ¬ pl[i].sh = q.sh) : wp T27 b26 s Q := by
  obtain ⟨e0, e1, e2, e3, e9, l9, e14, e15⟩ := hs
  have gp := gi_nat hlt
  have hpr := hc.rng _ (List.getElem_mem hlt)
  have hpm := hc.g _ (gi_memP hpr)
  have hw := hc.w1
  have hh := hc.h1
  have hk := hc.k1
  have hll := hc.len
  have h56 := q56 P nn w h pl[i] hpr hc.g hw hh []
  have hdr : pl.drop i = pl[i] :: pl.drop (i + 1) := by simp
  have hpi : pl[i]? = some pl[i] := List.getElem?_eq_getElem hlt
  generalize l16 : s.loc 16 = os16 at *
  generalize l17 : s.loc 17 = os17 at *
  rw [hon] at h56
  generalize pl[i] = p at *
  have hon' := hon
  unfold onB at hon
  generalize hxx : gi P p.part = x at *
  rw [decide_eq_true_iff] at hon
  have w2 : W64 ((i : Int) + 1) ((i + 1 : Nat) : Int) := .mkI (by omega) (by omega) (by omega)
  replace w2 := w2.eq
  have hi0 : ¬ i = 0 := by omega
  have wi : W64 ((i : Int) - 1) (j : Int) := .mkI (by omega) (by omega) (by omega)
  have hjl : j < pl.length := by omega
  have gq : gi pl (j : Int) = q := by
    rw [gi_nat hjl]; rw [List.getElem?_eq_getElem hjl] at hq; exact Option.some.inj hq
  have hqr := hc.rng q (List.mem_of_getElem? hq)
  have hqm := hc.g _ (gi_memP hqr)
  have hoq' : (0 ≤ q.x ∧ q.x ≤ w - (gi P q.part).w) ∧ 0 ≤ q.y ∧ q.y ≤ h - (gi P q.part).h := by unfold onB at hoq; simp at hoq; omega
  generalize hxq : gi P q.part = xq at *
  have wq1 : W64 (q.x + xq.w) (q.x + xq.w) := .mkI rfl (by omega) (by omega)
  have wq2 : W64 (q.x + xq.w + kf) (q.x + xq.w + kf) := .mkI rfl (by omega) (by omega)
  have wq3 : W64 (q.y + tall) (q.y + tall) := .mkI rfl (by omega) (by omega)
  have wq4 : W64 (q.y + tall + kf) (q.y + tall + kf) := .mkI rfl (by omega) (by omega)
  replace wi := wi.eq
  replace wq1 := wq1.eq
  replace wq2 := wq2.eq
  replace wq3 := wq3.eq
  replace wq4 := wq4.eq
  rw [hdr, chB, hon', Bool.true_and, hxx, hxq] at hv
  rw [if_neg k5] at hv
  generalize hqs : IntKind.wrap .i64 (q.sh + 1) = qs at *
  by_cases k6 : p.sh = qs
  · rw [if_pos k6] at hv
    have k5' : ¬ qs = q.sh := fun e => k5 (by rw [k6, e])
    by_cases k7 : q.y + tall + kf ≤ p.y
    · rw [decide_eq_true k7, Bool.true_and] at hv
      have k7' : ¬ p.y < q.y + tall + kf := by omega
      have hS : StR P w h kf pl V (i + 1) x.h := .inr ⟨i, p, rfl, hpi, hon', by omega, by omega, by
        have e : p.y + x.h = p.y + x.h := rfl
        exact hv⟩
      simp [b26, e0, e1, e2, e3, e9, l9, e14, e15, l16, l17, hlt, gp, hpr, h56, hi0, wi, gq, hjl, hqs, hxx, k5', k6, k7', wq3, wq4, w2, -Int.natCast_add]
      refine hN _ _ hS ⟨by simp [e0], by simp [e1], by simp [e2], by simp [e3], by simp [e9], by simp [l9], by simp, by simp⟩ (by simp)
    · rw [decide_eq_false k7, Bool.false_and] at hv
      have k7' : p.y < q.y + tall + kf := by omega
      simp [b26, e0, e1, e2, e3, e9, l9, e14, e15, l16, l17, hlt, gp, hpr, h56, hi0, wi, gq, hjl, hqs, k5', k6, k7', wq3, wq4]
      exact hR hv _ (by simp) (by simp)
  · rw [if_neg k6] at hv
    simp [b26, e0, e1, e2, e3, e9, l9, e14, e15, l16, l17, hlt, gp, hpr, h56, hi0, wi, gq, hjl, hqs, k5, k6]
    exact hR hv _ (by simp) (by simp)
end Go.Vm.Ch27
