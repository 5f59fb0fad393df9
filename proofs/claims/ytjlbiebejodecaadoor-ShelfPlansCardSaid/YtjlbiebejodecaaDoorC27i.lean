/- Chapter 27: what its functions compute. -/
import Derived.Test.YtjlbiebejodecaaDoorC27h
namespace Go.Vm.Ch27
open _root_.Ch27 (T27 c51)
set_option maxRecDepth 10000
set_option maxHeartbeats 8000000
def topR (s : PS) : Int := if 0 ≤ s.num then s.top else 0
theorem q51 (P : List Prt) (nn : Bool) (w h kf : Int) (o : List Int) (v : AV) (m : Mem) (hv : IntSl v m o) (hok : OK P w kf o) (hh : 0 ≤ h ∧ h ≤ 1000000000) :
    callL T27 51 [pv nn P, v, AV.int IntKind.i64 w, AV.int IntKind.i64 h, AV.int IntKind.i64 kf] m = some (layV (packS P w h kf o), m) := by
  have hlen := hok.len
  have hk := hok.k1
  have hw := hok.w1
  apply callL_body (vf := c51) rfl rfl
  simp [c51]
  refine wp_loop (fun n s => ∃ (i : Nat) (os : List LObj), n = o.length - i ∧ i ≤ o.length ∧ s.get 0 = pv nn P ∧ s.get 1 = v ∧ s.get 2 = AV.int IntKind.i64 w ∧ s.get 3 = AV.int IntKind.i64 h ∧ s.get 4 = AV.int IntKind.i64 kf ∧ s.get 10 = .ptr (.loc 10 0) 0 ∧ s.loc 10 = [.cells false [.vec none false [], .vec none false []]] ∧
      s.get 11 = .ptr (.loc 11 0) 0 ∧ s.loc 11 = [.cells false [ov 4 eL (packS P w h kf (o.take i)).pl, ov 1 eI (packS P w h kf (o.take i)).lf]] ∧
      s.get 12 = AV.int IntKind.i64 (packS P w h kf (o.take i)).num ∧ s.get 13 = AV.int IntKind.i64 (packS P w h kf (o.take i)).x ∧ s.get 14 = AV.int IntKind.i64 (packS P w h kf (o.take i)).y ∧ s.get 15 = AV.int IntKind.i64 (topR (packS P w h kf (o.take i))) ∧
      s.get 16 = AV.int IntKind.i64 i ∧ s.loc 17 = os ∧ s.mem = m) ?_ o.length _ ?_
  rotate_left
  · refine ⟨0, [], ?_⟩
    simp [packS, ini, ov, topR]
  rintro n s ⟨i, os, hn, hi, e0, e1, e2, e3, e4, e10, l10, e11, l11, e12, e13, e14, e15, e16, l17, hm⟩
  have hinv := inv_pack (h := h) hok i hi
  by_cases hlt : i < o.length
  · obtain ⟨a, ha, hla, hap, hav, han⟩ := hv.adr i hlt
    have hgo : o.getD i 0 = o[i] := by simp [List.getD, hlt]
    rw [hgo] at hla
    have hox := hok.ix _ (List.getElem_mem hlt)
    have hpm := gi_memP hox
    have hpw := hok.wd _ hpm
    have hph := hok.hg _ hpm
    have hst := packS_take (P := P) (w := w) (h := h) (kf := kf) hlt
    obtain ⟨a1, a2, a3, a4, a5, a6⟩ := hinv
    have hnx : ∃ n', n' < n ∧ ∃ i', n' = o.length - i' ∧ i' ≤ o.length ∧ i' = i + 1 := ⟨o.length - (i + 1), by omega, i + 1, rfl, by omega, rfl⟩
    obtain ⟨n', y1, i', y2, y3, y4⟩ := hnx
    rw [← y4] at hst
    have htop : ∀ j, (packS P w h kf (o.take j)).num < 0 → (packS P w h kf (o.take j)).top = -kf := by
      intro j
      induction j with
      | zero => intro _; simp [packS, ini]
      | succ j ih =>
        intro hneg
        by_cases hjl : j < o.length
        · rw [packS_take hjl] at hneg ⊢
          unfold stepP at hneg ⊢
          split at hneg
          · rename_i c; simp at hneg; omega
          · rename_i c
            rw [if_neg c]
            split at hneg
            · rename_i c3; rw [if_pos c3]; exact ih hneg
            · rename_i c3; rw [if_neg c3]; simp at hneg
              have := (inv_pack (h := h) hok j (by omega)).n1
              omega
        · rw [List.take_of_length_le (by omega)] at hneg ⊢
          rw [List.take_of_length_le (by omega)] at ih
          exact ih hneg
    have htp := htop i
    generalize packS P w h kf (o.take i) = S at *
    generalize o[i] = z at *
    have w1 : W64 ((i : Int) + 1) ((i' : Nat) : Int) := .mkI (by omega) (by omega) (by omega)
    have wx : W64 (S.x + (gi P z).w) (S.x + (gi P z).w) := .mkI rfl (by omega) (by omega)
    have wp1 : W64 ((gi P z).w + kf) ((gi P z).w + kf) := .mkI rfl (by omega) (by omega)
    have wp2 : W64 (S.x + (gi P z).w + kf) (S.x + ((gi P z).w + kf)) := .mkI (by omega) (by omega) (by omega)
    have wt : 0 ≤ S.num → W64 (S.top + kf) (S.top + kf) := fun _ => .mkI rfl (by omega) (by omega)
    have wt2 : W64 (S.top + kf + (gi P z).h) (S.top + kf + (gi P z).h) := .mkI rfl (by omega) (by omega)
    have wh : W64 (0 + (gi P z).h) ((gi P z).h) := .mkI (by omega) (by omega) (by omega)
    have wn : W64 (S.num + 1) (S.num + 1) := .mkI rfl (by omega) (by omega)
    unfold stepP at hst
    generalize hp : gi P z = p at *
    have fin : ∀ {pl : List Plc} {lf : List Int} (q : Plc), (packS P w h kf (o.take i')).pl = pl ++ [q] → (packS P w h kf (o.take i')).lf = lf → AV.vec (some 4) true (pl.map eL ++ [.agg (el q)]) = ov 4 eL (packS P w h kf (o.take i')).pl ∧ ov 1 eI lf = ov 1 eI (packS P w h kf (o.take i')).lf := fun q h1 h2 => ⟨by rw [h1]; exact ov_snoc (e := eL), by rw [h2]⟩
    have gz : gi P z = p := hp
    by_cases c1 : 0 ≤ S.num
    · have htr : topR S = S.top := if_pos c1
      by_cases c2 : S.x + p.w ≤ w
      · rw [if_pos ⟨c1, c2⟩] at hst
        simp [e0, e1, e2, e3, e4, e10, l10, e11, l11, e12, e13, e14, e15, e16, l17, hm, hv.view, hv.len, hlt, ha, hla, hap, hox, hp, c1, c2, wx.eq, wp2.eq, w1.eq]
        exact ⟨by omega, n', y1, i', y2, y3, fin ⟨z, S.x, S.y, S.num⟩ (by rw [hst]) (by rw [hst]), by rw [hst], by rw [hst], by rw [hst], by rw [hst]; simp [topR], rfl⟩
      rw [if_neg (fun c => c2 c.2)] at hst
      by_cases c3 : w < p.w
      · rw [if_pos (Or.inl c3)] at hst
        simp [e0, e1, e2, e3, e4, e10, l10, e11, l11, e12, e13, e14, e15, e16, l17, hm, hv.view, hv.len, hlt, ha, hla, hap, hox, hp, c1, c2, c3, htr, wx.eq, (wt c1).eq, w1.eq]
        exact ⟨by omega, n', y1, i', y2, y3, ⟨by rw [hst], by rw [hst]; exact ov_snoc (e := eI)⟩, by rw [hst], by rw [hst], by rw [hst], by rw [hst]; simp [topR, c1], rfl⟩
      by_cases c5 : h < S.top + kf + p.h
      · rw [if_pos (Or.inr ⟨hh.1, c5⟩)] at hst
        simp [e0, e1, e2, e3, e4, e10, l10, e11, l11, e12, e13, e14, e15, e16, l17, hm, hv.view, hv.len, hlt, ha, hla, hap, hox, hp, c1, c2, c3, c5, htr, wx.eq, (wt c1).eq, wt2.eq, w1.eq]
        exact ⟨by omega, n', y1, i', y2, y3, ⟨by rw [hst], by rw [hst]; exact ov_snoc (e := eI)⟩, by rw [hst], by rw [hst], by rw [hst], by rw [hst]; simp [topR, c1], rfl⟩
      rw [if_neg (by omega)] at hst
      have hn1 : 0 ≤ S.num + 1 := by omega
      simp [e0, e1, e2, e3, e4, e10, l10, e11, l11, e12, e13, e14, e15, e16, l17, hm, hv.view, hv.len, hlt, ha, hla, hap, hox, hp, c1, c2, c3, c5, htr, wx.eq, (wt c1).eq, wt2.eq, wn.eq, wp1.eq, w1.eq]
      exact ⟨by omega, n', y1, i', y2, y3, fin ⟨z, 0, S.top + kf, S.num + 1⟩ (by rw [hst]) (by rw [hst]), by rw [hst], by rw [hst], by rw [hst], by rw [hst]; simp [topR, hn1], rfl⟩
    · have htr : topR S = 0 := if_neg c1
      have hS1 : S.num = -1 := by omega
      have htk := htp (by omega)
      have e0t : S.top + kf = 0 := by omega
      rw [if_neg (fun c => c1 c.1)] at hst
      rw [e0t] at hst wt2
      by_cases c3 : w < p.w
      · rw [if_pos (Or.inl c3)] at hst
        simp [e0, e1, e2, e3, e4, e10, l10, e11, l11, e12, e13, e14, e15, e16, l17, hm, hv.view, hv.len, hlt, ha, hla, hap, hox, hp, c1, c3, htr, w1.eq]
        exact ⟨by omega, n', y1, i', y2, y3, ⟨by rw [hst], by rw [hst]; exact ov_snoc (e := eI)⟩, by rw [hst], by rw [hst], by rw [hst], by rw [hst]; simp [topR, c1], rfl⟩
      simp only [Int.zero_add] at wh hst wt2
      by_cases c5 : h < p.h
      · rw [if_pos (Or.inr ⟨hh.1, c5⟩)] at hst
        simp [e0, e1, e2, e3, e4, e10, l10, e11, l11, e12, e13, e14, e15, e16, l17, hm, hv.view, hv.len, hlt, ha, hla, hap, hox, hp, c1, c3, c5, htr, wh.eq, w1.eq]
        exact ⟨by omega, n', y1, i', y2, y3, ⟨by rw [hst], by rw [hst]; exact ov_snoc (e := eI)⟩, by rw [hst], by rw [hst], by rw [hst], by rw [hst]; simp [topR, c1], rfl⟩
      rw [if_neg (by omega)] at hst
      have hn1 : 0 ≤ S.num + 1 := by omega
      simp [e0, e1, e2, e3, e4, e10, l10, e11, l11, e12, e13, e14, e15, e16, l17, hm, hv.view, hv.len, hlt, ha, hla, hap, hox, hp, c1, c3, c5, htr, wh.eq, wn.eq, wp1.eq, w1.eq]
      exact ⟨by omega, n', y1, i', y2, y3, fin ⟨z, 0, 0, S.num + 1⟩ (by rw [hst]) (by rw [hst]), by rw [hst], by rw [hst], by rw [hst], by rw [hst]; simp [topR, hn1], rfl⟩
  · have : i = o.length := by omega
    subst this
    rw [List.take_length] at l11
    simp [e1, e16, hv.view, hv.len, e10, l10, e11, l11, hm, layV]
end Go.Vm.Ch27
