/- Chapter 27: what its functions compute. -/
import Derived.Test.YtjlbiebejodecaaDoorC27g
import Derived.Test.YtjlbiebejodecaaDoorVJ
namespace Go.Vm.Ch27
open _root_.Ch27 (T27 c50 c51)
set_option maxRecDepth 10000
set_option maxHeartbeats 8000000
/-- The state of the rule. -/
structure PS where
  num : Int
  y : Int
  top : Int
  x : Int
  pl : List Plc
  lf : List Int
  deriving Inhabited
def ini (kf : Int) : PS := ⟨-1, 0, -kf, 0, [], []⟩
/-- One part; a negative height is no limit. -/
def stepP (P : List Prt) (w h kf : Int) (s : PS) (i : Int) : PS :=
  if 0 ≤ s.num ∧ s.x + (gi P i).w ≤ w then { s with x := s.x + ((gi P i).w + kf), pl := s.pl ++ [⟨i, s.x, s.y, s.num⟩] }
  else if w < (gi P i).w ∨ (0 ≤ h ∧ h < s.top + kf + (gi P i).h) then { s with lf := s.lf ++ [i] }
  else ⟨s.num + 1, s.top + kf, s.top + kf + (gi P i).h, (gi P i).w + kf, s.pl ++ [⟨i, 0, s.top + kf, s.num + 1⟩], s.lf⟩
def packS (P : List Prt) (w h kf : Int) (o : List Int) : PS := o.foldl (stepP P w h kf) (ini kf)
abbrev eL : Plc → AV := fun p => .agg (el p)
abbrev eI : Int → AV := AV.int .i64
def layV (s : PS) : AV := .agg [ovn eL s.pl, ovn eI s.lf]
structure OK (P : List Prt) (w kf : Int) (o : List Int) : Prop where
  wd : ∀ p ∈ P, 1 ≤ p.w ∧ p.w ≤ 1000000
  hg : ∀ p ∈ P, 1 ≤ p.h ∧ p.h ≤ 1000000
  w1 : 1 ≤ w ∧ w ≤ 1000000
  k1 : 0 ≤ kf ∧ kf ≤ 1000
  len : o.length ≤ 80
  ix : ∀ i ∈ o, 0 ≤ i ∧ i < P.length
/-- What is known of the state behind n parts. -/
structure InvP (kf w : Int) (n : Nat) (s : PS) : Prop where
  n1 : -1 ≤ s.num ∧ s.num < n
  t1 : -kf ≤ s.top ∧ s.top ≤ 1001000 * n
  x1 : 0 ≤ s.x ∧ s.x ≤ 1001000
  y1 : 0 ≤ s.y ∧ s.y ≤ 1001000 * n
  pl : s.pl.length ≤ n
  lf : s.lf.length ≤ n
theorem inv_ini {kf w : Int} (h : 0 ≤ kf ∧ kf ≤ 1000) : InvP kf w 0 (ini kf) := ⟨by simp [ini], by simp [ini]; omega, by simp [ini], by simp [ini], by simp [ini], by simp [ini]⟩
theorem inv_step {P : List Prt} {w h kf : Int} {n : Nat} {s : PS} {i : Int} (hp : 1 ≤ (gi P i).w ∧ 1 ≤ (gi P i).h ∧ (gi P i).h ≤ 1000000) (hw : w ≤ 1000000) (hk : 0 ≤ kf ∧ kf ≤ 1000) (hi : InvP kf w n s) : InvP kf w (n + 1) (stepP P w h kf s i) := by
  obtain ⟨a1, a2, a3, a4, a5, a6⟩ := hi
  unfold stepP
  split
  · exact ⟨by simp; omega, by simp; omega, by simp; omega, by simp; omega, by simp; omega, by simp; omega⟩
  · split
    · exact ⟨by simp; omega, by simp; omega, by simp; omega, by simp; omega, by simp; omega, by simp; omega⟩
    · exact ⟨by simp; omega, by simp; omega, by simp; omega, by simp; omega, by simp; omega, by simp; omega⟩
theorem packS_take {P : List Prt} {w h kf : Int} {o : List Int} {i : Nat} (hi : i < o.length) : packS P w h kf (o.take (i + 1)) = stepP P w h kf (packS P w h kf (o.take i)) o[i] := by
  unfold packS
  rw [List.take_succ_eq_append_getElem hi, List.foldl_append]; rfl
theorem gi_memP {P : List Prt} {i : Int} (h : 0 ≤ i ∧ i < P.length) : gi P i ∈ P := gi_mem h.1 h.2
theorem inv_pack {P : List Prt} {w h kf : Int} {o : List Int} (hok : OK P w kf o) : ∀ i, i ≤ o.length → InvP kf w i (packS P w h kf (o.take i))
  | 0, _ => by simp [packS]; exact inv_ini hok.k1
  | i + 1, hi => by
    rw [packS_take (by omega)]
    have hm := gi_memP (hok.ix _ (List.getElem_mem (show i < o.length by omega)))
    exact inv_step ⟨(hok.wd _ hm).1, hok.hg _ hm⟩ hok.w1.2 hok.k1 (inv_pack hok i (by omega))
theorem q50 (P : List Prt) (nn : Bool) (w h kf : Int) (o : List Int) (v : AV) (m : Mem) (hv : IntSl v m o) (hok : OK P w kf o) (hh : -1 ≤ h ∧ h ≤ 1000000) :
    callL T27 50 [pv nn P, v, AV.int IntKind.i64 w, AV.int IntKind.i64 h, AV.int IntKind.i64 kf] m = some (.tup [layV (packS P w h kf o), AV.int IntKind.i64 (max 0 (packS P w h kf o).top)], m) := by
  have hlen := hok.len
  have hk := hok.k1
  have hw := hok.w1
  have wk : W64 (-kf) (-kf) := .mkI (by omega) (by omega) (by omega)
  apply callL_body (vf := c50) rfl rfl
  simp [c50, hv.view, hv.len, wk.eq]
  refine wp_loop (fun n s => ∃ (i : Nat) (os : List LObj), n = o.length - i ∧ i ≤ o.length ∧ s.get 0 = pv nn P ∧ s.get 2 = AV.int IntKind.i64 w ∧ s.get 3 = AV.int IntKind.i64 h ∧ s.get 4 = AV.int IntKind.i64 kf ∧ s.get 10 = .ptr (.loc 10 0) 0 ∧ s.loc 10 = [.cells false [.vec none false [], .vec none false []]] ∧
      s.get 12 = .ptr (.loc 12 0) 0 ∧ s.loc 12 = [.cells false [ov 4 eL (packS P w h kf (o.take i)).pl, ov 1 eI (packS P w h kf (o.take i)).lf]] ∧
      s.get 13 = .ptr (.loc 13 0) 0 ∧ s.loc 13 = [.cells false [AV.int IntKind.i64 (packS P w h kf (o.take i)).num, AV.int IntKind.i64 (packS P w h kf (o.take i)).y, AV.int IntKind.i64 (packS P w h kf (o.take i)).top, AV.int IntKind.i64 (packS P w h kf (o.take i)).x]] ∧
      s.get 21 = v ∧ s.get 22 = AV.int IntKind.i64 o.length ∧ s.get 23 = AV.int IntKind.i64 i ∧ s.loc 16 = os ∧ s.mem = m) ?_ o.length _ ?_
  rotate_left
  · refine ⟨0, [], ?_⟩
    simp [packS, ini, ov]
  rintro n s ⟨i, os, hn, hi, e0, e2, e3, e4, e10, l10, e12, l12, e13, l13, e21, e22, e23, l16, hm⟩
  have hinv := inv_pack (h := h) hok i hi
  by_cases hlt : i < o.length
  · obtain ⟨a, ha, hla, hap, hav, han⟩ := hv.adr i hlt
    have hgo : o.getD i 0 = o[i] := by simp [List.getD, hlt]
    rw [hgo] at hla
    have hox := hok.ix _ (List.getElem_mem hlt)
    have hpm := gi_memP hox
    have hpw := hok.wd _ hpm
    have hph := hok.hg _ hpm
    have hst := packS_take (P := P) (w := w) (h := h) (kf := kf) hlt
    obtain ⟨a1, a2, a3, a4, a5, a6⟩ := hinv
    have hnx : ∃ n', n' < n ∧ ∃ i', n' = o.length - i' ∧ i' ≤ o.length ∧ i' = i + 1 := ⟨o.length - (i + 1), by omega, i + 1, rfl, by omega, rfl⟩
    obtain ⟨n', y1, i', y2, y3, y4⟩ := hnx
    rw [← y4] at hst
    generalize packS P w h kf (o.take i) = S at *
    generalize o[i] = z at *
    have w1 : W64 ((i : Int) + 1) ((i' : Nat) : Int) := .mkI (by omega) (by omega) (by omega)
    have wx : W64 (S.x + (gi P z).w) (S.x + (gi P z).w) := .mkI rfl (by omega) (by omega)
    have wp1 : W64 ((gi P z).w + kf) ((gi P z).w + kf) := .mkI rfl (by omega) (by omega)
    have wp2 : W64 (S.x + ((gi P z).w + kf)) (S.x + ((gi P z).w + kf)) := .mkI rfl (by omega) (by omega)
    have wt : W64 (S.top + kf) (S.top + kf) := .mkI rfl (by omega) (by omega)
    have wt2 : W64 (S.top + kf + (gi P z).h) (S.top + kf + (gi P z).h) := .mkI rfl (by omega) (by omega)
    have wn : W64 (S.num + 1) (S.num + 1) := .mkI rfl (by omega) (by omega)
    unfold stepP at hst
    generalize hp : gi P z = p at *
    have fin : ∀ {pl : List Plc} {lf : List Int} (q : Plc), (packS P w h kf (o.take i')).pl = pl ++ [q] → (packS P w h kf (o.take i')).lf = lf → AV.vec (some 4) true (pl.map eL ++ [.agg (el q)]) = ov 4 eL (packS P w h kf (o.take i')).pl ∧ ov 1 eI lf = ov 1 eI (packS P w h kf (o.take i')).lf := fun q h1 h2 => ⟨by rw [h1]; exact ov_snoc (e := eL), by rw [h2]⟩
    by_cases c12 : 0 ≤ S.num ∧ S.x + p.w ≤ w
    · rw [if_pos c12] at hst
      obtain ⟨c1, c2⟩ := c12
      simp [e0, e2, e3, e4, e10, l10, e12, l12, e13, l13, e21, e22, e23, l16, hm, hlt, ha, hla, hox, hp, c1, c2, wx.eq, wp1.eq, wp2.eq, w1.eq]
      exact ⟨by omega, n', y1, i', y2, y3, fin ⟨z, S.x, S.y, S.num⟩ (by rw [hst]) (by rw [hst]), by rw [hst]; exact ⟨rfl, rfl, rfl, rfl⟩, rfl⟩
    rw [if_neg c12] at hst
    by_cases c3 : w < p.w
    · rw [if_pos (Or.inl c3)] at hst
      by_cases c1 : 0 ≤ S.num
      · have c2 : ¬ S.x + p.w ≤ w := fun c2 => c12 ⟨c1, c2⟩
        simp [e0, e2, e3, e4, e10, l10, e12, l12, e13, l13, e21, e22, e23, l16, hm, hlt, ha, hla, hox, hp, c1, c2, c3, wx.eq, wt.eq, w1.eq]
        exact ⟨by omega, n', y1, i', y2, y3, ⟨by rw [hst], by rw [hst]; exact ov_snoc (e := eI)⟩, by rw [hst]; exact ⟨rfl, rfl, rfl, rfl⟩, rfl⟩
      · simp [e0, e2, e3, e4, e10, l10, e12, l12, e13, l13, e21, e22, e23, l16, hm, hlt, ha, hla, hox, hp, c1, c3, wt.eq, w1.eq]
        exact ⟨by omega, n', y1, i', y2, y3, ⟨by rw [hst], by rw [hst]; exact ov_snoc (e := eI)⟩, by rw [hst]; exact ⟨rfl, rfl, rfl, rfl⟩, rfl⟩
    by_cases c4 : 0 ≤ h
    · by_cases c5 : h < S.top + kf + p.h
      · rw [if_pos (Or.inr ⟨c4, c5⟩)] at hst
        by_cases c1 : 0 ≤ S.num
        · have c2 : ¬ S.x + p.w ≤ w := fun c2 => c12 ⟨c1, c2⟩
          simp [e0, e2, e3, e4, e10, l10, e12, l12, e13, l13, e21, e22, e23, l16, hm, hlt, ha, hla, hox, hp, c1, c2, c3, c4, c5, wx.eq, wt.eq, wt2.eq, w1.eq]
          exact ⟨by omega, n', y1, i', y2, y3, ⟨by rw [hst], by rw [hst]; exact ov_snoc (e := eI)⟩, by rw [hst]; exact ⟨rfl, rfl, rfl, rfl⟩, rfl⟩
        · simp [e0, e2, e3, e4, e10, l10, e12, l12, e13, l13, e21, e22, e23, l16, hm, hlt, ha, hla, hox, hp, c1, c3, c4, c5, wt.eq, wt2.eq, w1.eq]
          exact ⟨by omega, n', y1, i', y2, y3, ⟨by rw [hst], by rw [hst]; exact ov_snoc (e := eI)⟩, by rw [hst]; exact ⟨rfl, rfl, rfl, rfl⟩, rfl⟩
      · rw [if_neg (by omega)] at hst
        by_cases c1 : 0 ≤ S.num
        · have c2 : ¬ S.x + p.w ≤ w := fun c2 => c12 ⟨c1, c2⟩
          simp [e0, e2, e3, e4, e10, l10, e12, l12, e13, l13, e21, e22, e23, l16, hm, hlt, ha, hla, hox, hp, c1, c2, c3, c4, c5, wx.eq, wt.eq, wt2.eq, wn.eq, wp1.eq, w1.eq]
          exact ⟨by omega, n', y1, i', y2, y3, fin ⟨z, 0, S.top + kf, S.num + 1⟩ (by rw [hst]) (by rw [hst]), by rw [hst]; exact ⟨rfl, rfl, rfl, rfl⟩, rfl⟩
        · simp [e0, e2, e3, e4, e10, l10, e12, l12, e13, l13, e21, e22, e23, l16, hm, hlt, ha, hla, hox, hp, c1, c3, c4, c5, wt.eq, wt2.eq, wn.eq, wp1.eq, w1.eq]
          exact ⟨by omega, n', y1, i', y2, y3, fin ⟨z, 0, S.top + kf, S.num + 1⟩ (by rw [hst]) (by rw [hst]), by rw [hst]; exact ⟨rfl, rfl, rfl, rfl⟩, rfl⟩
    · rw [if_neg (by omega)] at hst
      by_cases c1 : 0 ≤ S.num
      · have c2 : ¬ S.x + p.w ≤ w := fun c2 => c12 ⟨c1, c2⟩
        simp [e0, e2, e3, e4, e10, l10, e12, l12, e13, l13, e21, e22, e23, l16, hm, hlt, ha, hla, hox, hp, c1, c2, c3, c4, wx.eq, wt.eq, wt2.eq, wn.eq, wp1.eq, w1.eq]
        exact ⟨by omega, n', y1, i', y2, y3, fin ⟨z, 0, S.top + kf, S.num + 1⟩ (by rw [hst]) (by rw [hst]), by rw [hst]; exact ⟨rfl, rfl, rfl, rfl⟩, rfl⟩
      · simp [e0, e2, e3, e4, e10, l10, e12, l12, e13, l13, e21, e22, e23, l16, hm, hlt, ha, hla, hox, hp, c1, c3, c4, wt.eq, wt2.eq, wn.eq, wp1.eq, w1.eq]
        exact ⟨by omega, n', y1, i', y2, y3, fin ⟨z, 0, S.top + kf, S.num + 1⟩ (by rw [hst]) (by rw [hst]), by rw [hst]; exact ⟨rfl, rfl, rfl, rfl⟩, rfl⟩
  · have : i = o.length := by omega
    subst this
    rw [List.take_length] at l12 l13 hinv
    simp [e10, l10, e12, l12, e13, l13, e21, e22, e23, hm, layV]
    omega
end Go.Vm.Ch27
