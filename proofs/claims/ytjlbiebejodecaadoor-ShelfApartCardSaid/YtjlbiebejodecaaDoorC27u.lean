/- Chapter 27: what its functions compute. -/
import Derived.Test.YtjlbiebejodecaaDoorC27t
namespace Go.Vm.Ch27
open _root_.Ch27 (T27 c9)
set_option maxRecDepth 10000
set_option maxHeartbeats 8000000
theorem law9 (P : List Prt) (nn : Bool) (w h kf : Int) (hlen : (P.length : Int) ≤ 9223372036854775807) : ∃ m, callL T27 9 [pv nn P, AV.int IntKind.i64 w, AV.int IntKind.i64 h, AV.int IntKind.i64 kf] [] = some (.bool true, m) := by
  obtain ⟨m0, haw⟩ := awake
  have h13 := q13' P nn 40 hlen []
  by_cases hs : (P.length : Int) ≤ 40 ∧ ∀ b ∈ P, b.name.length ≤ 60
  rotate_left
  · refine ⟨m0, ?_⟩
    rw [decide_eq_false hs] at h13
    apply callL_body (vf := c9) rfl rfl
    simp [c9, haw, h13]
  have hsm := sml_of (n := 40) (by omega) hs
  have hl := hsm.len
  rw [decide_eq_true hs] at h13
  have h15 := q15 P nn (by omega) []
  have h20 := q20 P true w h kf hsm m0
  by_cases hc : chk P w h kf = 0
  rotate_left
  · rw [if_neg hc] at h20
    refine ⟨m0, ?_⟩
    apply callL_body (vf := c9) rfl rfl
    simp [c9, haw, h13, h15, h20, hc]
  rw [if_pos hc] at h20
  obtain ⟨g1, g2, g3, g4, g5⟩ := chk_inv hc
  have hok := ok_of_chk hc
  have hon := pack_on (h := h) hok (ord_sorted P) (by omega)
  have hpw := (pack_ch (h := h) hok (ord_sorted P) (by omega)).pw
  have hval := pack_valid hc
  have hpl := pack_len (h := h) hok
  have hol := ord_len P
  generalize packS P w h kf (ord P) = S at *
  obtain ⟨m1, h24⟩ := q24 P true (!S.pl.isEmpty) (!S.lf.isEmpty) w h kf S.pl S.lf hsm (by omega) (by omega) (ordM P m0)
  rw [hval] at h24
  have hsep : ∀ (i k : Nat) (hi : i < S.pl.length) (hk : k < i), sep P kf (S.pl[k]'(by omega)) S.pl[i] := fun i k hi hk => List.pairwise_iff_getElem.1 hpw k i (by omega) hi hk
  simp only [layV] at h20
  refine ⟨m1, ?_⟩
  apply callL_body (vf := c9) rfl rfl
  simp [c9, haw, h13, h15, h20, h24]
  refine wp_loop (fun n s => ∃ (i : Nat) (o13 o14 o15 o16 : List LObj), n = S.pl.length - i ∧ i ≤ S.pl.length ∧ s.get 0 = pv nn P ∧ s.get 3 = AV.int IntKind.i64 kf ∧ s.get 9 = .ptr (.loc 9 0) 0 ∧ s.loc 9 = [.cells false [ovn eL S.pl, ovn eI S.lf]] ∧ s.get 11 = AV.int IntKind.i64 i ∧ s.loc 13 = o13 ∧ s.loc 14 = o14 ∧ s.loc 15 = o15 ∧ s.loc 16 = o16 ∧ s.mem = m1) ?_ S.pl.length _ ?_
  rotate_left
  · exact ⟨0, [], [], [], [], by simp⟩
  rintro n s ⟨i, o13, o14, o15, o16, hn, hi, e0, e3, e9, l9, e11, l13, l14, l15, l16, hm⟩
  by_cases hlt : i < S.pl.length
  rotate_left
  · simp [e9, l9, e11, hm, hlt]
  have w1 : W64 ((i : Int) + 1) ((i + 1 : Nat) : Int) := .mkI (by omega) (by omega) (by omega)
  have hnx : ∃ n', n' < n ∧ n' = S.pl.length - (i + 1) := ⟨_, by omega, rfl⟩
  obtain ⟨n', y1, y2⟩ := hnx
  simp [e9, l9, e11, hm, hlt]
  refine wp_loop (fun n s => ∃ (k : Nat) (o13 o14 o15 o16 : List LObj), n = i - k ∧ k ≤ i ∧ s.get 0 = pv nn P ∧ s.get 3 = AV.int IntKind.i64 kf ∧ s.get 9 = .ptr (.loc 9 0) 0 ∧ s.loc 9 = [.cells false [ovn eL S.pl, ovn eI S.lf]] ∧ s.get 11 = AV.int IntKind.i64 i ∧ s.get 12 = AV.int IntKind.i64 k ∧ s.loc 13 = o13 ∧ s.loc 14 = o14 ∧ s.loc 15 = o15 ∧ s.loc 16 = o16 ∧ s.mem = m1) ?_ i _ ?_
  rotate_left
  · exact ⟨0, o13, o14, o15, o16, by simp [e0, e3, e9, l9, e11, l13, l14, l15, l16, hm]⟩
  clear e0 e3 e9 l9 e11 l13 l14 l15 l16 hm hn
  rintro n2 s ⟨k, o13, o14, o15, o16, hn, hki, e0, e3, e9, l9, e11, e12, l13, l14, l15, l16, hm⟩
  by_cases hk : k < i
  rotate_left
  · simp [e0, e3, e9, l9, e11, e12, l13, l14, l15, l16, hm, hk, w1.eq, -Int.natCast_add]
    exact ⟨n', y1, i + 1, y2, by omega, rfl⟩
  have hkl : k < S.pl.length := by omega
  have hse := hsep i k hlt hk
  have ga := gi_nat hlt
  have gb := gi_nat hkl
  have oa := hon _ (List.getElem_mem hlt)
  have ob := hon _ (List.getElem_mem hkl)
  have pa := g2 _ (gi_memP oa.p)
  have pb := g2 _ (gi_memP ob.p)
  generalize S.pl[i] = a at *
  generalize S.pl[k] = b at *
  unfold sep at hse
  have oax := oa.x
  have oay := oa.y
  have obx := ob.x
  have oby := ob.y
  have oap := oa.p
  have obp := ob.p
  have na : ¬ a.part < 0 := by omega
  have nb : ¬ b.part < 0 := by omega
  generalize hxa : gi P a.part = xa at *
  generalize hxb : gi P b.part = xb at *
  have wk : W64 ((k : Int) + 1) ((k + 1 : Nat) : Int) := .mkI (by omega) (by omega) (by omega)
  have v1 : W64 (b.x + xb.w) (b.x + xb.w) := .mkI rfl (by omega) (by omega)
  have v2 : W64 (b.x + xb.w + kf) (b.x + xb.w + kf) := .mkI rfl (by omega) (by omega)
  have v3 : W64 (a.x + xa.w) (a.x + xa.w) := .mkI rfl (by omega) (by omega)
  have v4 : W64 (a.x + xa.w + kf) (a.x + xa.w + kf) := .mkI rfl (by omega) (by omega)
  have v5 : W64 (b.y + xb.h) (b.y + xb.h) := .mkI rfl (by omega) (by omega)
  have v6 : W64 (b.y + xb.h + kf) (b.y + xb.h + kf) := .mkI rfl (by omega) (by omega)
  have hny : ∃ n', n' < n2 ∧ n' = i - (k + 1) := ⟨_, by omega, rfl⟩
  obtain ⟨n3, z1, z2⟩ := hny
  by_cases c1 : a.x < b.x + xb.w + kf
  rotate_left
  · simp [e0, e3, e9, l9, e11, e12, l13, l14, l15, l16, hm, hk, hlt, hkl, ga, gb, oap, obp, na, nb, hxa, hxb, c1, v1.eq, v2.eq, wk.eq, -Int.natCast_add]
    exact ⟨n3, z1, k + 1, z2, by omega, rfl⟩
  by_cases c2 : b.x < a.x + xa.w + kf
  rotate_left
  · simp [e0, e3, e9, l9, e11, e12, l13, l14, l15, l16, hm, hk, hlt, hkl, ga, gb, oap, obp, na, nb, hxa, hxb, c1, c2, v1.eq, v2.eq, v3.eq, v4.eq, wk.eq, -Int.natCast_add]
    exact ⟨n3, z1, k + 1, z2, by omega, rfl⟩
  have c3 : ¬ a.y < b.y + xb.h + kf := by omega
  simp [e0, e3, e9, l9, e11, e12, l13, l14, l15, l16, hm, hk, hlt, hkl, ga, gb, oap, obp, na, nb, hxa, hxb, c1, c2, c3, v1.eq, v2.eq, v3.eq, v4.eq, v5.eq, v6.eq, wk.eq, -Int.natCast_add]
  exact ⟨n3, z1, k + 1, z2, by omega, rfl⟩
end Go.Vm.Ch27
