/- Chapter 27: what its functions compute. -/
import Derived.Test.YtjlbiebejodecaaDoorC27rb
import Derived.Test.YtjlbiebejodecaaDoorC27rc
namespace Go.Vm.Ch27
open _root_.Ch27 (T27 c26 c56)
set_option maxRecDepth 10000
set_option maxHeartbeats 8000000
theorem loop26 {P : List Prt} {nn a b : Bool} {w h kf : Int} {pl : List Plc} {lf : List Int} {s : St} {V : Bool} (hc : C24 P w h kf pl) (hs : S26 P nn a b w h kf pl lf 0 0 s) (hv : V = chB P w h kf none pl) {Q : VExit → St → Prop}
    (hR : V = false → ∀ s', s'.get 10 = .bool false → s'.mem = s.mem → Q .ret s') (hE : V = true → ∀ s', s'.mem = s.mem → Q (.exit 2) s') : wp T27 (.loop b26) s Q := by
  generalize hM : s.mem = M at *
  refine wp_loop (fun n s => ∃ (i : Nat) (tall : Int), n = pl.length - i ∧ i ≤ pl.length ∧ StR P w h kf pl V i tall ∧ S26 P nn a b w h kf pl lf i tall s ∧ s.mem = M) ?_ pl.length _ ?_
  rotate_left
  · exact ⟨0, 0, by simp, by simp, .inl ⟨rfl, hv⟩, hs, hM⟩
  rintro n s ⟨i, tall, hn, hi, hst, hs, hm⟩
  by_cases hlt : i < pl.length
  rotate_left
  · have hVt : V = true := by
      rcases hst with ⟨h0, hv⟩ | ⟨j, q, hj, hq, ho, t1, t2, hv⟩
      · have : pl = [] := List.length_eq_zero_iff.1 (by omega)
        rw [hv, this]; rfl
      · rw [hv, List.drop_of_length_le (by omega)]; rfl
    obtain ⟨e0, e1, e2, e3, e9, l9, e14, e15⟩ := hs
    simp [b26, e9, l9, e15, hlt]
    exact hE hVt _ (by simp [hm])
  have hN : ∀ s' tall', StR P w h kf pl V (i + 1) tall' → S26 P nn a b w h kf pl lf (i + 1) tall' s' → s'.mem = s.mem → ∃ n', n' < n ∧ ∃ (i : Nat) (tall : Int), n' = pl.length - i ∧ i ≤ pl.length ∧ StR P w h kf pl V i tall ∧ S26 P nn a b w h kf pl lf i tall s' ∧ s'.mem = M := fun s' tall' h1 h2 h3 =>
    ⟨pl.length - (i + 1), by omega, i + 1, tall', rfl, by omega, h1, h2, by rw [h3, hm]⟩
  have hR' : V = false → ∀ s', s'.get 10 = .bool false → s'.mem = s.mem → Q .ret s' := fun h1 s' h2 h3 => hR h1 s' h2 (by rw [h3, hm])
  cases hon : onB P w h pl[i]
  · have hVf : V = false := by
      have hdr : pl.drop i = pl[i] :: pl.drop (i + 1) := by simp
      rcases hst with ⟨h0, hv⟩ | ⟨j, q, hj, hq, hoq, t1, t2, hv⟩
      · have e : pl = pl[i] :: pl.drop (i + 1) := by rw [← hdr, h0, List.drop_zero]
        rw [hv, e, chB]
        have e2 : onB P w h pl[i] = false := hon
        simp [e2]
      · rw [hv, hdr, chB, hon]; rfl
    exact r26_off hc hs hlt hon (hR' hVf)
  · rcases hst with ⟨h0, hv⟩ | ⟨j, q, hj, hq, hoq, t1, t2, hv⟩
    · exact r26_zero hc hs hlt hon h0 hv hR' hN
    · by_cases k5 : pl[i].sh = q.sh
      · exact r26_same hc hs hlt hon hj hq hoq t1 t2 hv hR' hN k5
      · exact r26_next hc hs hlt hon hj hq hoq t1 t2 hv hR' hN k5
theorem q26 (P : List Prt) (nn a b : Bool) (w h kf : Int) (pl : List Plc) (lf : List Int) (hl : P.length ≤ 80) (hg : Good P) (hw : 1 ≤ w ∧ w ≤ 1000000) (hh : 1 ≤ h ∧ h ≤ 1000000) (hk : 0 ≤ kf ∧ kf ≤ 1000) (hl1 : pl.length ≤ 1000000) (hl2 : lf.length ≤ 1000000) (m : Mem) :
    callL T27 26 [pv nn P, AV.int IntKind.i64 w, AV.int IntKind.i64 h, AV.int IntKind.i64 kf, lay a b pl lf] m = some (.bool (useB P.length [] (ksL pl lf) && fullB (ksL pl lf) P.length && chB P w h kf none pl), m) := by
  have hkl : (ksL pl lf).length = pl.length + lf.length := by simp [ksL]
  have hV : ∃ V, V = (useB P.length [] (ksL pl lf) && fullB (ksL pl lf) P.length && chB P w h kf none pl) := ⟨_, rfl⟩
  obtain ⟨V, hV⟩ := hV
  rw [← hV]
  apply callL_body (vf := c26) rfl rfl
  have wl : W64 ((pl.length : Int) + lf.length) ((pl.length + lf.length : Nat) : Int) := .mkI (by omega) (by omega) (by omega)
  by_cases hlen : pl.length + lf.length = P.length
  rotate_left
  · have hVf : V = false := by
      rw [hV]
      cases hu : useB P.length [] (ksL pl lf)
      · rfl
      · rw [full_iff hu, hkl, decide_eq_false hlen]; rfl
    have hne : ¬ ((pl.length + lf.length : Nat) : Int) = P.length := by omega
    simp [c26, wl.eq, hne, hVf, -Int.natCast_add]
  have hne : ((pl.length + lf.length : Nat) : Int) = P.length := by omega
  have hV2 : V = (useB P.length [] (ksL pl lf) && chB P w h kf none pl) := by
    rw [hV]
    cases hu : useB P.length [] (ksL pl lf)
    · rfl
    · rw [full_iff hu, hkl, decide_eq_true hlen]; rfl
  clear hV
  have hnP : (P.length : Int) = (ksL pl lf).length := by omega
  simp [c26, wl.eq, hne, seen_zero, -Int.natCast_add]
  refine ⟨by omega, ?_⟩
  refine wp_loop (fun n s => ∃ (i : Nat), n = P.length - i ∧ i ≤ P.length ∧ useB P.length [] ((ksL pl lf).take i) = true ∧ s.get 0 = pv nn P ∧ s.get 1 = AV.int IntKind.i64 w ∧ s.get 2 = AV.int IntKind.i64 h ∧ s.get 3 = AV.int IntKind.i64 kf ∧ s.get 9 = .ptr (.loc 9 0) 0 ∧ s.loc 9 = [.cells false [lv a pl, iv b lf]] ∧
      s.get 11 = .row (.loc 30 0) 0 P.length ∧ s.loc 30 = [.cells false (seenB ((ksL pl lf).take i) P.length)] ∧ s.get 12 = AV.int IntKind.i64 i ∧ s.loc 16 = [] ∧ s.loc 17 = [] ∧ s.mem = m) ?_ P.length _ ?_
  rotate_left
  · exact ⟨0, by simp [useB]⟩
  rintro n s ⟨i, hn, hi, hu, e0, e1, e2, e3, e9, l9, e11, l30, e12, l16, l17, hm⟩
  by_cases hlt : i < P.length
  · have hik : i < (ksL pl lf).length := by omega
    have htk : (ksL pl lf).take (i + 1) = (ksL pl lf).take i ++ [(ksL pl lf)[i]] := List.take_succ_eq_append_getElem hik
    have hu2 : useB P.length [] ((ksL pl lf).take (i + 1)) = newB ((ksL pl lf).take i) P.length (ksL pl lf)[i] := by
      rw [htk, use_app, hu]; simp [useB]
    have hVu : useB P.length [] ((ksL pl lf).take (i + 1)) = false → V = false := fun hf => by
      have e : ksL pl lf = (ksL pl lf).take (i + 1) ++ (ksL pl lf).drop (i + 1) := (List.take_append_drop _ _).symm
      rw [hV2, e, use_app, hf]; rfl
    have w1 : W64 ((i : Int) + 1) ((i + 1 : Nat) : Int) := .mkI (by omega) (by omega) (by omega)
    have hnx : ∃ n', n' < n ∧ n' = P.length - (i + 1) := ⟨_, by omega, rfl⟩
    obtain ⟨n', y1, y2⟩ := hnx
    have hsl := seen_len ((ksL pl lf).take i) P.length
    have hA : (∃ hkp : i < pl.length, gi pl (i : Int) = pl[i] ∧ pl[i].part = (ksL pl lf)[i]) ∨ (¬ i < pl.length ∧ ∃ d : Nat, W64 ((i : Int) - pl.length) (d : Int) ∧ d < lf.length ∧ gi lf (d : Int) = (ksL pl lf)[i]) := by
      by_cases hkp : i < pl.length
      · refine .inl ⟨hkp, gi_nat hkp, ?_⟩
        simp [ksL, hkp]
      · have hd : i - pl.length < lf.length := by omega
        refine .inr ⟨hkp, i - pl.length, .mkI (by omega) (by omega) (by omega), hd, ?_⟩
        rw [gi_nat hd]
        simp only [ksL]
        rw [List.getElem_append_right (by simp; omega)]
        simp
    generalize hkk : (ksL pl lf)[i] = k at *
    generalize hTK : (ksL pl lf).take i = TK at *
    have hnewcase : newB TK P.length k = true → (0 ≤ k ∧ k < P.length) ∧ has TK k = false := fun hB => by
      unfold newB at hB; simpa using hB
    rcases hA with ⟨hkp, hgp, hpk⟩ | ⟨hkp, d, hd1, hd2, hd3⟩
    · generalize pl[i] = q at *
      subst hpk
      cases hB : newB TK P.length q.part
      · rw [hB] at hu2
        have hVf := hVu hu2
        by_cases k1 : q.part < 0
        · simp [e0, e1, e2, e3, e9, l9, e11, l30, e12, hm, hlt, hkp, hgp, k1, hVf]
        by_cases k2 : (P.length : Int) ≤ q.part
        · simp [e0, e1, e2, e3, e9, l9, e11, l30, e12, hm, hlt, hkp, hgp, k1, k2, hVf]
        have hr : 0 ≤ q.part ∧ q.part < P.length := by omega
        have hg := seen_get (l := TK) hr
        have hh2 : has TK q.part = true := by
          unfold newB at hB; rw [decide_eq_true hr, Bool.true_and] at hB; simpa using hB
        rw [hh2] at hg
        have hge : ∀ h, (seenB TK P.length)[q.part.toNat]'h = .bool true := fun h => by rw [List.getElem?_eq_getElem h] at hg; exact Option.some.inj hg
        simp [e0, e1, e2, e3, e9, l9, e11, l30, e12, hm, hlt, hkp, hgp, k1, k2, hr, hge, hsl, hVf]
      · rw [hB] at hu2
        obtain ⟨hr, hh2⟩ := hnewcase hB
        have hg := seen_get (l := TK) hr
        rw [hh2] at hg
        have hst := seen_set (l := TK) hr
        rw [← htk] at hst
        have hge : ∀ h, (seenB TK P.length)[q.part.toNat]'h = .bool false := fun h => by rw [List.getElem?_eq_getElem h] at hg; exact Option.some.inj hg
        have k1 : ¬ q.part < 0 := by omega
        have k2 : ¬ (P.length : Int) ≤ q.part := by omega
        simp [e0, e1, e2, e3, e9, l9, e11, l30, e12, l16, l17, hm, hlt, hkp, hgp, k1, k2, hr, hge, hsl, hst, w1.eq, -Int.natCast_add]
        exact ⟨by omega, n', y1, i + 1, y2, by omega, hu2, rfl, rfl⟩
    · cases hB : newB TK P.length k
      · rw [hB] at hu2
        have hVf := hVu hu2
        by_cases k1 : k < 0
        · simp [e0, e1, e2, e3, e9, l9, e11, l30, e12, hm, hlt, hkp, hd1.eq, hd2, hd3, k1, hVf]
        by_cases k2 : (P.length : Int) ≤ k
        · simp [e0, e1, e2, e3, e9, l9, e11, l30, e12, hm, hlt, hkp, hd1.eq, hd2, hd3, k1, k2, hVf]
        have hr : 0 ≤ k ∧ k < P.length := by omega
        have hg := seen_get (l := TK) hr
        have hh2 : has TK k = true := by
          unfold newB at hB; rw [decide_eq_true hr, Bool.true_and] at hB; simpa using hB
        rw [hh2] at hg
        have hge : ∀ h, (seenB TK P.length)[k.toNat]'h = .bool true := fun h => by rw [List.getElem?_eq_getElem h] at hg; exact Option.some.inj hg
        simp [e0, e1, e2, e3, e9, l9, e11, l30, e12, hm, hlt, hkp, hd1.eq, hd2, hd3, k1, k2, hr, hge, hsl, hVf]
      · rw [hB] at hu2
        obtain ⟨hr, hh2⟩ := hnewcase hB
        have hg := seen_get (l := TK) hr
        rw [hh2] at hg
        have hst := seen_set (l := TK) hr
        rw [← htk] at hst
        have hge : ∀ h, (seenB TK P.length)[k.toNat]'h = .bool false := fun h => by rw [List.getElem?_eq_getElem h] at hg; exact Option.some.inj hg
        have k1 : ¬ k < 0 := by omega
        have k2 : ¬ (P.length : Int) ≤ k := by omega
        simp [e0, e1, e2, e3, e9, l9, e11, l30, e12, l16, l17, hm, hlt, hkp, hd1.eq, hd2, hd3, k1, k2, hr, hge, hsl, hst, w1.eq, -Int.natCast_add]
        exact ⟨by omega, n', y1, i + 1, y2, by omega, hu2, rfl, rfl⟩
  have hii : i = P.length := by omega
  subst hii
  rw [List.take_of_length_le (by omega)] at hu
  rw [hu, Bool.true_and] at hV2
  have hrng : ∀ q ∈ pl, 0 ≤ q.part ∧ q.part < P.length := fun q hq => by
    have := use_range hu q.part (by unfold ksL; exact List.mem_append.2 (.inl (List.mem_map.2 ⟨q, hq, rfl⟩)))
    exact this
  simp [e0, e1, e2, e3, e9, l9, e11, l30, e12, hm]
  have hcc : C24 P w h kf pl := ⟨hg, hw, hh, hk, hl1, hrng⟩
  refine loop26 (nn := nn) (a := a) (b := b) (lf := lf) hcc ⟨by simp [e0], by simp [e1], by simp [e2], by simp [e3], by simp [e9], by simp [l9], by simp, by simp⟩ hV2 (fun hVf s' hs' hm' => ?_) (fun hVt s' hm' => ?_)
  · simp at hm'
    simp [hs', hVf, hm', hm]
  · simp at hm'
    simp [hVt, hm', hm]
end Go.Vm.Ch27
