/- Chapter 27: what its functions compute. -/
import Derived.Test.YtjlbiebejodecaaDoorC27qb
import Derived.Test.YtjlbiebejodecaaDoorC27qc
import Derived.Test.YtjlbiebejodecaaDoorC27qd
namespace Go.Vm.Ch27
open _root_.Ch27 (T27 c24)
set_option maxRecDepth 10000
set_option maxHeartbeats 8000000
theorem loop24 {P : List Prt} {nn a b : Bool} {w h kf : Int} {pl : List Plc} {lf : List Int} {s : St} {V : Bool} (hc : C24 P w h kf pl) (hs : S24 P nn a b w h kf pl lf 0 0 s) (hv : V = chB P w h kf none pl) {Q : VExit → St → Prop}
    (hR : V = false → ∀ s', s'.get 10 = .bool false → Q .ret s') (hE : V = true → ∀ s', Q (.exit 2) s') : wp T27 (.loop b24) s Q := by
  refine wp_loop (fun n s => ∃ (i : Nat) (top : Int), n = pl.length - i ∧ i ≤ pl.length ∧ StI P w h kf pl V i top ∧ S24 P nn a b w h kf pl lf i top s) ?_ pl.length _ ?_
  rotate_left
  · exact ⟨0, 0, by simp, by simp, .inl ⟨rfl, hv⟩, hs⟩
  rintro n s ⟨i, top, hn, hi, hst, hs⟩
  by_cases hlt : i < pl.length
  rotate_left
  · have hVt : V = true := by
      rcases hst with ⟨h0, hv⟩ | ⟨j, q, hj, hq, ho, t1, t2, hv⟩
      · have : pl = [] := List.length_eq_zero_iff.1 (by omega)
        rw [hv, this]; rfl
      · rw [hv, List.drop_of_length_le (by omega)]; rfl
    obtain ⟨e1, e2, e3, e5, l5, e9, l9, e15, e52, e53, e54⟩ := hs
    simp [b24, e53, e54, hlt]
    exact hE hVt _
  have hN : ∀ s' top', StI P w h kf pl V (i + 1) top' → S24 P nn a b w h kf pl lf (i + 1) top' s' → ∃ n', n' < n ∧ ∃ (i : Nat) (top : Int), n' = pl.length - i ∧ i ≤ pl.length ∧ StI P w h kf pl V i top ∧ S24 P nn a b w h kf pl lf i top s' := fun s' top' h1 h2 =>
    ⟨pl.length - (i + 1), by omega, i + 1, top', rfl, by omega, h1, h2⟩
  cases hon : onB P w h pl[i]
  · have hVf : V = false := by
      have hdr : pl.drop i = pl[i] :: pl.drop (i + 1) := by simp
      rcases hst with ⟨h0, hv⟩ | ⟨j, q, hj, hq, hoq, t1, t2, hv⟩
      · have e : pl = pl[i] :: pl.drop (i + 1) := by rw [← hdr, h0, List.drop_zero]
        rw [hv, e, chB]
        have e2 : onB P w h pl[i] = false := hon
        simp [e2]
      · rw [hv, hdr, chB, hon]; rfl
    exact r24_off hc hs hlt hon (hR hVf)
  · rcases hst with ⟨h0, hv⟩ | ⟨j, q, hj, hq, hoq, t1, t2, hv⟩
    · exact r24_zero hc hs hlt hon h0 hv hR hN
    · by_cases k5 : pl[i].sh = q.sh
      · exact r24_same hc hs hlt hon hj hq hoq t1 t2 hv hR hN k5
      · exact r24_next hc hs hlt hon hj hq hoq t1 t2 hv hR hN k5
theorem q24 (P : List Prt) (nn a b : Bool) (w h kf : Int) (pl : List Plc) (lf : List Int) (hs : Sml P) (hl1 : pl.length ≤ 1000000) (hl2 : lf.length ≤ 1000000) (m : Mem) :
    ∃ m', callL T27 24 [pv nn P, AV.int IntKind.i64 w, AV.int IntKind.i64 h, AV.int IntKind.i64 kf, lay a b pl lf] m = some (.bool (validB P w h kf pl lf), m') := by
  have h14 := q14 P nn w h kf hs []
  have hl := hs.len
  by_cases hc : chk P w h kf = 0
  rotate_left
  · have hV : validB P w h kf pl lf = false := by unfold validB; rw [decide_eq_false hc]; rfl
    rw [hV]
    refine ⟨m, ?_⟩
    apply callL_body (vf := c24) rfl rfl
    simp [c24, h14, hc]
  obtain ⟨g1, g2, g3, g4, g5⟩ := chk_inv hc
  rw [hc] at h14
  have hV : validB P w h kf pl lf = (useB P.length [] (ksL pl lf) && fullB (ksL pl lf) P.length && chB P w h kf none pl) := by unfold validB; rw [decide_eq_true hc, Bool.true_and]
  generalize validB P w h kf pl lf = V at *
  apply callL_ex (vf := c24) rfl rfl
  simp [c24, h14, seen_zero]
  refine ⟨by omega, ?_⟩
  refine wp_loop (fun n s => ∃ (i : Nat) (os : List LObj), n = pl.length - i ∧ i ≤ pl.length ∧ useB P.length [] ((pl.take i).map (·.part)) = true ∧ s.get 1 = AV.int IntKind.i64 w ∧ s.get 2 = AV.int IntKind.i64 h ∧ s.get 3 = AV.int IntKind.i64 kf ∧ s.get 5 = .ptr (.loc 5 0) 0 ∧ s.loc 5 = [.cells true [pv nn P]] ∧ s.get 9 = .ptr (.loc 9 0) 0 ∧ s.loc 9 = [.cells false [lv a pl, iv b lf]] ∧
      s.get 11 = .ptr (.loc 11 0) 0 ∧ s.loc 11 = [.cells true [.row (.mem m.length) 0 P.length]] ∧ s.get 12 = .ptr (.loc 12 0) 0 ∧ s.loc 12 = [.cells false [onceV nn P m]] ∧ s.get 31 = lv a pl ∧ s.get 32 = AV.int IntKind.i64 pl.length ∧ s.get 33 = AV.int IntKind.i64 i ∧ s.loc 14 = os ∧ s.loc 17 = [] ∧ s.loc 18 = [] ∧ s.loc 19 = [] ∧ s.mem = smem m ((pl.take i).map (·.part)) P.length) ?_ pl.length _ ?_
  rotate_left
  · refine ⟨0, [], ?_⟩
    simp [useB]
  rintro n s ⟨i, os, hn, hi, hu, e1, e2, e3, e5, l5, e9, l9, e11, l11, e12, l12, e31, e32, e33, l14, l17, l18, l19, hm⟩
  by_cases hlt : i < pl.length
  · have w1 : IntKind.wrap .i64 ((i : Int) + 1) = (i : Int) + 1 := wrap64 (by omega) (by omega)
    have gp := gi_nat hlt
    have htk : (pl.take (i + 1)).map (·.part) = (pl.take i).map (·.part) ++ [pl[i].part] := by
      rw [List.take_succ_eq_append_getElem hlt, List.map_append]; rfl
    have h52 := q52 P nn m ((pl.take i).map (·.part)) pl[i].part
    have hu2 : useB P.length [] ((pl.take (i + 1)).map (·.part)) = newB ((pl.take i).map (·.part)) P.length pl[i].part := by
      rw [htk, use_app, hu]; simp [useB]
    rw [← htk] at h52
    have hks : ksL pl lf = (pl.take (i + 1)).map (·.part) ++ ((pl.drop (i + 1)).map (·.part) ++ lf) := by
      unfold ksL; rw [← List.append_assoc, ← List.map_append, List.take_append_drop]
    have hnx : ∃ n', n' < n ∧ ∃ i', n' = pl.length - i' ∧ i' ≤ pl.length ∧ i' = i + 1 := ⟨pl.length - (i + 1), by omega, i + 1, rfl, by omega, rfl⟩
    obtain ⟨n', y1, i', y2, y3, y4⟩ := hnx
    rw [← y4] at h52 hu2 hks
    generalize pl[i] = q at *
    cases hB : newB ((pl.take i).map (·.part)) P.length q.part
    · rw [hB] at h52 hu2
      have hVf : V = false := by rw [hV, hks, use_app, hu2]; rfl
      simp at h52
      simp [e1, e2, e3, e5, l5, e9, l9, e11, l11, e12, l12, e31, e32, e33, l14, hm, hlt, gp, h52, hVf]
    · rw [hB] at h52 hu2
      simp at h52
      have w2 : W64 ((i : Int) + 1) ((i' : Nat) : Int) := .mkI (by omega) (by omega) (by omega)
      simp [e1, e2, e3, e5, l5, e9, l9, e11, l11, e12, l12, e31, e32, e33, l14, l17, l18, l19, hm, hlt, gp, h52, w2.eq]
      exact ⟨n', y1, i', y2, y3, by simpa using hu2, rfl, by simp⟩
  have hii : i = pl.length := by omega
  subst hii
  rw [List.take_length] at hu hm
  clear hn hi
  have hsplit : useB P.length [] (ksL pl lf) = useB P.length (pl.map (·.part)) lf := by
    unfold ksL; rw [use_app, hu]; simp
  rw [hsplit] at hV
  have h53 : ∀ k, k ≤ lf.length → (∀ j (hj : j < lf.length), j < k → newB (pl.map (·.part) ++ lf.take j) P.length lf[j] = true) → (∀ hk : k < lf.length, newB (pl.map (·.part) ++ lf.take k) P.length lf[k] = false) →
      callL T27 53 [iv b lf, .fn (.func 54) [.vptr [onceV nn P m] 0]] (smem m (pl.map (·.part)) P.length) = some (.bool (decide (k < lf.length)), smem m (pl.map (·.part) ++ lf.take k) P.length) := by
    intro k hk hbef hat
    have := q53 lf b 54 [.vptr [onceV nn P m] 0] (fun j => !newB (pl.map (·.part) ++ lf.take j) P.length (lf.getD j 0)) (fun j => smem m (pl.map (·.part) ++ lf.take (min j k)) P.length) k hk (fun j hj => by
        have hjl : j < lf.length := by omega
        have := hbef j hjl hj
        simp [List.getD, hjl, this]) (fun hk => by
        have := hat hk
        simp [List.getD, hk, this]) (fun j hj hjk => by
        have e1 : min j k = j := by omega
        have h54 := q54 P nn m (pl.map (·.part) ++ lf.take j) lf[j]
        have hgd : lf.getD j 0 = lf[j] := by simp [List.getD, hj]
        simp only [e1, hgd]
        by_cases hjk' : j < k
        · have hnb := hbef j hj hjk'
          have e2 : min (j + 1) k = j + 1 := by omega
          rw [hnb] at h54
          rw [e2, hnb, List.take_succ_eq_append_getElem hj, ← List.append_assoc]
          simpa using h54
        · have ejk : j = k := by omega
          subst ejk
          have hnb := hat hj
          have e2 : min (j + 1) j = j := by omega
          rw [hnb] at h54
          rw [e2, hnb]
          simpa using h54) (by omega)
    have e0 : min 0 k = 0 := by omega
    have e3 : min (if k < lf.length then k + 1 else k) k = k := by split <;> omega
    simp only [e0, e3, List.take_zero, List.append_nil] at this
    exact this
  cases hu2 : useB P.length (pl.map (·.part)) lf
  · rw [hu2] at hV
    obtain ⟨k, hk, hk1, hk2⟩ := use_false _ _ _ hu2
    have h53' := h53 k (by omega) hk2 (fun _ => hk1)
    rw [decide_eq_true hk] at h53'
    have hVf : V = false := by rw [hV]; rfl
    simp [e9, l9, e12, l12, e31, e32, e33, hm, h53', hVf]
  rw [hu2] at hV
  have h53' := h53 lf.length (Nat.le_refl _) (fun j hj _ => use_true _ _ _ hu2 j hj) (fun hk => by omega)
  rw [decide_eq_false (by omega), List.take_length] at h53'
  have hks : pl.map (·.part) ++ lf = ksL pl lf := rfl
  rw [hks] at h53'
  have h55 := q55 m (ksL pl lf) P.length (by omega)
  have hrng : ∀ q ∈ pl, 0 ≤ q.part ∧ q.part < P.length := fun q hq => by
    have := use_range hu q.part (List.mem_map.2 ⟨q, hq, rfl⟩)
    exact this
  cases hfl : fullB (ksL pl lf) P.length
  · rw [hfl] at h55 hV
    have hVf : V = false := by rw [hV]; rfl
    simp [e9, l9, e11, l11, e12, l12, e31, e32, e33, hm, h53', h55, hVf]
  rw [hfl] at h55 hV
  simp only [Bool.true_and] at hV
  simp [e9, l9, e11, l11, e12, l12, e31, e32, e33, hm, h53', h55]
  have hcc : C24 P w h kf pl := ⟨g2, g3, g4, g5, hl1, hrng⟩
  refine loop24 (nn := nn) (a := a) (b := b) (lf := lf) hcc ⟨by simp [e1], by simp [e2], by simp [e3], by simp [e5], by simp [l5], by simp [e9], by simp [l9], by simp, by simp, by simp, by simp⟩ hV (fun hVf s' hs' => ?_) (fun hVt s' => ?_)
  · simp [hs', hVf]
  · simp [hVt]
end Go.Vm.Ch27
