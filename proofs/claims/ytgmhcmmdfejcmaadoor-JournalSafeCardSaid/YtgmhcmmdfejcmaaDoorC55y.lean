/- Chapter 55: what its functions compute. -/
import Derived.Test.YtgmhcmmdfejcmaaDoorC55x
namespace Go.Vm.Ch55
open _root_.Ch55 (T55 c9)
set_option maxRecDepth 10000
set_option maxHeartbeats 16000000
/-- Two journals that have nothing in common. -/
structure Pair (m : Mem) (j1 k1 : Nat) (o1 : Option Nat) (B1 : List UInt8) (d1 : Nat) (R1 : List (List UInt8)) (j2 k2 : Nat) (o2 : Option Nat) (B2 : List UInt8) (d2 : Nat) (R2 : List (List UInt8)) : Prop where
  J1 : JAt m j1 k1 o1 B1 d1 R1
  J2 : JAt m j2 k2 o2 B2 d2 R2
  kk : k1 ≠ k2
  jk : j1 ≠ k2
  kj : k1 ≠ j2
  jj : j1 ≠ j2
  aj : o1 ≠ some j2
  ak : o1 ≠ some k2
  bj : o2 ≠ some j1
  bk : o2 ≠ some k1
  oo : ∀ i, o1 = some i → o2 ≠ some i
theorem Pair.swap {m : Mem} {j1 k1 j2 k2 d1 d2 : Nat} {o1 o2 : Option Nat} {B1 B2 : List UInt8} {R1 R2 : List (List UInt8)} (h : Pair m j1 k1 o1 B1 d1 R1 j2 k2 o2 B2 d2 R2) : Pair m j2 k2 o2 B2 d2 R2 j1 k1 o1 B1 d1 R1 :=
  ⟨h.J2, h.J1, h.kk.symm, h.kj.symm, h.jk.symm, h.jj.symm, h.bj, h.bk, h.aj, h.ak, fun i e e2 => h.oo i e2 e⟩
theorem Pair.left {m m' : Mem} {j1 k1 j2 k2 d1 d2 d1' : Nat} {o1 o2 o1' : Option Nat} {B1 B2 B1' : List UInt8} {R1 R2 R1' : List (List UInt8)} (h : Pair m j1 k1 o1 B1 d1 R1 j2 k2 o2 B2 d2 R2)
    (hJ : JAt m' j1 k1 o1' B1' d1' R1') (hk : Keep2 m m' j1 k1 o1 o1') : Pair m' j1 k1 o1' B1' d1' R1' j2 k2 o2 B2 d2 R2 := by
  have l1 := lt_of_get h.J2.obj
  have l2 := h.J2.fil.lt
  have hx : ∀ x, x < m.length → o1 ≠ some x → o1' ≠ some x := fun x hx ho => by
    rcases hk.new with e | ⟨i, e, hi⟩
    · rw [e]; exact ho
    · rw [e]; intro e2; injection e2; omega
  refine ⟨hJ, h.J2.other (hk.same j2 l1 h.jj.symm h.kj.symm h.aj) (hk.same k2 l2.1 h.jk.symm h.kk.symm h.ak) (fun i e => hk.same i (l2.2 i e) (fun e2 => h.bj (by rw [e, e2])) (fun e2 => h.bk (by rw [e, e2])) fun e2 => h.oo i e2 e), h.kk, h.jk, h.kj, h.jj, hx _ l1 h.aj, hx _ l2.1 h.ak, h.bj, h.bk, fun i e e2 => ?_⟩
  exact hx i (l2.2 i e2) (fun e3 => h.oo i e3 e2) e
theorem used_frs {R : List (List UInt8)} (hr : ∀ r ∈ R, r.length ≤ 1000) : used (frs zero16 R) = (frs zero16 R).length ∧ recs (scanA (frs zero16 R)) = R := by
  have hst := scanA_frs R [] hr (by simp)
  rw [List.append_nil] at hst
  exact ⟨used_of hst, by rw [hst, recs_stps]⟩
theorem endN_le (R : List (List UInt8)) (n : Nat) : endN R n ≤ (frs zero16 R).length := by
  unfold endN
  rw [frs_len, frs_len]
  have := sumS_le (P := R) (i := n + 1)
  simp; omega
theorem dur_all (R : List (List UInt8)) {d : Nat} (h : (frs zero16 R).length ≤ d) : dur R d = R.length :=
  dur_eq (Nat.le_refl _) (fun n _ => Nat.le_trans (endN_le R n) h) (.inl rfl)
theorem law9 (P : List (List UInt8)) (nn : Bool) (hl : inL P.length) : ∃ m, callL T55 9 [sv nn P] [] = some (.bool true, m) := by
  obtain ⟨m0, hw⟩ := awake
  have h21 := q21 P nn 20 hl []
  refine callL_ex (vf := c9) rfl rfl ?_
  by_cases a3 : smlS P 20 = true
  rotate_left
  · rw [Bool.not_eq_true] at a3
    rw [a3] at h21
    simp [c9, hw, h21]
  rw [a3] at h21
  have hP : P.length ≤ (20 : Int) ∧ sumS P ≤ 5000 := by simpa [smlS] using a3
  obtain ⟨h12, hF⟩ := q12 m0
  generalize hm1 : m0 ++ [some (LObj.cells false [.vec none false [], AV.int IntKind.i64 0])] = m1 at h12 hF
  have hl1 : m1.length = m0.length + 1 := by rw [← hm1]; simp
  obtain ⟨h12b, hFb⟩ := q12 m1
  generalize hm2 : m1 ++ [some (LObj.cells false [.vec none false [], AV.int IntKind.i64 0])] = m2 at h12b hFb
  have hl2 : m2.length = m1.length + 1 := by rw [← hm2]; simp
  have hF2 : FileAt m2 m0.length none [] 0 := hF.other (by rw [← hm2]; exact List.getElem?_append_left (by omega)) (by simp)
  obtain ⟨m3, hc3, hJ3, hk3⟩ := q32 _ _ _ _ _ hF2 (by simp)
  have hl3 := lt_of_get hJ3.obj
  have hFb3 : FileAt m3 m1.length none [] 0 := hFb.other (hk3.same _ (by omega) (by omega) (by simp)) (by simp)
  obtain ⟨m4, hc4, hJ4, hk4⟩ := q32 _ _ _ _ _ hFb3 (by simp)
  have eu : used [] = 0 := rfl
  have er : recs (scanA []) = [] := rfl
  rw [eu, er, List.take_nil] at hJ3 hJ4
  have hpair : Pair m4 m2.length m0.length none [] 0 [] m3.length m1.length none [] 0 [] :=
    ⟨hJ3.other (hk4.same _ hl3 (by omega) (by simp)) (hk4.same _ (by omega) (by omega) (by simp)) (by simp), hJ4, by omega, by omega, by omega, by omega, by simp, by simp, by simp, by simp, by simp⟩
  generalize m2.length = j1 at *
  generalize m3.length = j2 at *
  generalize m0.length = k1 at *
  generalize m1.length = k2 at *
  simp [c9, hw, h21, h12, h12b, hc3, hc4]
  refine wp_loop (fun wx s => ∃ (i : Nat) (o1 o2 : Option Nat) (B : List UInt8) (d : Nat) (R : List (List UInt8)), wx = P.length - i ∧ i ≤ P.length ∧ s.get 0 = sv nn P ∧ s.get 3 = .ptr (.mem k1) 0 ∧ s.get 4 = .ptr (.mem k2) 0 ∧ s.get 5 = .ptr (.mem j1) 0 ∧ s.get 6 = .ptr (.mem j2) 0 ∧ s.get 7 = AV.int IntKind.i64 i ∧ Pair s.mem j1 k1 o1 B d R j2 k2 o2 B B.length R ∧ B.length ≤ sumS (P.take i) + 20 * i ∧ ∀ r ∈ R, r.length ≤ 1000) ?_ P.length _ ?_
  rotate_left
  · exact ⟨0, none, none, [], 0, [], by simp, by simp, by simp, by simp, by simp, by simp, by simp, by simp, by simpa using hpair, by simp, by simp⟩
  clear hc3 hc4 hpair hJ3 hJ4 hF2 hFb3 hk3 hk4 hF hFb h12 h12b hl1 hl2 hl3 hm1 hm2
  rintro wx s ⟨i, o1, o2, B, d, R, hn, hi, e0, e3, e4, e5, e6, e7, hT, hB, hR⟩
  obtain ⟨m, hm⟩ : ∃ m, s.mem = m := ⟨_, rfl⟩
  rw [hm] at hT
  by_cases hlt : i < P.length
  · have w1 : W64 ((i : Int) + 1) ((i + 1 : Nat) : Int) := .mkI rfl (by omega) (by omega)
    have hss := sumS_succ hlt
    have hB2 := sumS_le (P := P) (i := i + 1)
    have h34 := q34 m j1 k1 o1 B d R hT.J1 P[i] (by omega) (by omega)
    by_cases ht : P[i].length ≤ 1000
    · rw [if_pos ht] at h34
      obtain ⟨ma, o1', hca, hJa, hka⟩ := h34
      have hTa := hT.left hJa hka
      have h34b := q34 ma j2 k2 o2 B B.length R hTa.J2 P[i] (by omega) (by omega)
      rw [if_pos ht] at h34b
      obtain ⟨mb, o2', hcb, hJb, hkb⟩ := h34b
      have hTb := hTa.swap.left hJb hkb
      obtain ⟨mc, hcc, hJc, hkc⟩ := q36 mb _ _ _ _ _ _ hTb.J1
      have hTc := (hTb.left hJc hkc.to2).swap
      have hlB : (frs zero16 (R ++ [P[i]])).length = B.length + P[i].length + 20 := by
        rw [← frs_add, List.length_append, ← hT.J1.cont, frm_len]; omega
      have hR' : ∀ r ∈ R ++ [P[i]], r.length ≤ 1000 := fun r hr => by
        rcases List.mem_append.1 hr with h | h
        · exact hR r h
        · rw [List.mem_singleton.1 h]; exact ht
      simp [e0, e3, e4, e5, e6, e7, hm, hlt, gi_nat hlt, w1.eq, hca, hcb, hcc, -Int.natCast_add]
      exact ⟨P.length - (i + 1), by omega, i + 1, rfl, by omega, rfl, o1', o2', _, ⟨d, _, hTc, by omega, hR'⟩⟩
    · rw [if_neg ht] at h34
      have h34b := q34 m j2 k2 o2 B B.length R hT.J2 P[i] (by omega) (by omega)
      rw [if_neg ht] at h34b
      obtain ⟨mc, hcc, hJc, hkc⟩ := q36 m _ _ _ _ _ _ hT.J2
      have hTc := (hT.swap.left hJc hkc.to2).swap
      simp [e0, e3, e4, e5, e6, e7, hm, hlt, gi_nat hlt, w1.eq, h34, h34b, hcc, -Int.natCast_add]
      exact ⟨P.length - (i + 1), by omega, i + 1, rfl, by omega, rfl, o1, o2, _, ⟨d, _, hTc, by omega, hR⟩⟩
  · have hie : i = P.length := by omega
    subst hie
    rw [List.take_length] at hB
    have hBl : B.length ≤ 100000 := by omega
    have hcont := hT.J1.cont
    obtain ⟨u1, u2⟩ := used_frs hR
    rw [← hcont] at u1 u2
    have hsm := hT.J1.small
    obtain ⟨mo, hco, hJo, hko⟩ := q32 m k1 o1 B d hT.J1.fil hBl
    rw [u1, u2, List.take_length] at hJo
    have l1 := lt_of_get hT.J1.obj
    have hJ1' : JAt mo j1 k1 o1 B B.length R := ⟨hJo.fil, by rw [hko.same j1 l1 hT.J1.ne hT.J1.noi]; exact hT.J1.obj, hT.J1.ne, hT.J1.noi, hcont⟩
    have a20 := q20 _ _ _ _ _ hT.J1.fil
    have b20 := q20 _ _ _ _ _ hT.J2.fil
    have a40 := q40 _ _ _ _ _ _ _ hT.J1
    have b40 := q40 _ _ _ _ _ _ _ hT.J2
    have b38 := q38 _ _ _ _ _ _ _ hT.J2 hBl
    have b37 := q37 _ _ _ _ _ _ _ hT.J2 hBl
    have hda := dur_all R (d := B.length) (by rw [hcont]; exact Nat.le_refl _)
    rw [hda] at b38
    have c20 := q20 _ _ _ _ _ hJo.fil
    have c37 := q37 _ _ _ _ _ _ _ hJo hBl
    have d37 := q37 _ _ _ _ _ _ _ hJ1' hBl
    have c40 := q40 _ _ _ _ _ _ _ hJo
    have d40 := q40 _ _ _ _ _ _ _ hJ1'
    have c38 := q38 _ _ _ _ _ _ _ hJo hBl
    rw [hda] at c38
    have h29 := q29 _ _ [] _ _ (StrSl.vec (!R.isEmpty) [] R) (StrSl.vec (!R.isEmpty) [] R) (by omega)
    rw [decide_eq_true rfl] at h29
    generalize (!R.isEmpty) = nR at *
    generalize chn R = H at *
    simp [e0, e3, e4, e5, e6, e7, hm, a20, b20, a40, b40, b38, b37, hco, c20, c37, d37, c40, d40, c38, h29]
end Go.Vm.Ch55
