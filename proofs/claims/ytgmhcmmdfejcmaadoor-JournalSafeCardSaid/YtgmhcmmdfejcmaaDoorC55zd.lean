/- Chapter 55: what its functions compute. -/
import Derived.Test.YtgmhcmmdfejcmaaDoorC55zc
namespace Go.Vm.Ch55
open _root_.Ch55 (T55 c6)
set_option maxRecDepth 10000
set_option maxHeartbeats 16000000
theorem appOK_of {T : FuncId → Option VF} {esz bytes : Nat} {d : Option Nat} {is : List VI} {s : St} {K : St → Prop} {m m' : Mem} {v v' : AV} {ys : List AV} (h : appO esz bytes m v ys = some (v', m')) (hm : s.mem = m) :
    appOK T esz bytes d is s K v (some ys) = wpo T is ((s.withMem m').put d v') K := by
  subst hm
  cases v with
  | vec o nn xs =>
    cases nn with
    | true => simp [appO] at h
    | false =>
      simp only [appO] at h
      split at h
      · rename_i hc
        simp only [Option.some.injEq, Prod.mk.injEq] at h
        obtain ⟨rfl, rfl⟩ := h
        rw [appOK_nil]; simp only [hc, true_and]; rfl
      · simp at h
  | zcap nn =>
    simp only [appO] at h
    split at h
    · rename_i hc
      simp only [Option.some.injEq, Prod.mk.injEq] at h
      obtain ⟨rfl, rfl⟩ := h
      rw [appOK_zcap]; simp only [hc, true_and]; rfl
    · simp at h
  | orow z i len =>
    simp only [appO] at h
    split at h
    · rename_i cs hcs
      split at h
      · rename_i hc
        simp only [Option.some.injEq, Prod.mk.injEq] at h
        obtain ⟨rfl, rfl⟩ := h
        rw [appOK_orow, hcs, appCellsK_mk]; simp only [hc, true_and]
      · simp at h
    · simp at h
  | _ => simp [appO] at h
/-- The facts that the comparison behind each move needs. -/
structure Cmp6 (m : Mem) (j : Nat) (R : List (List UInt8)) (v : AV) (D : Nat) : Prop where
  h37 : callL T55 37 [.ptr (.mem j) 0] m = some (sv (!R.isEmpty) R, m)
  h29 : callL T55 29 [sv (!R.isEmpty) R, v.view] m = some (.bool true, m)
  h38 : callL T55 38 [.ptr (.mem j) 0] m = some (AV.int IntKind.i64 D, m)
  nl : v.view.nl = true
  vv : v.view.view = v.view
theorem cmp6 {m : Mem} {k j : Nat} {oi : Option Nat} {B : List UInt8} {d : Nat} {R : List (List UInt8)} {v : AV} (h : JAt m j k oi B d R) (ha : AllAt m j k oi v R) (hB : B.length ≤ 100000) : Cmp6 m j R v (dur R d) := by
  have hs := h.small
  have h29 := q29 _ _ m _ _ (StrSl.vec (!R.isEmpty) m R) ha.sl (by omega)
  rw [decide_eq_true rfl] at h29
  exact ⟨q37 _ _ _ _ _ _ _ h hB, h29, q38 _ _ _ _ _ _ _ h hB, ha.sl.nl, ha.sl.view⟩
/-- The journal and the row of all records. -/
structure JAll (m : Mem) (k j : Nat) (oi : Option Nat) (B : List UInt8) (d : Nat) (R : List (List UInt8)) (v : AV) : Prop where
  J : JAt m j k oi B d R
  A : AllAt m j k oi v R
  sh : ∀ r ∈ R, r.length ≤ 1000
theorem JAll.crash {m : Mem} {k j : Nat} {oi : Option Nat} {B : List UInt8} {d : Nat} {R : List (List UInt8)} {v : AV} (h : JAll m k j oi B d R v) (hB : B.length ≤ 100000) (kept at' : Int) (hat : inI at') (flip : UInt8) :
    ∃ (m1 m2 : Mem) (j' : Nat) (B' : List UInt8) (d' n : Nat) (v' : AV), callL T55 16 [.ptr (.mem k) 0, AV.int IntKind.i64 kept, AV.int IntKind.i64 at', .int .u8 flip.toNat] m = some (.tup [], m1) ∧
      callL T55 32 [.ptr (.mem k) 0] m1 = some (.ptr (.mem j') 0, m2) ∧ n ≤ R.length ∧ dur R d ≤ n ∧ JAll m2 k j' oi B' d' (R.take n) v' ∧ dur (R.take n) d' = n ∧ slAny 1 none (some (AV.int IntKind.i64 n)) v = some v' ∧ AllAt m2 j' k oi v R ∧ B'.length ≤ B.length := by
  have hle := h.J.fil.le
  obtain ⟨m1, hc1, hf1, hk1⟩ := q16 m k oi B d h.J.fil (by omega) kept at' hat flip
  have hcl := crs_len B d hle kept at' flip
  have hll := lft_le B.length d kept
  have hcont := h.J.cont
  obtain ⟨n, n1, n2, n3⟩ := crs_recs (R := R) (d := d) h.sh (by rw [← hcont]; exact hle) kept at' flip
  rw [← hcont] at n3
  generalize crs B d kept at' flip = C at *
  have hCl : C.length ≤ B.length := by omega
  obtain ⟨m2, hc2, hJ2, hk2⟩ := q32 m1 k oi C C.length hf1 (by omega)
  rw [n3] at hJ2
  have hlen := hk1.len
  have hl1 := h.J.fil.lt
  have hlj := lt_of_get h.J.obj
  have hA2 : AllAt m2 m1.length k oi v R := h.A.other (fun x h1 h2 h3 h4 => by rw [hk2.same x (by omega) h3 h4, hk1.same x h1 h3 h4]) (fun x h1 h2 => by omega) (fun x h1 h2 => h2)
  obtain ⟨v', hv, hA'⟩ := hA2.cut n1
  refine ⟨m1, m2, m1.length, _, _, n, v', hc1, hc2, n1, n2, ⟨hJ2, hA', fun r hr => h.sh r (List.mem_of_mem_take hr)⟩, ?_, hv, hA2, by simp; omega⟩
  have hcont2 := hJ2.cont
  rw [dur_all (R := R.take n) (by rw [← hcont2]; simp; omega)]
  simp; omega
theorem law6 (P : List Mov) (nn : Bool) (hl : inL P.length) (hP : ∀ p ∈ P, inI p.at') : ∃ m, callL T55 6 [mv nn P] [] = some (.bool true, m) := by
  obtain ⟨m0, hw⟩ := awake
  have hsm := q11 P nn 60 hl []
  by_cases hs : P.length ≤ (60 : Int) ∧ sumT P ≤ 5000
  rotate_left
  · rw [decide_eq_false hs] at hsm
    refine callL_ex (vf := c6) rfl rfl ?_
    simp [c6, hw, hsm]
  rw [decide_eq_true hs] at hsm
  obtain ⟨h12, hF⟩ := q12 m0
  generalize hm1 : m0 ++ [some (LObj.cells false [.vec none false [], AV.int IntKind.i64 0])] = m1 at h12 hF
  have hl1 : m1.length = m0.length + 1 := by rw [← hm1]; simp
  obtain ⟨m3, hc3, hJ3, hk3⟩ := q32 _ _ _ _ _ hF (by simp)
  have er : recs (scanA []) = [] := rfl
  rw [er, List.take_nil] at hJ3
  have h0 : JAll m3 m0.length m1.length none [] (used []) [] (.zcap true) := ⟨hJ3, .nil true, by simp⟩
  generalize used [] = d0 at *
  generalize hj0 : m1.length = j0 at *
  refine callL_ex (vf := c6) rfl rfl ?_
  simp [c6, hw, hsm, h12, hc3]
  refine wp_loop (fun wx s => ∃ (i : Nat) (os : List LObj) (j : Nat) (oi : Option Nat) (B : List UInt8) (d : Nat) (R : List (List UInt8)) (v : AV), wx = P.length - i ∧ i ≤ P.length ∧ s.get 0 = mv nn P ∧ s.get 3 = .ptr (.mem m0.length) 0 ∧ s.get 4 = .ptr (.mem j) 0 ∧ s.get 5 = v ∧ s.get 6 = AV.int IntKind.i64 (dur R d) ∧ s.get 7 = AV.int IntKind.i64 i ∧ s.loc 8 = os ∧ JAll s.mem m0.length j oi B d R v ∧ B.length ≤ sumT (P.take i) + 20 * i) ?_ P.length _ ?_
  rotate_left
  · exact ⟨0, [], j0, none, [], d0, [], .zcap true, by simp, by simp, by simp, by simp, by simp, by simp, by simp [dur], by simp, by simp, by simpa using h0, by simp⟩
  clear hc3 h0 hk3 hJ3 hF h12 hj0 hl1 hm1
  rintro wx s ⟨i, os, j, oi, B, d, R, v, hn, hi, e0, e3, e4, e5, e6, e7, l8, hT, hB⟩
  by_cases hlt : i < P.length
  · have w1 : W64 ((i : Int) + 1) ((i + 1 : Nat) : Int) := .mkI rfl (by omega) (by omega)
    have hss := sumT_succ hlt
    have hB2 := sumT_le (P := P) (i := i + 1)
    have hPi := hP _ (List.getElem_mem hlt)
    have hBs : B.length ≤ 7000 := by omega
    obtain ⟨m, hm⟩ : ∃ m, s.mem = m := ⟨_, rfl⟩
    rw [hm] at hT
    have hRl := hT.J.small
    generalize m0.length = k at *
    by_cases h0 : P[i].kind = 0
    · have h34 := q34 m j k oi B d R hT.J P[i].text (by omega) (by omega)
      by_cases ht : P[i].text.length ≤ 1000
      · rw [if_pos ht] at h34
        obtain ⟨m', oi', hc34, hJ', hk'⟩ := h34
        have ll := hT.J.fil.lt
        have lj := lt_of_get hT.J.obj
        have hA' : AllAt m' j k oi' v R := hT.A.other (fun x h1 h2 h3 h4 => hk'.same x h1 h2 h3 h4) (fun x _ h => h) (fun x h1 h2 => by
          rcases hk'.new with e | ⟨i, e, hi⟩
          · rw [e]; exact h2
          · rw [e]; intro e2; injection e2; omega)
        have ll' := hJ'.fil.lt
        obtain ⟨v', m'', ha, hA'', g1, g2, g3⟩ := hA'.app (lt_of_get hJ'.obj) ll'.1 ll'.2 (by omega) P[i].text
        have hcont := hT.J.cont
        have hlB : (frs zero16 (R ++ [P[i].text])).length = B.length + P[i].text.length + 20 := by
          rw [← frs_add, List.length_append, ← hcont, frm_len]; omega
        have hdur : dur (R ++ [P[i].text]) d = dur R d := dur_add (by rw [← hcont]; exact hT.J.fil.le) _
        have hT' : JAll m'' k j oi' (frs zero16 (R ++ [P[i].text])) d (R ++ [P[i].text]) v' := ⟨hJ'.other g1 g2 g3, hA'', fun r hr => by
          rcases List.mem_append.1 hr with h | h
          · exact hT.sh r h
          · rw [List.mem_singleton.1 h]; exact ht⟩
        have C := cmp6 hT'.J hT'.A (by omega)
        rw [hdur] at C
        generalize frs zero16 (R ++ [P[i].text]) = B1 at *
        generalize R ++ [P[i].text] = R1 at *
        rw [← hdur] at e6 C
        clear hdur
        generalize hD : dur R1 d = D at *
        obtain ⟨h37, h29, h38, hnl, hvv⟩ := C
        have htk := hA'.tk
        have htk' := hT'.A.tk
        simp [e0, e3, e4, e5, e7, l8, hm, hlt, gi_nat hlt, h0, hc34, objCells, htk, -Int.natCast_add]
        rw [appOK_of ha (by simp)]
        simp [e0, e3, e4, e6, e7, l8, w1.eq, h37, h29, h38, hnl, hvv, htk', -Int.natCast_add]
        subst hD
        exact ⟨P.length - (i + 1), by omega, i + 1, rfl, by omega, _, _, _, _, _, rfl, rfl, rfl, hT', by omega⟩
      · rw [if_neg ht] at h34
        have C := cmp6 hT.J hT.A (by omega)
        generalize hD : dur R d = D at *
        obtain ⟨h37, h29, h38, hnl, hvv⟩ := C
        simp [e0, e3, e4, e5, e6, e7, l8, hm, hlt, gi_nat hlt, w1.eq, h0, h34, objCells, h37, h29, h38, hnl, hvv, -Int.natCast_add]
        subst hD
        exact ⟨P.length - (i + 1), by omega, i + 1, rfl, by omega, _, _, _, _, _, rfl, rfl, rfl, hT, by omega⟩
    by_cases h1 : P[i].kind = 1
    · obtain ⟨m', hc36, hJ', hk'⟩ := q36 m j k oi B d R hT.J
      have hA' : AllAt m' j k oi v R := hT.A.other (fun x h1 h2 h3 h4 => hk'.same x h1 h3 h4) (fun x _ h => h) (fun x h1 h2 => h2)
      have hT' : JAll m' k j oi B B.length R v := ⟨hJ', hA', hT.sh⟩
      have C := cmp6 hT'.J hT'.A (by omega)
      have hall : dur R B.length = R.length := dur_all R (by rw [← hT.J.cont]; exact Nat.le_refl _)
      have hlen : lenSlV v.view = some (AV.int IntKind.i64 R.length) := hT.A.sl.len
      generalize hD : dur R B.length = D at *
      obtain ⟨h37, h29, h38, hnl, hvv⟩ := C
      simp [e0, e3, e4, e5, e7, l8, hm, hlt, gi_nat hlt, w1.eq, h1, hc36, hlen, ← hall, objCells, h37, h29, h38, hnl, hvv, -Int.natCast_add]
      subst hD
      exact ⟨P.length - (i + 1), by omega, i + 1, rfl, by omega, _, _, _, _, _, rfl, rfl, rfl, hT', by omega⟩
    by_cases h2 : P[i].kind = 2
    · obtain ⟨ma, mb, j', B', d', n, v', c1, c2, n1, n2, hT', hdn, hv, hA2, hB'⟩ := hT.crash (by omega) P[i].kept P[i].at' hPi P[i].flip
      have C := cmp6 hT'.J hT'.A (by omega)
      have hlen : lenSlV v.view = some (AV.int IntKind.i64 R.length) := hT.A.sl.len
      have hln : (R.take n).length = n := by simp; omega
      have htk := hT.A.tk
      have htk' := hT'.A.tk
      have i1 : ¬ (n : Int) < dur R d := by omega
      have i2 : ¬ (R.length : Int) < n := by omega
      generalize hD : dur (R.take n) d' = D at *
      generalize dur R d = D0 at *
      obtain ⟨h37, h29, h38, hnl, hvv⟩ := C
      generalize hR1 : R.take n = R1 at *
      subst hdn
      simp [e0, e3, e4, e5, e6, e7, l8, hm, hlt, gi_nat hlt, w1.eq, h2, c1, c2, htk, htk', hlen, hln, hv, i1, i2, objCells, h37, h29, h38, hnl, hvv, -Int.natCast_add]
      exact ⟨P.length - (i + 1), by omega, i + 1, rfl, by omega, _, _, _, _, _, by rw [hD], rfl, rfl, hT', by omega⟩
    · have C := cmp6 hT.J hT.A (by omega)
      generalize hD : dur R d = D at *
      obtain ⟨h37, h29, h38, hnl, hvv⟩ := C
      simp [e0, e3, e4, e5, e6, e7, l8, hm, hlt, gi_nat hlt, w1.eq, h0, h1, h2, objCells, h37, h29, h38, hnl, hvv, -Int.natCast_add]
      subst hD
      exact ⟨P.length - (i + 1), by omega, i + 1, rfl, by omega, _, _, _, _, _, rfl, rfl, rfl, hT, by omega⟩
  · simp [e0, e7, hlt]
end Go.Vm.Ch55
