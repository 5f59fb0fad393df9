/- Chapter 55: what its functions compute. -/
import Derived.Test.YtgmhcmmdfejcmaaDoorC55w
namespace Go.Vm.Ch55
open _root_.Ch55 (T55 c5)
set_option maxRecDepth 10000
set_option maxHeartbeats 16000000
/-- The facts that the comparison behind each move needs. -/
structure Cmp (m : Mem) (k k2 j jr : Nat) (B : List UInt8) (d : Nat) (R : List (List UInt8)) (D : Nat) (H : List UInt8) : Prop where
  h20 : callL T55 20 [.ptr (.mem k) 0] m = some (.str B, m)
  hr : m[k2]? = some (some (.cells false [.str B, AV.int IntKind.i64 d]))
  h37 : callL T55 37 [.ptr (.mem j) 0] m = some (sv (!R.isEmpty) R, m)
  hj : ∃ o, (o = none ∨ o = some 1) ∧ m[jr]? = some (some (.cells false [.ptr (.mem k2) 0, vv o true AV.str R, .str H]))
  h29 : callL T55 29 [sv (!R.isEmpty) R, sv true R] [] = some (.bool true, [])
  h38 : callL T55 38 [.ptr (.mem j) 0] m = some (AV.int IntKind.i64 D, m)
  h39 : callL T55 39 [.ptr (.mem jr) 0] m = some (AV.int IntKind.i64 D, m)
  h40 : callL T55 40 [.ptr (.mem j) 0] m = some (.str H, m)
theorem Four.cmp {m : Mem} {k k2 j jr : Nat} {oi : Option Nat} {B : List UInt8} {d : Nat} {R : List (List UInt8)} (h : Four m k k2 j jr oi B d R) (hB : B.length ≤ 100000) : Cmp m k k2 j jr B d R (dur R d) (chn R) := by
  have hs := h.J.small
  have h29 := q29 _ _ [] _ _ (StrSl.vec (!R.isEmpty) [] R) (StrSl.vec true [] R) (by omega)
  rw [decide_eq_true rfl] at h29
  exact ⟨q20 _ _ _ _ _ h.J.fil, h.A.fil, q37 _ _ _ _ _ _ _ h.J hB, h.A.obj, h29, q38 _ _ _ _ _ _ _ h.J hB, q39 _ _ _ _ _ _ h.A h.J.cont hB, q40 _ _ _ _ _ _ _ h.J⟩
theorem law5 (P : List Mov) (nn : Bool) (hl : inL P.length) (hP : ∀ p ∈ P, inI p.at') : ∃ m, callL T55 5 [mv nn P] [] = some (.bool true, m) := by
  obtain ⟨m0, hw⟩ := awake
  have hsm := q11 P nn 60 hl []
  by_cases hs : P.length ≤ (60 : Int) ∧ sumT P ≤ 5000
  rotate_left
  · rw [decide_eq_false hs] at hsm
    refine callL_ex (vf := c5) rfl rfl ?_
    simp [c5, hw, hsm]
  rw [decide_eq_true hs] at hsm
  obtain ⟨h12, hF⟩ := q12 m0
  generalize hm1 : m0 ++ [some (LObj.cells false [.vec none false [], AV.int IntKind.i64 0])] = m1 at h12 hF
  have hl1 : m1.length = m0.length + 1 := by rw [← hm1]; simp
  have hF2 : FileAt (m1 ++ [rfo [] 0]) m0.length none [] 0 := hF.other (List.getElem?_append_left (by omega)) (by simp)
  obtain ⟨m3, hc3, hJ3, hk3⟩ := q32 _ _ _ _ _ hF2 (by simp)
  have hr3 : m3[m1.length]? = some (rfo [] 0) := by rw [hk3.same m1.length (by simp) (by omega) (by simp)]; simp
  obtain ⟨m4, hc4, hA4, hl4, hs4⟩ := q33 m3 m1.length [] 0 hr3 (by simp) (Nat.le_refl _)
  have l3' := lt_of_get hJ3.obj
  have lk3 := hJ3.fil.lt
  have hlm : (m1 ++ [rfo [] 0]).length = m1.length + 1 := by simp
  have hfour : Four m4 m0.length m1.length (m1 ++ [rfo [] 0]).length m3.length none ([].take (used [])) (used []) (recs (scanA [])) :=
    ⟨hJ3.other (hs4 _ l3' (by omega)) (hs4 _ lk3.1 (by omega)) (by simp), hA4, by omega, by omega, by omega, by omega, by simp, by simp⟩
  have hrfo : rfo [] 0 = some (.cells false [.str [], AV.int IntKind.i64 0]) := rfl
  rw [hrfo] at hc3 hfour
  rw [List.take_nil] at hfour
  have l4 := hfour.lts
  generalize hj0 : (m1 ++ [some (LObj.cells false [.str [], AV.int IntKind.i64 0])]).length = j0 at *
  generalize hjr0 : m3.length = jr0 at *
  generalize used [] = d0 at *
  generalize recs (scanA []) = R0 at *
  refine callL_ex (vf := c5) rfl rfl ?_
  simp [c5, hw, hsm, h12, hc3, hc4]
  refine wp_loop (fun wx s => ∃ (i : Nat) (os : List LObj) (j jr : Nat) (oi : Option Nat) (B : List UInt8) (d : Nat) (R : List (List UInt8)), wx = P.length - i ∧ i ≤ P.length ∧ s.get 0 = mv nn P ∧ s.get 3 = .ptr (.mem m0.length) 0 ∧ s.get 4 = .ptr (.mem m1.length) 0 ∧ s.get 5 = .ptr (.mem j) 0 ∧ s.get 6 = .ptr (.mem jr) 0 ∧ s.get 7 = AV.int IntKind.i64 i ∧ s.loc 8 = os ∧ Four s.mem m0.length m1.length j jr oi B d R ∧ B.length ≤ sumT (P.take i) + 20 * i) ?_ P.length _ ?_
  rotate_left
  · exact ⟨0, [], j0, jr0, none, [], d0, R0, by simp, by simp, by simp, by simp, by simp, by simp, by simp, by simp, by simp, by simpa using hfour, by simp⟩
  clear hc3 hc4 hfour hs4 hA4 hr3 hk3 hJ3 hF2 hF h12 l4 lk3 l3' hj0 hjr0 hlm hl4 hl1 hm1
  rintro wx s ⟨i, os, j, jr, oi, B, d, R, hn, hi, e0, e3, e4, e5, e6, e7, l8, hT, hB⟩
  by_cases hlt : i < P.length
  · have w1 : W64 ((i : Int) + 1) ((i + 1 : Nat) : Int) := .mkI rfl (by omega) (by omega)
    have hss := sumT_succ hlt
    have hB2 := sumT_le (P := P) (i := i + 1)
    have hPi := hP _ (List.getElem_mem hlt)
    have hBs : B.length ≤ 7000 := by omega
    obtain ⟨m, hm⟩ : ∃ m, s.mem = m := ⟨_, rfl⟩
    rw [hm] at hT
    have hnx : ∀ (m' : Mem) (j' jr' : Nat) (oi' : Option Nat) (B' : List UInt8) (d' : Nat) (R' : List (List UInt8)), Four m' m0.length m1.length j' jr' oi' B' d' R' → B'.length ≤ sumT (P.take (i + 1)) + 20 * (i + 1) →
        ∃ n', n' < wx ∧ ∃ i', n' = P.length - i' ∧ i' ≤ P.length ∧ ((i + 1 : Nat) : Int) = ((i' : Nat) : Int) ∧ ∃ x x1, (∃ x2 x3, Four m' m0.length m1.length j' jr' x x1 x2 x3) ∧ x1.length ≤ sumT (P.take i') + 20 * i' := fun m' j' jr' oi' B' d' R' h1 h2 =>
      ⟨P.length - (i + 1), by omega, i + 1, rfl, by omega, rfl, oi', B', ⟨d', R', h1⟩, h2⟩
    generalize m0.length = k at *
    generalize m1.length = k2 at *
    by_cases h0 : P[i].kind = 0
    · have h34 := q34 m j k oi B d R hT.J P[i].text (by omega) (by omega)
      have hsmall := hT.J.small
      by_cases ht : P[i].text.length ≤ 1000
      · rw [if_pos ht] at h34
        obtain ⟨m', oi', hc34, hJ', hk'⟩ := h34
        obtain ⟨hA', g1, g2⟩ := hT.step1 hk'
        have h35 := q35 m' jr k2 B d R hA' P[i].text (by omega) (by omega) (by omega)
        rw [if_pos ht] at h35
        obtain ⟨m'', hc35, hA'', -, hs''⟩ := h35
        have hcont := hT.J.cont
        rw [hcont, frs_add] at hA''
        have hT' := hT.step2 hJ' g1 g2 hA'' hs''
        have hlB : (frs zero16 (R ++ [P[i].text])).length = B.length + P[i].text.length + 20 := by
          rw [← frs_add, List.length_append, ← hcont, frm_len]; omega
        have C := hT'.cmp (by omega)
        generalize frs zero16 (R ++ [P[i].text]) = B1 at *
        generalize R ++ [P[i].text] = R1 at *
        generalize dur R1 d = D at *
        generalize chn R1 = H at *
        obtain ⟨h20, hr, h37, ⟨o, ho, hjr⟩, h29, h38, h39, h40⟩ := C
        simp [e0, e3, e4, e5, e6, e7, l8, hm, hlt, gi_nat hlt, h0, w1.eq, hc34, hc35, objCells, h20, hr, h37, hjr, h29, h38, h39, h40, -Int.natCast_add]
        exact hnx _ _ _ _ _ _ _ hT' (by omega)
      · rw [if_neg ht] at h34
        have h35 := q35 m jr k2 B d R hT.A P[i].text (by omega) (by omega) (by omega)
        rw [if_neg ht] at h35
        have C := hT.cmp (by omega)
        generalize dur R d = D at *
        generalize chn R = H at *
        obtain ⟨h20, hr, h37, ⟨o, ho, hjr⟩, h29, h38, h39, h40⟩ := C
        simp [e0, e3, e4, e5, e6, e7, l8, hm, hlt, gi_nat hlt, w1.eq, h0, h34, h35, objCells, h20, hr, h37, hjr, h29, h38, h39, h40, -Int.natCast_add]
        exact hnx _ _ _ _ _ _ _ hT (by omega)
    by_cases h1 : P[i].kind = 1
    · obtain ⟨m', hc36, hJ', hk'⟩ := q36 m j k oi B d R hT.J
      obtain ⟨hA', g1, g2⟩ := hT.step1 hk'.to2
      have h15 := q15 m' k2 B d hA'.fil
      have hA'' : RAt (m'.set k2 (rfo B B.length)) jr k2 B B.length R := by
        obtain ⟨⟨o, ho, hj⟩, hf, hne⟩ := hA'
        exact ⟨⟨o, ho, by rw [List.getElem?_set_ne (Ne.symm hne)]; exact hj⟩, setk (lt_of_get hf) _, hne⟩
      have hT' := hT.step2 hJ' g1 g2 hA'' fun i h1 h2 => List.getElem?_set_ne (Ne.symm h2)
      have C := hT'.cmp (by omega)
      generalize m'.set k2 (rfo B B.length) = m'' at *
      generalize dur R B.length = D at *
      generalize chn R = H at *
      obtain ⟨h20, hr, h37, ⟨o, ho, hjr⟩, h29, h38, h39, h40⟩ := C
      simp [e0, e3, e4, e5, e6, e7, l8, hm, hlt, gi_nat hlt, w1.eq, h1, hc36, h15, objCells, h20, hr, h37, hjr, h29, h38, h39, h40, -Int.natCast_add]
      exact hnx _ _ _ _ _ _ _ hT' (by omega)
    by_cases h2 : P[i].kind = 2
    · obtain ⟨ma, mb, mc, md, j', jr', B', d', R', c1, c2, c3, c4, hT', hB'⟩ := hT.crash (by omega) P[i].kept P[i].at' hPi P[i].flip
      have C := hT'.cmp (by omega)
      generalize dur R' d' = D at *
      generalize chn R' = H at *
      obtain ⟨h20, hr, h37, ⟨o, ho, hjr⟩, h29, h38, h39, h40⟩ := C
      simp [e0, e3, e4, e5, e7, l8, hm, hlt, gi_nat hlt, w1.eq, h2, c1, c2, c3, c4, objCells, h20, hr, h37, hjr, h29, h38, h39, h40, -Int.natCast_add]
      exact hnx _ _ _ _ _ _ _ hT' (by omega)
    · have C := hT.cmp (by omega)
      generalize dur R d = D at *
      generalize chn R = H at *
      obtain ⟨h20, hr, h37, ⟨o, ho, hjr⟩, h29, h38, h39, h40⟩ := C
      simp [e0, e3, e4, e5, e6, e7, l8, hm, hlt, gi_nat hlt, w1.eq, h0, h1, h2, objCells, h20, hr, h37, hjr, h29, h38, h39, h40, -Int.natCast_add]
      exact hnx _ _ _ _ _ _ _ hT (by omega)
  · simp [e0, e7, hlt]
end Go.Vm.Ch55
