/- Chapter 11: what its functions compute. -/
import Derived.Test.YtmlfcgmiaapffaaGreatDoorC11qc
namespace Go.Vm.Ch11
open _root_.Ch11 (T11 c50 c51)
set_option maxRecDepth 10000
set_option maxHeartbeats 16000000
/-! ### the table of distances -/
def b50i : VC := (.seq (.seq (.region [⟨(.some 27), (.move (.t 7)), .none⟩, ⟨(.some 28), (.bin .geq (.t 27) (.k (.int .i64 0))), .none⟩]) (.cond (.t 28) .skip (.exit 2))) (.seq (.block 3 (.block 4 (.seq (.region [⟨(.some 56), (.move (.t 6)), .none⟩, ⟨(.some 57), (.move (.t 0)), .none⟩, ⟨(.some 58), (.lenSl (.t 57)), .none⟩, ⟨(.some 59), (.bin .eql (.t 56) (.t 58)), .none⟩, ⟨(.some 55), (.assign (.t 59)), .none⟩]) (.cond (.t 55) (.region [⟨(.some 60), (.move (.t 5)), .none⟩, ⟨(.some 61), (.move (.t 6)), .none⟩, ⟨(.some 62), (.iaddrSl 1 (.t 60) (.t 61)), .none⟩, ⟨(.some 63), (.load .none (.t 62)), .none⟩, ⟨(.some 64), (.move (.t 7)), .none⟩, ⟨(.some 65), (.move (.t 1)), .none⟩, ⟨(.some 66), (.lenSl (.t 65)), .none⟩, ⟨(.some 67), (.move (.t 7)), .none⟩, ⟨(.some 68), (.bin .sub (.t 66) (.t 67)), .none⟩, ⟨(.some 69), (.iaddrSl 1 (.t 63) (.t 64)), .none⟩, ⟨.none, (.store 1 (.t 69) (.t 68)), .none⟩]) (.seq (.region [⟨(.some 71), (.move (.t 7)), .none⟩, ⟨(.some 72), (.move (.t 1)), .none⟩, ⟨(.some 73), (.lenSl (.t 72)), .none⟩, ⟨(.some 74), (.bin .eql (.t 71) (.t 73)), .none⟩, ⟨(.some 70), (.assign (.t 74)), .none⟩]) (.cond (.t 70) (.region [⟨(.some 75), (.move (.t 5)), .none⟩, ⟨(.some 76), (.move (.t 6)), .none⟩, ⟨(.some 77), (.iaddrSl 1 (.t 75) (.t 76)), .none⟩, ⟨(.some 78), (.load .none (.t 77)), .none⟩, ⟨(.some 79), (.move (.t 7)), .none⟩, ⟨(.some 80), (.move (.t 0)), .none⟩, ⟨(.some 81), (.lenSl (.t 80)), .none⟩, ⟨(.some 82), (.move (.t 6)), .none⟩, ⟨(.some 83), (.bin .sub (.t 81) (.t 82)), .none⟩, ⟨(.some 84), (.iaddrSl 1 (.t 78) (.t 79)), .none⟩, ⟨.none, (.store 1 (.t 84) (.t 83)), .none⟩]) (.seq (.region [⟨(.some 86), (.move (.t 0)), .none⟩, ⟨(.some 87), (.move (.t 6)), .none⟩, ⟨(.some 88), (.iaddrSl 1 (.t 86) (.t 87)), .none⟩, ⟨(.some 89), (.load .none (.t 88)), .none⟩, ⟨(.some 90), (.move (.t 1)), .none⟩, ⟨(.some 91), (.move (.t 7)), .none⟩, ⟨(.some 92), (.iaddrSl 1 (.t 90) (.t 91)), .none⟩, ⟨(.some 93), (.load .none (.t 92)), .none⟩, ⟨(.some 94), (.bin .eql (.t 89) (.t 93)), .none⟩, ⟨(.some 85), (.assign (.t 94)), .none⟩]) (.cond (.t 85) (.region [⟨(.some 95), (.move (.t 5)), .none⟩, ⟨(.some 96), (.move (.t 6)), .none⟩, ⟨(.some 97), (.iaddrSl 1 (.t 95) (.t 96)), .none⟩, ⟨(.some 98), (.load .none (.t 97)), .none⟩, ⟨(.some 99), (.move (.t 7)), .none⟩, ⟨(.some 100), (.move (.t 5)), .none⟩, ⟨(.some 101), (.move (.t 6)), .none⟩, ⟨(.some 102), (.bin .add (.t 101) (.k (.int .i64 1))), .none⟩, ⟨(.some 103), (.iaddrSl 1 (.t 100) (.t 102)), .none⟩, ⟨(.some 104), (.load .none (.t 103)), .none⟩, ⟨(.some 105), (.move (.t 7)), .none⟩, ⟨(.some 106), (.bin .add (.t 105) (.k (.int .i64 1))), .none⟩, ⟨(.some 107), (.iaddrSl 1 (.t 104) (.t 106)), .none⟩, ⟨(.some 108), (.load .none (.t 107)), .none⟩, ⟨(.some 109), (.iaddrSl 1 (.t 98) (.t 99)), .none⟩, ⟨.none, (.store 1 (.t 109) (.t 108)), .none⟩]) (.region [⟨(.some 31), (.move (.t 5)), .none⟩, ⟨(.some 32), (.move (.t 6)), .none⟩, ⟨(.some 33), (.iaddrSl 1 (.t 31) (.t 32)), .none⟩, ⟨(.some 34), (.load .none (.t 33)), .none⟩, ⟨(.some 35), (.move (.t 7)), .none⟩, ⟨(.some 36), (.move (.t 5)), .none⟩, ⟨(.some 37), (.move (.t 6)), .none⟩, ⟨(.some 38), (.bin .add (.t 37) (.k (.int .i64 1))), .none⟩, ⟨(.some 39), (.iaddrSl 1 (.t 36) (.t 38)), .none⟩, ⟨(.some 40), (.load .none (.t 39)), .none⟩, ⟨(.some 41), (.move (.t 7)), .none⟩, ⟨(.some 42), (.iaddrSl 1 (.t 40) (.t 41)), .none⟩, ⟨(.some 43), (.load .none (.t 42)), .none⟩, ⟨(.some 44), (.move (.t 5)), .none⟩, ⟨(.some 45), (.move (.t 6)), .none⟩, ⟨(.some 46), (.iaddrSl 1 (.t 44) (.t 45)), .none⟩, ⟨(.some 47), (.load .none (.t 46)), .none⟩, ⟨(.some 48), (.move (.t 7)), .none⟩, ⟨(.some 49), (.bin .add (.t 48) (.k (.int .i64 1))), .none⟩, ⟨(.some 50), (.iaddrSl 1 (.t 47) (.t 49)), .none⟩, ⟨(.some 51), (.load .none (.t 50)), .none⟩, ⟨(.some 52), (.minmax .false [(.t 43), (.t 51)]), .none⟩, ⟨(.some 53), (.bin .add (.k (.int .i64 1)) (.t 52)), .none⟩, ⟨(.some 54), (.iaddrSl 1 (.t 34) (.t 35)), .none⟩, ⟨.none, (.store 1 (.t 54) (.t 53)), .none⟩]))))))))) (.region [⟨(.some 29), (.move (.t 7)), .none⟩, ⟨(.some 30), (.bin .sub (.t 29) (.k (.int .i64 1))), .none⟩, ⟨(.some 7), (.assign (.t 30)), .none⟩])))
def b50o : VC := (.seq (.seq (.region [⟨(.some 14), (.move (.t 6)), .none⟩, ⟨(.some 15), (.bin .geq (.t 14) (.k (.int .i64 0))), .none⟩]) (.cond (.t 15) .skip (.exit 0))) (.seq (.block 1 (.seq (.region [⟨(.some 18), (.move (.t 5)), .none⟩, ⟨(.some 19), (.move (.t 6)), .none⟩, ⟨(.some 20), (.move (.t 1)), .none⟩, ⟨(.some 21), (.lenSl (.t 20)), .none⟩, ⟨(.some 22), (.bin .add (.t 21) (.k (.int .i64 1))), .none⟩, ⟨(.some 23), (.mkslObj .true 1 8 (.int .i64 0) (.t 22) (.t 22)), .none⟩, ⟨(.some 24), (.iaddrSl 1 (.t 18) (.t 19)), .none⟩, ⟨.none, (.store 1 (.t 24) (.t 23)), .none⟩]) (.seq (.region [⟨(.some 25), (.move (.t 1)), .none⟩, ⟨(.some 26), (.lenSl (.t 25)), .none⟩, ⟨(.some 7), (.assign (.t 26)), .none⟩]) (.block 2 (.loop b50i))))) (.region [⟨(.some 16), (.move (.t 6)), .none⟩, ⟨(.some 17), (.bin .sub (.t 16) (.k (.int .i64 1))), .none⟩, ⟨(.some 6), (.assign (.t 17)), .none⟩])))
def b50v : VC := (.seq (.region [⟨(.some 4), (.assign (.k (.vec .none .false []))), .none⟩]) (.seq (.region [⟨(.some 8), (.move (.t 0)), .none⟩, ⟨(.some 9), (.lenSl (.t 8)), .none⟩, ⟨(.some 10), (.bin .add (.t 9) (.k (.int .i64 1))), .none⟩, ⟨(.some 11), (.mkslObj .true 1 24 (.vec .none .false []) (.t 10) (.t 10)), .none⟩, ⟨(.some 5), (.assign (.t 11)), .none⟩]) (.seq (.seq (.region [⟨(.some 12), (.move (.t 0)), .none⟩, ⟨(.some 13), (.lenSl (.t 12)), .none⟩, ⟨(.some 6), (.assign (.t 13)), .none⟩]) (.block 0 (.loop b50o))) (.seq (.region [⟨(.some 110), (.move (.t 5)), .none⟩, ⟨(.some 4), (.assign (.t 110)), .none⟩]) .ret))))
def levC (o n : List Rw) (r kk : Nat) : List AV := (List.range (n.length + 1)).map fun k => AV.int IntKind.i64 (if k < kk then 0 else (lev (o.drop r) (n.drop k) : Nat))
theorem levC_len (o n : List Rw) (r kk : Nat) : (levC o n r kk).length = n.length + 1 := by simp [levC]
theorem levC_get {o n : List Rw} {r kk k : Nat} (h : k ≤ n.length) (hk : kk ≤ k) : (levC o n r kk)[k]? = some (AV.int IntKind.i64 (lev (o.drop r) (n.drop k) : Nat)) := by
  have hnl : ¬ k < kk := by omega
  have hr : k < (List.range (n.length + 1)).length := by simp; omega
  simp [levC, hnl, show k < n.length + 1 by omega]
theorem levC_set {o n : List Rw} {r k : Nat} (h : k ≤ n.length) : (levC o n r (k + 1)).set k (AV.int IntKind.i64 (lev (o.drop r) (n.drop k) : Nat)) = levC o n r k := by
  apply List.ext_getElem?
  intro j
  rw [List.getElem?_set, levC_len]
  by_cases hj : j < n.length + 1
  · by_cases e : k = j
    · subst e
      rw [if_pos rfl, if_pos hj, levC_get (by omega) (Nat.le_refl _)]
    · rw [if_neg e]
      have h1 : (j < k + 1) ↔ (j < k) := by omega
      simp [levC, hj, h1]
  · have h1 : (levC o n r k)[j]? = none := by rw [List.getElem?_eq_none_iff, levC_len]; omega
    have h2 : (levC o n r (k + 1))[j]? = none := by rw [List.getElem?_eq_none_iff, levC_len]; omega
    rw [h1, h2]
    split
    · split
      · omega
      · rfl
    · rfl
theorem b50i_ok (o n : List Rw) (na nb : Bool) (ho : o.length ≤ 500) (hn : n.length ≤ 500) (r L Q : Nat) (hr : r ≤ o.length) (mm : Mem) (OUT : List AV) (hL : mm[L]? = some (some (.cells false OUT))) (hLQ : L ≠ Q)
    (hO : OUT[r]? = some (.row (.mem Q) 0 (n.length + 1))) (hQ : Q < mm.length) (hP : r < o.length → ∃ P, P ≠ Q ∧ OUT[r + 1]? = some (.row (.mem P) 0 (n.length + 1)) ∧ mm[P]? = some (some (.cells false (levC o n (r + 1) 0))))
    (K : VExit → St → Prop) (s : St) (e0 : s.get 0 = sv na o) (e1 : s.get 1 = sv nb n) (e5 : s.get 5 = .row (.mem L) 0 (o.length + 1)) (e6 : s.get 6 = AV.int IntKind.i64 r) (e7 : s.get 7 = AV.int IntKind.i64 n.length) (em : s.mem = mm.set Q (some (.cells false (levC o n r (n.length + 1)))))
    (hK : ∀ s', s'.get 0 = sv na o → s'.get 1 = sv nb n → s'.get 5 = .row (.mem L) 0 (o.length + 1) → s'.get 6 = AV.int IntKind.i64 r → s'.mem = mm.set Q (some (.cells false (levC o n r 0))) → K (.exit 2) s') :
    wp T11 (.loop b50i) s K := by
  refine wp_loop (fun w s => ∃ kk : Nat, w = kk ∧ kk ≤ n.length + 1 ∧ s.get 0 = sv na o ∧ s.get 1 = sv nb n ∧ s.get 5 = .row (.mem L) 0 (o.length + 1) ∧ s.get 6 = AV.int IntKind.i64 r ∧ s.get 7 = AV.int IntKind.i64 ((kk : Int) - 1) ∧ s.mem = mm.set Q (some (.cells false (levC o n r kk)))) ?_ (n.length + 1) _ ?_
  rotate_left
  · exact ⟨n.length + 1, rfl, Nat.le_refl _, e0, e1, e5, e6, by rw [e7]; congr 1; omega, em⟩
  clear e0 e1 e5 e6 e7 em s
  rintro w s ⟨kk, rfl, hkk, e0, e1, e5, e6, e7, em⟩
  cases w with
  | zero =>
    simp [b50i, e7]
    exact hK _ (by simp [e0]) (by simp [e1]) (by simp [e5]) (by simp [e6]) (by simp [em])
  | succ k =>
  have hk : k ≤ n.length := by omega
  have e7 : s.get 7 = AV.int IntKind.i64 (k : Int) := by rw [e7]; congr 1; omega
  have hset := levC_set (o := o) (r := r) hk
  have hlv : lev (o.drop r) (n.drop k) ≤ 1000 := by have := lev_le (o.drop r) (n.drop k); simp at this; omega
  have hlen := levC_len o n r (k + 1)
  have w0 : W64 ((k : Int) - 1) ((k : Int) - 1) := .mkI rfl (by omega) (by omega)
  have hfin : ∀ v : Int, v = (lev (o.drop r) (n.drop k) : Nat) → (levC o n r (k + 1)).set k (AV.int IntKind.i64 v) = levC o n r k := fun v hv => by rw [hv]; exact hset
  have m1 : (mm.set Q (some (.cells false (levC o n r (k + 1)))))[L]? = some (some (.cells false OUT)) := by rw [List.getElem?_set_ne (Ne.symm hLQ)]; exact hL
  have m2 : (mm.set Q (some (.cells false (levC o n r (k + 1)))))[Q]? = some (some (.cells false (levC o n r (k + 1)))) := by simp [hQ]
  have m3 : ∀ X, (mm.set Q (some (.cells false (levC o n r (k + 1))))).set Q X = mm.set Q X := fun X => List.set_set ..
  obtain ⟨CUR, hC⟩ : ∃ C, levC o n r (k + 1) = C := ⟨_, rfl⟩
  have hCk : k + 1 ≤ n.length → CUR[k + 1]? = some (AV.int IntKind.i64 (lev (o.drop r) (n.drop (k + 1)) : Nat)) := fun h => by rw [← hC]; exact levC_get h (Nat.le_refl _)
  rw [hC] at em m1 m2 m3 hlen hfin
  obtain ⟨MM, hM⟩ : ∃ M, mm.set Q (some (LObj.cells false CUR)) = M := ⟨_, rfl⟩
  rw [hM] at em m1 m2 m3
  have hfin2 : ∃ n', n' < k + 1 ∧ n' ≤ n.length + 1 ∧ ((k : Int) - 1 = (n' : Int) - 1) ∧ mm.set Q (some (LObj.cells false (levC o n r k))) = mm.set Q (some (LObj.cells false (levC o n r n'))) := ⟨k, by omega, by omega, rfl, rfl⟩
  by_cases a1 : r = o.length
  · subst a1
    have hv := hfin ((n.length : Int) - k) (by rw [List.drop_length, lev_nil, List.length_drop]; omega)
    have w1 : W64 ((n.length : Int) - k) ((n.length : Int) - k) := .mkI rfl (by omega) (by omega)
    have hb1 : (o.length : Int) < o.length + 1 := by omega
    have hb2 : (k : Int) < n.length + 1 := by omega
    simp [b50i, e0, e1, e5, e6, e7, em, m1, m2, m3, hO, w0.eq, w1.eq, objCells, hlen, hb1, hb2, hv]
    exact ⟨hk, k, by omega, by omega, rfl, rfl⟩
  have hrl : r < o.length := by omega
  have a1' : ¬ (r : Int) = o.length := by omega
  have hdr : o.drop r = o[r] :: o.drop (r + 1) := List.drop_eq_getElem_cons hrl
  have hb1 : (r : Int) < o.length + 1 := by omega
  have hb2 : (k : Int) < n.length + 1 := by omega
  by_cases a2 : k = n.length
  · subst a2
    have hv := hfin ((o.length : Int) - r) (by rw [List.drop_length, lev_nil2, List.length_drop]; omega)
    have w1 : W64 ((o.length : Int) - r) ((o.length : Int) - r) := .mkI rfl (by omega) (by omega)
    simp [b50i, e0, e1, e5, e6, e7, em, m1, m2, m3, hO, w0.eq, w1.eq, objCells, hlen, hb1, hb2, hv, a1']
    repeat (refine And.intro (by omega) ?_)
    exact ⟨n.length, by omega, by omega, rfl, rfl⟩
  have hkl : k < n.length := by omega
  have a2' : ¬ (k : Int) = n.length := by omega
  have hdk : n.drop k = n[k] :: n.drop (k + 1) := List.drop_eq_getElem_cons hkl
  obtain ⟨P, hPQ, hO1, hP1⟩ := hP hrl
  have w2 : W64 ((r : Int) + 1) ((r + 1 : Nat) : Int) := .mkI rfl (by omega) (by omega)
  have w3 : W64 ((k : Int) + 1) ((k + 1 : Nat) : Int) := .mkI rfl (by omega) (by omega)
  have m4 : MM[P]? = some (some (.cells false (levC o n (r + 1) 0))) := by rw [← hM, List.getElem?_set_ne (Ne.symm hPQ)]; exact hP1
  have p1 : (levC o n (r + 1) 0)[k + 1]? = some (AV.int IntKind.i64 (lev (o.drop (r + 1)) (n.drop (k + 1)) : Nat)) := levC_get (by omega) (Nat.zero_le _)
  have p0 : (levC o n (r + 1) 0)[k]? = some (AV.int IntKind.i64 (lev (o.drop (r + 1)) (n.drop k) : Nat)) := levC_get (by omega) (Nat.zero_le _)
  have hC1 := hCk (by omega)
  have hlp := levC_len o n (r + 1) 0
  obtain ⟨PR, hPR⟩ : ∃ X, levC o n (r + 1) 0 = X := ⟨_, rfl⟩
  rw [hPR] at m4 p1 p0 hlp
  have hb3 : ((r + 1 : Nat) : Int) < o.length + 1 := by omega
  have hb4 : ((k + 1 : Nat) : Int) < n.length + 1 := by omega
  have hl11 : lev (o.drop (r + 1)) (n.drop (k + 1)) ≤ 1000 := by have := lev_le (o.drop (r + 1)) (n.drop (k + 1)); simp at this; omega
  have hl10 : lev (o.drop (r + 1)) (n.drop k) ≤ 1000 := by have := lev_le (o.drop (r + 1)) (n.drop k); simp at this; omega
  have hl01 : lev (o.drop r) (n.drop (k + 1)) ≤ 1000 := by have := lev_le (o.drop r) (n.drop (k + 1)); simp at this; omega
  by_cases a3 : o[r] = n[k]
  · have hv := hfin (lev (o.drop (r + 1)) (n.drop (k + 1)) : Nat) (by rw [hdr, hdk, a3, lev_same])
    simp [b50i, e0, e1, e5, e6, e7, em, m1, m2, m3, m4, hO, hO1, w0.eq, w2.eq, w3.eq, objCells, hlen, hv, a1', a2', gi_nat hrl, gi_nat hkl, a3, p1, hrl, hkl, -Int.natCast_add]
    repeat (refine And.intro (by omega) ?_)
    exact ⟨k, by omega, by omega, rfl, rfl⟩
  · have hlv2 : lev (o.drop r) (n.drop k) = 1 + min (lev (o.drop (r + 1)) (n.drop k)) (lev (o.drop r) (n.drop (k + 1))) := by
      rw [hdr, hdk, lev_ne a3]
    obtain ⟨x, hx⟩ : ∃ x, lev (o.drop (r + 1)) (n.drop k) = x := ⟨_, rfl⟩
    obtain ⟨y, hy⟩ : ∃ y, lev (o.drop r) (n.drop (k + 1)) = y := ⟨_, rfl⟩
    rw [hx] at p0 hlv2 hl10
    rw [hy] at hC1 hlv2 hl01
    have hv := hfin (((1 + min x y : Nat)) : Int) (by rw [hlv2])
    have w4 : W64 (1 + (if y < x then (y : Int) else (x : Int))) ((1 + min x y : Nat) : Int) := .mkI (by omega) (by omega) (by omega)
    have hC1' : ∀ h : k + 1 < CUR.length, CUR[k + 1] = AV.int IntKind.i64 (y : Nat) := fun h => (List.getElem?_eq_some_iff.1 hC1).2
    have p0' : ∀ h : k < PR.length, PR[k] = AV.int IntKind.i64 (x : Nat) := fun h => (List.getElem?_eq_some_iff.1 p0).2
    simp [b50i, e0, e1, e5, e6, e7, em, m1, m2, m3, m4, hO, hO1, hC1', w0.eq, w2.eq, w3.eq, w4.eq, objCells, hlen, hv, a1', a2', gi_nat hrl, gi_nat hkl, a3, p0, hrl, hkl, -Int.natCast_add]
    repeat (refine And.intro (by omega) ?_)
    exact ⟨k, by omega, by omega, rfl, rfl⟩
end Go.Vm.Ch11
