/- Chapter 09: what its functions compute. -/
import Derived.Test.YtijbapbijpdpiaaDoorC09t
namespace Go.Vm.Ch09
open _root_.Ch09 (T09 c6)
set_option maxRecDepth 10000
set_option maxHeartbeats 16000000
def ib6 : VC := (.seq (.seq (.region [⟨(.some 67), (.move (.t 9)), .none⟩, ⟨(.some 68), (.move (.t 1)), .none⟩, ⟨(.some 69), (.bin .lss (.t 67) (.t 68)), .none⟩, ⟨(.some 70), (.move (.t 69)), .none⟩, ⟨(.some 71), (.move (.t 6)), (.some (70, .true))⟩, ⟨(.some 72), (.bin .gtr (.t 71) (.k (.int .i64 0))), (.some (70, .true))⟩, ⟨(.some 73), (.pick (.t 70) (.t 72) (.k (.bool .false))), .none⟩]) (.cond (.t 73) .skip (.exit 2))) (.seq (.block 3 (.region [⟨(.some 76), (.move (.t 5)), .none⟩, ⟨(.some 77), (.bin .add (.t 76) (.k (.str [32]))), .none⟩, ⟨(.some 5), (.assign (.t 77)), .none⟩])) (.region [⟨(.some 74), (.move (.t 9)), .none⟩, ⟨(.some 75), (.bin .add (.t 74) (.k (.int .i64 1))), .none⟩, ⟨(.some 9), (.assign (.t 75)), .none⟩])))
def ob6 : VC := (.seq (.seq (.region [⟨(.some 34), (.move (.t 6)), .none⟩, ⟨(.some 35), (.move (.t 0)), .none⟩, ⟨(.some 36), (.lenSl (.t 35)), .none⟩, ⟨(.some 37), (.bin .lss (.t 34) (.t 36)), .none⟩]) (.cond (.t 37) .skip (.exit 0))) (.seq (.block 1 (.seq (.seq (.region [⟨(.some 40), (.move (.t 0)), .none⟩, ⟨(.some 41), (.move (.t 6)), .none⟩, ⟨(.some 42), (.iaddrSl 4 (.t 40) (.t 41)), .none⟩, ⟨(.some 43), (.faddr 1 (.t 42)), .none⟩, ⟨(.some 44), (.load .none (.t 43)), .none⟩, ⟨(.some 45), (.lenStr (.t 44)), .none⟩, ⟨(.some 46), (.bin .gtr (.t 45) (.k (.int .i64 100))), .none⟩]) (.cond (.t 46) (.seq (.region [⟨(.some 4), (.assign (.k (.bool .true))), .none⟩]) .ret) .skip)) (.seq (.region [⟨(.some 48), (.move (.t 0)), .none⟩, ⟨(.some 49), (.move (.t 6)), .none⟩, ⟨(.some 50), (.iaddrSl 4 (.t 48) (.t 49)), .none⟩, ⟨(.some 51), (.load (.some 4) (.t 50)), .none⟩, ⟨(.some 52), (.callP (.k (.fn (.func 17) [])) [(.t 51)]), .none⟩, ⟨(.some 47), (.move (.t 52)), .none⟩, ⟨(.some 53), (.ext (.t 47) 0), .none⟩, ⟨(.some 54), (.ext (.t 47) 1), .none⟩, ⟨(.some 7), (.assign (.t 53)), .none⟩, ⟨(.some 8), (.assign (.t 54)), .none⟩]) (.seq (.seq (.region [⟨(.some 55), (.move (.t 8)), .none⟩, ⟨(.some 56), (.bin .neq (.t 55) (.k (.int .i64 0))), .none⟩]) (.cond (.t 56) (.seq (.region [⟨(.some 57), (.move (.t 7)), .none⟩, ⟨(.some 58), (.bin .eql (.t 57) (.k (.str []))), .none⟩, ⟨(.some 59), (.move (.t 58)), .none⟩, ⟨(.some 60), (.move (.t 0)), (.some (59, .true))⟩, ⟨(.some 61), (.move (.t 6)), (.some (59, .true))⟩, ⟨(.some 62), (.iaddrSl 4 (.t 60) (.t 61)), (.some (59, .true))⟩, ⟨(.some 63), (.load (.some 4) (.t 62)), (.some (59, .true))⟩, ⟨(.some 64), (.callP (.k (.fn (.func 19) [])) [(.t 63)]), (.some (59, .true))⟩, ⟨(.some 65), (.un .not (.t 64)), (.some (59, .true))⟩, ⟨(.some 66), (.pick (.t 59) (.t 65) (.k (.bool .false))), .none⟩, ⟨(.some 4), (.assign (.t 66)), .none⟩]) .ret) .skip)) (.seq (.seq (.region [⟨(.some 9), (.assign (.k (.int .i64 0))), .none⟩]) (.block 2 (.loop (.seq (.seq (.region [⟨(.some 67), (.move (.t 9)), .none⟩, ⟨(.some 68), (.move (.t 1)), .none⟩, ⟨(.some 69), (.bin .lss (.t 67) (.t 68)), .none⟩, ⟨(.some 70), (.move (.t 69)), .none⟩, ⟨(.some 71), (.move (.t 6)), (.some (70, .true))⟩, ⟨(.some 72), (.bin .gtr (.t 71) (.k (.int .i64 0))), (.some (70, .true))⟩, ⟨(.some 73), (.pick (.t 70) (.t 72) (.k (.bool .false))), .none⟩]) (.cond (.t 73) .skip (.exit 2))) (.seq (.block 3 (.region [⟨(.some 76), (.move (.t 5)), .none⟩, ⟨(.some 77), (.bin .add (.t 76) (.k (.str [32]))), .none⟩, ⟨(.some 5), (.assign (.t 77)), .none⟩])) (.region [⟨(.some 74), (.move (.t 9)), .none⟩, ⟨(.some 75), (.bin .add (.t 74) (.k (.int .i64 1))), .none⟩, ⟨(.some 9), (.assign (.t 75)), .none⟩])))))) (.region [⟨(.some 78), (.move (.t 5)), .none⟩, ⟨(.some 79), (.move (.t 7)), .none⟩, ⟨(.some 80), (.bin .add (.t 78) (.t 79)), .none⟩, ⟨(.some 5), (.assign (.t 80)), .none⟩])))))) (.region [⟨(.some 38), (.move (.t 6)), .none⟩, ⟨(.some 39), (.bin .add (.t 38) (.k (.int .i64 1))), .none⟩, ⟨(.some 6), (.assign (.t 39)), .none⟩])))
def eb6 : VC := (.seq (.seq (.region [⟨(.some 141), (.move (.t 15)), .none⟩, ⟨(.some 142), (.move (.t 12)), .none⟩, ⟨(.some 143), (.bin .lss (.t 141) (.t 142)), .none⟩]) (.cond (.t 143) .skip (.exit 4))) (.seq (.block 5 (.seq (.region [⟨(.some 146), (.faddr 1 (.t 10)), .none⟩, ⟨(.some 147), (.load .none (.t 146)), .none⟩, ⟨(.some 148), (.move (.t 15)), .none⟩, ⟨(.some 149), (.iaddrSl 4 (.t 147) (.t 148)), .none⟩, ⟨(.some 150), (.faddr 0 (.t 149)), .none⟩, ⟨(.some 151), (.load .none (.t 150)), .none⟩, ⟨(.some 152), (.move (.t 0)), .none⟩, ⟨(.some 153), (.move (.t 15)), .none⟩, ⟨(.some 154), (.iaddrSl 4 (.t 152) (.t 153)), .none⟩, ⟨(.some 155), (.faddr 0 (.t 154)), .none⟩, ⟨(.some 156), (.load .none (.t 155)), .none⟩, ⟨(.some 157), (.bin .neq (.t 151) (.t 156)), .none⟩, ⟨(.some 158), (.move (.t 157)), .none⟩, ⟨(.some 159), (.faddr 1 (.t 10)), (.some (158, .false))⟩, ⟨(.some 160), (.load .none (.t 159)), (.some (158, .false))⟩, ⟨(.some 161), (.move (.t 15)), (.some (158, .false))⟩, ⟨(.some 162), (.iaddrSl 4 (.t 160) (.t 161)), (.some (158, .false))⟩, ⟨(.some 163), (.faddr 1 (.t 162)), (.some (158, .false))⟩, ⟨(.some 164), (.load .none (.t 163)), (.some (158, .false))⟩, ⟨(.some 165), (.move (.t 0)), (.some (158, .false))⟩, ⟨(.some 166), (.move (.t 15)), (.some (158, .false))⟩, ⟨(.some 167), (.iaddrSl 4 (.t 165) (.t 166)), (.some (158, .false))⟩, ⟨(.some 168), (.faddr 1 (.t 167)), (.some (158, .false))⟩, ⟨(.some 169), (.load .none (.t 168)), (.some (158, .false))⟩, ⟨(.some 170), (.bin .neq (.t 164) (.t 169)), (.some (158, .false))⟩, ⟨(.some 171), (.pick (.t 158) (.k (.bool .true)) (.t 170)), .none⟩, ⟨(.some 172), (.move (.t 171)), .none⟩, ⟨(.some 173), (.faddr 1 (.t 10)), (.some (172, .false))⟩, ⟨(.some 174), (.load .none (.t 173)), (.some (172, .false))⟩, ⟨(.some 175), (.move (.t 15)), (.some (172, .false))⟩, ⟨(.some 176), (.iaddrSl 4 (.t 174) (.t 175)), (.some (172, .false))⟩, ⟨(.some 177), (.faddr 2 (.t 176)), (.some (172, .false))⟩, ⟨(.some 178), (.load .none (.t 177)), (.some (172, .false))⟩, ⟨(.some 179), (.move (.t 0)), (.some (172, .false))⟩, ⟨(.some 180), (.move (.t 15)), (.some (172, .false))⟩, ⟨(.some 181), (.iaddrSl 4 (.t 179) (.t 180)), (.some (172, .false))⟩, ⟨(.some 182), (.faddr 2 (.t 181)), (.some (172, .false))⟩, ⟨(.some 183), (.load .none (.t 182)), (.some (172, .false))⟩, ⟨(.some 184), (.bin .neq (.t 178) (.t 183)), (.some (172, .false))⟩, ⟨(.some 185), (.pick (.t 172) (.k (.bool .true)) (.t 184)), .none⟩]) (.cond (.t 185) (.seq (.region [⟨(.some 4), (.assign (.k (.bool .false))), .none⟩]) .ret) .skip))) (.region [⟨(.some 144), (.move (.t 15)), .none⟩, ⟨(.some 145), (.bin .add (.t 144) (.k (.int .i64 1))), .none⟩, ⟨(.some 15), (.assign (.t 145)), .none⟩])))
/-- The blanks before a spelling. -/
theorem in6 (Q : VExit → St → Prop) (t : St) (i B : Nat) (S : List UInt8) (hS : S.length ≤ 100000) (hB : B ≤ 4) (e1 : t.get 1 = AV.int IntKind.i64 B) (e5 : t.get 5 = .str S) (e6 : t.get 6 = AV.int IntKind.i64 i) (e9 : t.get 9 = AV.int IntKind.i64 0)
    (hQ : ∀ t', t'.get 0 = t.get 0 → t'.get 1 = AV.int IntKind.i64 B → t'.get 5 = .str (if 0 < i then S ++ sep B else S) → t'.get 6 = AV.int IntKind.i64 i → t'.get 7 = t.get 7 → t'.mem = t.mem → t'.loc = t.loc → Q (.exit 2) t') : wp T09 (.loop ib6) t Q := by
  unfold ib6
  by_cases h0 : 0 < i
  · rw [if_pos h0] at hQ
    have h0i : (0 : Int) < i := by omega
    refine wp_loop (fun n u => ∃ k : Nat, n = B - k ∧ k ≤ B ∧ u.get 0 = t.get 0 ∧ u.get 1 = AV.int IntKind.i64 B ∧ u.get 5 = .str (S ++ sep k) ∧ u.get 6 = AV.int IntKind.i64 i ∧ u.get 7 = t.get 7 ∧ u.get 9 = AV.int IntKind.i64 k ∧ u.mem = t.mem ∧ u.loc = t.loc) ?_ _ t ⟨0, rfl, by omega, rfl, e1, by simpa [sep] using e5, e6, rfl, e9, rfl, rfl⟩
    rintro n u ⟨k, hn, hk, f0, f1, f5, f6, f7, f9, fm, fl⟩
    by_cases hlt : k < B
    · have w1 : W64 ((k : Int) + 1) ((k + 1 : Nat) : Int) := .mkI rfl (by omega) (by omega)
      have hsl : (sep k).length = k := by simp [sep]
      simp [f0, f1, f5, f6, f7, f9, hlt, h0, w1.eq, hsl, -Int.natCast_add]
      refine ⟨by omega, B - (k + 1), by omega, k + 1, rfl, by omega, ?_, rfl, fm, fl⟩
      unfold sep; rw [List.replicate_succ']
    · have : k = B := by omega
      subst this
      simp [f1, f9]
      exact hQ _ (by simp [f0]) (by simp [f1]) (by simp [f5]) (by simp [f6]) (by simp [f7]) (by simp [fm]) (by simp [fl])
  · rw [if_neg h0] at hQ
    have hi : i = 0 := by omega
    subst hi
    refine wp_loop (fun n u => u = t) ?_ 0 t rfl
    rintro n u rfl
    by_cases hb : 0 < B
    · have hbi : (0 : Int) < B := by omega
      simp [e1, e9, e6, hb]
      exact hQ _ (by simp) (by simp [e1]) (by simp [e5]) (by simp [e6]) (by simp) (by simp) (by simp)
    · have hbi : ¬ (0 : Int) < B := by omega
      simp [e1, e9, hb]
      exact hQ _ (by simp) (by simp [e1]) (by simp [e5]) (by simp [e6]) (by simp) (by simp) (by simp)
theorem jn_take (B : Nat) {P : List Tk} {i : Nat} (h : i < P.length) : jn B (P.take (i + 1)) = (if 0 < i then jn B (P.take i) ++ sep B else jn B (P.take i)) ++ spT P[i] := by
  rw [List.take_succ_eq_append_getElem h]
  by_cases h0 : 0 < i
  · rw [if_pos h0, jn_snoc _ _ (by intro e; have := congrArg List.length e; rw [List.length_take, List.length_nil] at this; omega)]
  · have : i = 0 := by omega
    subst this
    simp [jn, tailS]
/-- The loop over the tokens. -/
theorem out6 (Q : VExit → St → Prop) (t : St) (P : List Tk) (nn : Bool) (B : Nat) (m : Mem) (hP : P.length ≤ 60) (hB : B ≤ 4) (hn : ∀ p ∈ P, inI p.n) (_ : ∀ p ∈ P, inL p.t.length) (e0 : t.get 0 = vv none nn tv P) (e1 : t.get 1 = AV.int IntKind.i64 B) (e5 : t.get 5 = .str []) (e6 : t.get 6 = AV.int IntKind.i64 0) (hm : t.mem = m)
    (hR : ∀ t', t'.get 4 = .bool true → t'.mem = m → Q .ret t')
    (hE : (∀ p ∈ P, vaT p = true) → (jn B P).length ≤ 110 * P.length → ∀ t', t'.get 0 = vv none nn tv P → t'.get 5 = .str (jn B P) → t'.mem = m → t'.loc = t.loc → Q (.exit 0) t') : wp T09 (.loop ob6) t Q := by
  unfold ob6
  refine wp_loop (fun n u => ∃ i : Nat, n = P.length - i ∧ i ≤ P.length ∧ u.get 0 = vv none nn tv P ∧ u.get 1 = AV.int IntKind.i64 B ∧ u.get 5 = .str (jn B (P.take i)) ∧ u.get 6 = AV.int IntKind.i64 i ∧ u.mem = m ∧ u.loc = t.loc ∧ (jn B (P.take i)).length ≤ 110 * i ∧ ∀ p ∈ P.take i, vaT p = true) ?_ _ t ⟨0, rfl, by omega, e0, e1, by simpa [jn] using e5, e6, hm, rfl, by simp [jn], by simp⟩
  rintro n u ⟨i, hn', hi, f0, f1, f5, f6, fm, fl, hlen, hva⟩
  by_cases hlt : i < P.length
  rotate_left
  · have hie : i = P.length := by omega
    subst hie
    rw [List.take_length] at f5 hva hlen
    simp [f0, f6]
    exact hE hva hlen _ (by simp [f0]) (by simp [f5]) (by simp [fm]) (by simp [fl])
  have hpi := List.getElem_mem hlt
  have hni := hn _ hpi
  have w1 : W64 ((i : Int) + 1) ((i + 1 : Nat) : Int) := .mkI rfl (by omega) (by omega)
  by_cases h100 : 100 < P[i].t.length
  · have h100i : (100 : Int) < P[i].t.length := by omega
    simp [f0, f6, hlt, gi_nat hlt, et, -et_def, h100i]
    exact hR _ (by simp) (by simp [fm])
  have h100i : ¬ (100 : Int) < P[i].t.length := by omega
  have h17 := q17 P[i].k P[i].t P[i].n P[i].a hni (by omega) []
  have h19 := q19 P[i].k P[i].t P[i].n P[i].a (by omega) []
  cases hv : valP P[i].k P[i].t P[i].n with
  | false =>
    rw [hv] at h17 h19
    simp only [Bool.false_eq_true, if_false] at h17
    simp [f0, f6, hlt, gi_nat hlt, et, -et_def, h100i, h17, h19]
    exact hR _ (by simp) (by simp [fm])
  | true =>
    rw [hv] at h17
    simp only [if_true] at h17
    have hsp : (spT P[i]).length ≤ 102 := spl_len hni (by omega)
    have hjt := jn_take B hlt
    simp [f0, f6, hlt, gi_nat hlt, et, -et_def, h100i, h17]
    refine in6 _ _ i B (jn B (P.take i)) (by omega) hB (by simp [f1]) (by simp [f5]) (by simp [f6]) (by simp) ?_
    intro t' g0 g1 g5 g6 g7 gm gl
    simp at g0 g7 gm gl
    have hspd : spl P[i].k P[i].t P[i].n = spT P[i] := rfl
    rw [hspd] at g7
    have hS : (if 0 < i then jn B (P.take i) ++ sep B else jn B (P.take i)).length ≤ 110 * i + 4 := by
      split
      · rw [List.length_append]; have : (sep B).length = B := by simp [sep]
        omega
      · omega
    have hnx : (jn B (P.take (i + 1))).length ≤ 110 * (i + 1) := by rw [hjt, List.length_append]; omega
    generalize (if 0 < i then jn B (P.take i) ++ sep B else jn B (P.take i)) = S at *
    simp [g0, g1, g5, g6, g7, gm, f0, fm, w1.eq, -Int.natCast_add]
    refine ⟨by omega, P.length - (i + 1), by omega, i + 1, rfl, by omega, by rw [hjt], rfl, by rw [gl]; exact fl, hnx, ?_⟩
    intro p hp
    rw [List.take_succ_eq_append_getElem hlt] at hp
    rcases List.mem_append.1 hp with h | h
    · exact hva p h
    · rw [List.mem_singleton.1 h]; exact hv
/-- The comparison at the end. -/
theorem cmp6 (Q : VExit → St → Prop) (t : St) (P T : List Tk) (nn n2 : Bool) (N : Nat) (cm : List UInt8) (hd : Bool) (m : Mem) (hs : ∀ j, j < N → ∃ (h1 : j < T.length) (h2 : j < P.length), T[j].k = P[j].k ∧ T[j].t = P[j].t ∧ T[j].n = P[j].n) (hN : N ≤ 100)
    (e0 : t.get 0 = vv none nn tv P) (e10 : t.get 10 = .ptr (.loc 10 0) 0) (l10 : t.loc 10 = [.cells false [AV.int IntKind.i64 0, vv none n2 tv T, .bool hd, .str cm]]) (e12 : t.get 12 = AV.int IntKind.i64 N) (e15 : t.get 15 = AV.int IntKind.i64 0) (hm : t.mem = m)
    (hE : ∀ t', t'.mem = m → Q (.exit 4) t') : wp T09 (.loop eb6) t Q := by
  unfold eb6
  refine wp_loop (fun n u => ∃ j : Nat, n = N - j ∧ j ≤ N ∧ u.get 0 = vv none nn tv P ∧ u.get 10 = .ptr (.loc 10 0) 0 ∧ u.loc 10 = [.cells false [AV.int IntKind.i64 0, vv none n2 tv T, .bool hd, .str cm]] ∧ u.get 12 = AV.int IntKind.i64 N ∧ u.get 15 = AV.int IntKind.i64 j ∧ u.mem = m) ?_ _ t ⟨0, rfl, by omega, e0, e10, l10, e12, e15, hm⟩
  rintro n u ⟨j, hn, hj, f0, f10, g10, f12, f15, fm⟩
  by_cases hlt : j < N
  · obtain ⟨h1, h2, s1, s2, s3⟩ := hs j hlt
    have w1 : W64 ((j : Int) + 1) ((j + 1 : Nat) : Int) := .mkI rfl (by omega) (by omega)
    simp [f0, f10, g10, f12, f15, hlt, h1, h2, gi_nat h1, gi_nat h2, s1, s2, s3, et, -et_def, w1.eq, objCells, -Int.natCast_add]
    exact ⟨N - (j + 1), by omega, j + 1, rfl, by omega, rfl, fm⟩
  · have : j = N := by omega
    subst this
    simp [f12, f15]
    exact hE _ (by simp [fm])
theorem same3_get {P T : List Tk} (h : same3 P T) : P.length = T.length ∧ ∀ j (h1 : j < T.length) (h2 : j < P.length), T[j].k = P[j].k ∧ T[j].t = P[j].t ∧ T[j].n = P[j].n := by
  unfold same3 at h
  have hl := congrArg List.length h
  simp at hl
  refine ⟨hl.symm, fun j h1 h2 => ?_⟩
  have := congrArg (fun l => l[j]?) h
  simp [h1, h2] at this
  exact this
theorem law6 (P : List Tk) (nn : Bool) (B : Int) (hB : inI B) (_ : inL P.length) (hn : ∀ p ∈ P, inI p.n) (hl : ∀ p ∈ P, inL p.t.length) : callL T09 6 [vv none nn tv P, AV.int IntKind.i64 B] [] = some (.bool true, []) := by
  apply callL_body (vf := c6) rfl rfl
  have ha := awake
  by_cases g1 : (60 : Int) < P.length
  · simp [c6, ha, g1]
  by_cases g2 : (P.length : Int) = 0
  · simp [c6, ha, g2]
  by_cases g3 : B < 1
  · simp [c6, ha, g1, g3]
  by_cases g4 : 4 < B
  · simp [c6, ha, g1, g3, g4]
  obtain ⟨b, rfl⟩ := Int.eq_ofNat_of_zero_le (show 0 ≤ B by omega)
  have hP : P ≠ [] := by intro e; rw [e] at g2; simp at g2
  simp [c6, ha, g1, g3, g4]
  intro _
  refine out6 _ _ P nn b [] (by omega) (by omega) hn hl (by simp) (by simp) (by simp) (by simp) (by simp) ?_ ?_
  · intro t' e4 em
    simp [e4, em]
  · intro hva hjl t' e0 e5 em el0
    have el : ∀ k, t'.loc k = [] := fun k => by rw [el0]; rfl
    have h10 := q10 (jn b P) (by omega) []
    by_cases hs : (1000 : Int) < (jn b P).length
    · simp [e5, hs, em]
    obtain ⟨T, hT, h3, ha1⟩ := scan_jn (B := b) (by omega) hP hva (by omega) (by omega)
    rw [hT] at h10
    obtain ⟨hlT, h3'⟩ := same3_get h3
    have hTne : T ≠ [] := by intro e; rw [e] at hlT; simp at hlT; exact hP hlT
    obtain ⟨n, p, hn1, hg, hcol, h0⟩ := last_of hTne
    obtain ⟨n2, q, hn2, hgq, hcolq, _⟩ := last_of hP
    have : n2 = n := by omega
    subst this
    have hpq : p.k = q.k ∧ p.t = q.t := by
      have e1 := gi_nat (xs := T) (i := n2) (by omega)
      have e2 := gi_nat (xs := P) (i := n2) (by omega)
      rw [hg] at e1
      rw [hgq] at e2
      have := h3' n2 (by omega) (by omega)
      rw [e1, e2]
      exact ⟨this.1, this.2.1⟩
    have hPi : (P.length : Int) = ((n2 + 1 : Nat) : Int) := by omega
    have w3 : W64 (((n2 + 1 : Nat) : Int) - 1) (n2 : Int) := .mkI (by omega) (by omega) (by omega)
    have hTi : (T.length : Int) = ((n2 + 1 : Nat) : Int) := by omega
    unfold finS at h10
    rw [hcol, hpq.1, hpq.2] at h10
    by_cases c1 : q.k = 4
    rotate_left
    · rw [if_neg (by simp [c1])] at h10
      simp only [scV] at h10
      simp [e0, e5, hs, em, el, h10, hPi, hTi, w3.eq, hgq, c1, objCells, et, -et_def, -Int.natCast_add]
      refine cmp6 _ _ P T nn (!T.isEmpty) (n2 + 1) [] false [] ?_ (by omega) (by simp [e0]) (by simp) (by simp [el]) (by simp) (by simp) (by simp [em]) ?_
      · intro j hj
        exact ⟨by omega, by omega, h3' j (by omega) (by omega)⟩
      · intro t' fm
        simp [fm]
    by_cases c2 : q.t = [58]
    rotate_left
    · rw [if_neg (by simp [c2])] at h10
      simp only [scV] at h10
      simp [e0, e5, hs, em, el, h10, hPi, hTi, w3.eq, hgq, c1, c2, objCells, et, -et_def, -Int.natCast_add]
      refine cmp6 _ _ P T nn (!T.isEmpty) (n2 + 1) [] false [] ?_ (by omega) (by simp [e0]) (by simp) (by simp [el]) (by simp) (by simp) (by simp [em]) ?_
      · intro j hj
        exact ⟨by omega, by omega, h3' j (by omega) (by omega)⟩
      · intro t' fm
        simp [fm]
    rw [if_pos (by simp [c1, c2])] at h10
    by_cases c3 : n2 = 0
    · subst c3
      rw [if_pos hn1, ha1] at h10
      simp only [scV] at h10
      have hw0 : IntKind.i64.wrap 0 = 0 := wrap64 (by omega) (by omega)
      have hg0 : gi P 0 = q := hgq
      simp [e0, e5, hs, em, el, h10, hPi, hw0, hg0, c1, c2, objCells, et, -et_def, -Int.natCast_add]
    rw [if_neg (by omega)] at h10
    simp only [scV] at h10
    have hn1' : ¬ ((n2 + 1 : Nat) : Int) = 1 := by omega
    have hTl : T.length - 1 = n2 := by omega
    have hmin : min n2 T.length = n2 := by omega
    simp [hmin, e0, e5, hs, em, el, h10, hPi, w3.eq, hgq, c1, c2, hn1', hTl, objCells, et, -et_def, -Int.natCast_add]
    refine cmp6 _ _ P (T.take n2) nn (!(T.take n2).isEmpty) n2 [] true [] ?_ (by omega) (by simp [e0]) (by simp) (by simp [el]) (by simp) (by simp) (by simp [em]) ?_
    · intro j hj
      refine ⟨by simp; omega, by omega, ?_⟩
      simpa using h3' j (by omega) (by omega)
    · intro t' fm
      simp [fm]
end Go.Vm.Ch09
