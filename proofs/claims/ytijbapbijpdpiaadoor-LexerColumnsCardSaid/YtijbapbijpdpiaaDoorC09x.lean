/- Chapter 09: what its functions compute. -/
import Derived.Test.YtijbapbijpdpiaaDoorC09w
namespace Go.Vm.Ch09
open _root_.Ch09 (T09 c7)
set_option maxRecDepth 10000
set_option maxHeartbeats 16000000
def tb7 : VC := (.seq (.seq (.region [⟨(.some 52), (.move (.t 8)), .none⟩, ⟨(.some 53), (.faddr 1 (.t 5)), .none⟩, ⟨(.some 54), (.load .none (.t 53)), .none⟩, ⟨(.some 55), (.lenSl (.t 54)), .none⟩, ⟨(.some 56), (.bin .lss (.t 52) (.t 55)), .none⟩]) (.cond (.t 56) .skip (.exit 0))) (.seq (.block 1 (.seq (.region [⟨(.some 59), (.faddr 1 (.t 5)), .none⟩, ⟨(.some 60), (.load .none (.t 59)), .none⟩, ⟨(.some 61), (.move (.t 8)), .none⟩, ⟨(.some 62), (.iaddrSl 4 (.t 60) (.t 61)), .none⟩, ⟨(.some 63), (.load (.some 4) (.t 62)), .none⟩, ⟨(.some 9), (.alloc .false [(.int .i64 0), (.str []), (.int .i64 0), (.int .i64 0)]), .none⟩, ⟨.none, (.store 4 (.t 9) (.t 63)), .none⟩]) (.seq (.region [⟨(.some 65), (.load (.some 4) (.t 9)), .none⟩, ⟨(.some 66), (.callP (.k (.fn (.func 17) [])) [(.t 65)]), .none⟩, ⟨(.some 64), (.move (.t 66)), .none⟩, ⟨(.some 67), (.ext (.t 64) 0), .none⟩, ⟨(.some 68), (.ext (.t 64) 1), .none⟩, ⟨(.some 10), (.assign (.t 67)), .none⟩, ⟨(.some 11), (.assign (.t 68)), .none⟩]) (.seq (.seq (.region [⟨(.some 69), (.move (.t 11)), .none⟩, ⟨(.some 70), (.bin .neq (.t 69) (.k (.int .i64 0))), .none⟩, ⟨(.some 71), (.move (.t 70)), .none⟩, ⟨(.some 72), (.faddr 3 (.t 9)), (.some (71, .false))⟩, ⟨(.some 73), (.load .none (.t 72)), (.some (71, .false))⟩, ⟨(.some 74), (.move (.t 7)), (.some (71, .false))⟩, ⟨(.some 75), (.bin .leq (.t 73) (.t 74)), (.some (71, .false))⟩, ⟨(.some 76), (.pick (.t 71) (.k (.bool .true)) (.t 75)), .none⟩, ⟨(.some 77), (.move (.t 76)), .none⟩, ⟨(.some 78), (.faddr 3 (.t 9)), (.some (77, .false))⟩, ⟨(.some 79), (.load .none (.t 78)), (.some (77, .false))⟩, ⟨(.some 80), (.bin .sub (.t 79) (.k (.int .i64 1))), (.some (77, .false))⟩, ⟨(.some 81), (.move (.t 10)), (.some (77, .false))⟩, ⟨(.some 82), (.lenStr (.t 81)), (.some (77, .false))⟩, ⟨(.some 83), (.bin .add (.t 80) (.t 82)), (.some (77, .false))⟩, ⟨(.some 84), (.move (.t 0)), (.some (77, .false))⟩, ⟨(.some 85), (.lenStr (.t 84)), (.some (77, .false))⟩, ⟨(.some 86), (.bin .gtr (.t 83) (.t 85)), (.some (77, .false))⟩, ⟨(.some 87), (.pick (.t 77) (.k (.bool .true)) (.t 86)), .none⟩, ⟨(.some 88), (.move (.t 87)), .none⟩, ⟨(.some 89), (.move (.t 0)), (.some (88, .false))⟩, ⟨(.some 90), (.faddr 3 (.t 9)), (.some (88, .false))⟩, ⟨(.some 91), (.load .none (.t 90)), (.some (88, .false))⟩, ⟨(.some 92), (.bin .sub (.t 91) (.k (.int .i64 1))), (.some (88, .false))⟩, ⟨(.some 93), (.faddr 3 (.t 9)), (.some (88, .false))⟩, ⟨(.some 94), (.load .none (.t 93)), (.some (88, .false))⟩, ⟨(.some 95), (.bin .sub (.t 94) (.k (.int .i64 1))), (.some (88, .false))⟩, ⟨(.some 96), (.move (.t 10)), (.some (88, .false))⟩, ⟨(.some 97), (.lenStr (.t 96)), (.some (88, .false))⟩, ⟨(.some 98), (.bin .add (.t 95) (.t 97)), (.some (88, .false))⟩, ⟨(.some 99), (.slStr (.t 89) (.some (.t 92)) (.some (.t 98))), (.some (88, .false))⟩, ⟨(.some 100), (.move (.t 10)), (.some (88, .false))⟩, ⟨(.some 101), (.bin .neq (.t 99) (.t 100)), (.some (88, .false))⟩, ⟨(.some 102), (.pick (.t 88) (.k (.bool .true)) (.t 101)), .none⟩]) (.cond (.t 102) (.seq (.region [⟨(.some 4), (.assign (.k (.bool .false))), .none⟩]) .ret) .skip)) (.region [⟨(.some 103), (.faddr 3 (.t 9)), .none⟩, ⟨(.some 104), (.load .none (.t 103)), .none⟩, ⟨(.some 105), (.bin .sub (.t 104) (.k (.int .i64 1))), .none⟩, ⟨(.some 106), (.move (.t 10)), .none⟩, ⟨(.some 107), (.lenStr (.t 106)), .none⟩, ⟨(.some 108), (.bin .add (.t 105) (.t 107)), .none⟩, ⟨(.some 7), (.assign (.t 108)), .none⟩]))))) (.region [⟨(.some 57), (.move (.t 8)), .none⟩, ⟨(.some 58), (.bin .add (.t 57) (.k (.int .i64 1))), .none⟩, ⟨(.some 8), (.assign (.t 58)), .none⟩])))
def hb7 : VC := (.seq (.seq (.region [⟨(.some 112), (.move (.t 12)), .none⟩, ⟨(.some 113), (.move (.t 0)), .none⟩, ⟨(.some 114), (.lenStr (.t 113)), .none⟩, ⟨(.some 115), (.bin .lss (.t 112) (.t 114)), .none⟩]) (.cond (.t 115) .skip (.exit 2))) (.seq (.block 3 (.seq (.region [⟨(.some 118), (.move (.t 0)), .none⟩, ⟨(.some 119), (.move (.t 12)), .none⟩, ⟨(.some 120), (.idxStr (.t 118) (.t 119)), .none⟩, ⟨(.some 121), (.bin .eql (.t 120) (.k (.int .u8 35))), .none⟩]) (.cond (.t 121) (.seq (.region [⟨(.some 4), (.assign (.k (.bool .true))), .none⟩]) .ret) .skip))) (.region [⟨(.some 116), (.move (.t 12)), .none⟩, ⟨(.some 117), (.bin .add (.t 116) (.k (.int .i64 1))), .none⟩, ⟨(.some 12), (.assign (.t 117)), .none⟩])))
theorem va_in {p : Tk} (h : vaT p = true) : inI p.n ∧ p.t.length ≤ 1000 := by
  unfold vaT valP at h
  split at h
  · simp only [Bool.and_eq_true, decide_eq_true_eq] at h
    obtain ⟨h1, _, h3, _⟩ := h
    rw [h1]
    exact ⟨⟨by decide, by decide⟩, by omega⟩
  · split at h
    · simp only [Bool.and_eq_true, decide_eq_true_eq] at h
      obtain ⟨h1, h2, h3⟩ := h
      rw [h1]
      exact ⟨⟨by omega, by omega⟩, by simp⟩
    · split at h
      · simp only [Bool.and_eq_true, decide_eq_true_eq] at h
        obtain ⟨h1, h2⟩ := h
        rw [h1]
        unfold labelOK at h2
        simp only [Bool.and_eq_true, decide_eq_true_eq] at h2
        exact ⟨⟨by decide, by decide⟩, by have := h2.1.1.1.2; omega⟩
      · split at h
        · simp only [Bool.and_eq_true, decide_eq_true_eq] at h
          obtain ⟨h1, h2, _⟩ := h
          rw [h1]
          exact ⟨⟨by decide, by decide⟩, by omega⟩
        · cases h
/-- The loop over the tokens. -/
theorem tok7 (Q : VExit → St → Prop) (t : St) (b : List UInt8) (hb : b.length ≤ 900) (T : List Tk) (hT : T.length ≤ 64) (ind : Int) (hd : Bool) (cm : List UInt8) (m : Mem) (hcol : Cols b 0 T) (e0 : t.get 0 = .str b) (e5 : t.get 5 = .ptr (.loc 5 0) 0) (l5 : t.loc 5 = [.cells false [AV.int IntKind.i64 ind, ovn tv T, .bool hd, .str cm]]) (e7 : t.get 7 = AV.int IntKind.i64 0) (e8 : t.get 8 = AV.int IntKind.i64 0) (hm : t.mem = m)
    (hE : ∀ t', t'.get 0 = .str b → t'.get 1 = t.get 1 → t'.get 5 = .ptr (.loc 5 0) 0 → t'.loc 5 = [.cells false [AV.int IntKind.i64 ind, ovn tv T, .bool hd, .str cm]] → t'.mem = m → t'.loc 13 = t.loc 13 → t'.loc 14 = t.loc 14 → Q (.exit 0) t') : wp T09 (.loop tb7) t Q := by
  unfold tb7
  refine wp_loop (fun n u => ∃ (i e : Nat) (os : List LObj), n = T.length - i ∧ i ≤ T.length ∧ u.get 0 = .str b ∧ u.get 1 = t.get 1 ∧ u.get 5 = .ptr (.loc 5 0) 0 ∧ u.loc 5 = [.cells false [AV.int IntKind.i64 ind, ovn tv T, .bool hd, .str cm]] ∧ u.get 7 = AV.int IntKind.i64 e ∧ u.get 8 = AV.int IntKind.i64 i ∧ u.loc 9 = os ∧ u.mem = m ∧ u.loc 13 = t.loc 13 ∧ u.loc 14 = t.loc 14 ∧ Cols b e (T.drop i)) ?_ _ t ⟨0, 0, t.loc 9, rfl, by omega, e0, rfl, e5, l5, e7, e8, rfl, hm, rfl, rfl, hcol⟩
  rintro n u ⟨i, e, os, hn, hi, f0, f1, f5, g5, f7, f8, g9, fm, g13, g14, hc⟩
  by_cases hlt : i < T.length
  rotate_left
  · simp [f5, g5, f8, hlt, objCells]
    exact hE _ (by simp [f0]) (by simp [f1]) (by simp [f5]) (by simp [g5]) (by simp [fm]) (by simp [g13]) (by simp [g14])
  have hdr : T.drop i = T[i] :: T.drop (i + 1) := by simp
  rw [hdr] at hc
  obtain ⟨hv, j, hj, ha, hle, hsub, hc'⟩ := hc
  obtain ⟨hn1, ht1⟩ := va_in hv
  have h17 := q17 T[i].k T[i].t T[i].n T[i].a hn1 (by omega) []
  have hv' : valP T[i].k T[i].t T[i].n = true := hv
  rw [hv'] at h17
  simp only [if_true] at h17
  have hsp : spl T[i].k T[i].t T[i].n = spT T[i] := rfl
  rw [hsp, ha] at h17
  have w1 : W64 ((i : Int) + 1) ((i + 1 : Nat) : Int) := .mkI rfl (by omega) (by omega)
  have w2 : W64 (((j + 1 : Nat) : Int) - 1) (j : Int) := .mkI (by omega) (by omega) (by omega)
  have w3 : W64 ((j : Int) + ((spT T[i]).length : Int)) ((j + (spT T[i]).length : Nat) : Int) := .mkI (by omega) (by omega) (by omega)
  have hg : tv (gi T (i : Int)) = .agg [AV.int IntKind.i64 T[i].k, .str T[i].t, AV.int IntKind.i64 T[i].n, AV.int IntKind.i64 ((j + 1 : Nat) : Int)] := by
    rw [gi_nat hlt, tv, et, ha]
  have c1 : ¬ ((j + 1 : Nat) : Int) ≤ (e : Int) := by omega
  have c2 : ¬ (b.length : Int) < ((j + (spT T[i]).length : Nat) : Int) := by omega
  have hs2 : (b.take (j + (spT T[i]).length)).drop j = spT T[i] := by rw [List.drop_take, Nat.add_sub_cancel_left]; exact hsub
  generalize spT T[i] = S at *
  generalize T[i].k = K at *
  generalize T[i].t = X at *
  generalize T[i].n = N at *
  simp [f0, f5, g5, f7, f8, g9, hlt, hg, h17, w1.eq, w2.eq, w3.eq, c1, c2, hs2, objCells, -Int.natCast_add]
  exact ⟨by omega, T.length - (i + 1), by omega, i + 1, rfl, by omega, f1, _, rfl, rfl, fm, g13, g14, hc'⟩
/-- No sign of a comment. -/
theorem hash7 (Q : VExit → St → Prop) (t : St) (b : List UInt8) (hb : b.length ≤ 900) (m : Mem) (e0 : t.get 0 = .str b) (e12 : t.get 12 = AV.int IntKind.i64 0) (hm : t.mem = m)
    (hR : ∀ t', t'.get 4 = .bool true → t'.mem = m → Q .ret t')
    (hE : (∀ c ∈ b, c.toNat ≠ 35) → ∀ t', t'.get 0 = .str b → t'.get 1 = t.get 1 → t'.get 5 = t.get 5 → t'.mem = m → t'.loc = t.loc → Q (.exit 2) t') : wp T09 (.loop hb7) t Q := by
  unfold hb7
  refine wp_loop (fun n u => ∃ i : Nat, n = b.length - i ∧ i ≤ b.length ∧ u.get 0 = .str b ∧ u.get 1 = t.get 1 ∧ u.get 5 = t.get 5 ∧ u.get 12 = AV.int IntKind.i64 i ∧ u.mem = m ∧ u.loc = t.loc ∧ ∀ c ∈ b.take i, c.toNat ≠ 35) ?_ _ t ⟨0, rfl, by omega, e0, rfl, rfl, e12, hm, rfl, by simp⟩
  rintro n u ⟨i, hn, hi, f0, f1, f5, f12, fm, fl, hx⟩
  by_cases hlt : i < b.length
  · have w1 : W64 ((i : Int) + 1) ((i + 1 : Nat) : Int) := .mkI rfl (by omega) (by omega)
    by_cases h35 : b[i].toNat = 35
    · have h35i : (b[i].toNat : Int) = 35 := by omega
      simp [f0, f12, hlt, h35i]
      exact hR _ (by simp) (by simp [fm])
    · have h35i : ¬ (b[i].toNat : Int) = 35 := by omega
      simp [f0, f12, hlt, h35i, w1.eq, -Int.natCast_add]
      refine ⟨b.length - (i + 1), by omega, i + 1, rfl, by omega, f1, f5, rfl, fm, fl, ?_⟩
      intro c hc
      rw [List.take_succ_eq_append_getElem hlt] at hc
      rcases List.mem_append.1 hc with h | h
      · exact hx c h
      · rw [List.mem_singleton.1 h]; exact h35
  · have : i = b.length := by omega
    subst this
    rw [List.take_length] at hx
    simp [f0, f12]
    exact hE hx _ (by simp [f0]) (by simp [f1]) (by simp [f5]) (by simp [fm]) (by simp [fl])
theorem lexL_fault : ∀ (f : Nat) (x : List UInt8) (i : Nat) (acc : List Tk) (e c : Int), x.length < f → lexL f x i acc = .fault e c → e ≠ 0
  | 0, _, _, _, _, _, h, _ => absurd h (Nat.not_lt_zero _)
  | f + 1, [], _, _, _, _, _, h => by simp [lexL] at h
  | f + 1, x :: r, i, acc, e, c, hl, h => by
    simp only [List.length_cons] at hl
    simp only [lexL] at h
    split at h
    · exact lexL_fault f _ _ _ _ _ (by omega) h
    · split at h
      · cases h
      · split at h
        · simp only [Res.fault.injEq] at h; omega
        · split at h
          · rename_i he
            have hp := lex_pos he
            exact lexL_fault f _ _ _ _ _ (by simp; omega) h
          · rename_i he
            simp only [Res.fault.injEq] at h
            rw [← h.1]; exact he
theorem scan_fault {b : List UInt8} {e c : Int} (h : scanS b = .fault e c) : e ≠ 0 := by
  unfold scanS at h
  split at h
  · simp only [Scn.fault.injEq] at h; omega
  · split at h
    · cases h
    · split at h
      · simp only [Scn.fault.injEq] at h; omega
      · split at h
        · simp only [Scn.fault.injEq] at h; omega
        · split at h
          · rename_i e' c' hT
            simp only [Scn.fault.injEq] at h
            rw [← h.1]
            exact lexL_fault _ _ _ _ _ _ (Nat.lt_succ_self _) hT
          · unfold finS at h
            split at h
            · split at h
              · simp only [Scn.fault.injEq] at h; omega
              · cases h
            · cases h
theorem law7 (b cmt : List UInt8) (_ : inL b.length) (_ : inL cmt.length) : callL T09 7 [.str b, .str cmt] [] = some (.bool true, []) := by
  apply callL_body (vf := c7) rfl rfl
  have ha := awake
  by_cases g1 : (900 : Int) < b.length
  · simp [c7, ha, g1]
  by_cases g2 : (50 : Int) < cmt.length
  · simp [c7, ha, g1, g2]
  have h10 := q10 b (by omega) []
  cases hs : scanS b with
  | fault e c =>
    rw [hs] at h10
    simp only [scV] at h10
    have be : (e == 0) = false := beq_false_of_ne (scan_fault hs)
    simp [c7, ha, g1, g2, h10, objCells, be]
  | ok ind T hd cm =>
    have hT := scan_len hs
    have hcols := scan_cols hs
    rw [hs] at h10
    simp only [scV] at h10
    simp [c7, ha, g1, g2, h10, objCells]
    refine tok7 _ _ b (by omega) T (by omega) ind hd cm [] hcols (by simp) (by simp) (by simp) (by simp) (by simp) (by simp) ?_
    intro t' f0 f1 f5 l5 fm l13 l14
    simp at f1 l13 l14
    by_cases hcm : cm = []
    rotate_left
    · simp [f5, l5, fm, hcm, objCells]
    subst hcm
    simp [f5, l5, fm, objCells]
    refine hash7 _ _ b (by omega) [] (by simp [f0]) (by simp) (by simp [fm]) ?_ ?_
    · intro u h4 hm
      simp [h4, hm]
    · intro hx u k0 k1 k5 km kl
      simp at k1 k5
      have hsc := scan_comment (by omega) (by omega) hx (cmt := cmt) hs
      have hbc : b ++ [32, 35] ++ cmt = b ++ 32 :: 35 :: cmt := by simp
      have h10b := q10 (b ++ 32 :: 35 :: cmt) (by simp; omega) []
      rw [hsc] at h10b
      simp only [scV] at h10b
      have h12 := q12 T (!T.isEmpty) (!T.isEmpty) (by omega) []
      simp [k0, k1, f1]
      refine ⟨by omega, ?_⟩
      simp [k1, k5, km, kl, f1, f5, l5, l13, l14, h10b, h12, objCells]
      omega
end Go.Vm.Ch09
