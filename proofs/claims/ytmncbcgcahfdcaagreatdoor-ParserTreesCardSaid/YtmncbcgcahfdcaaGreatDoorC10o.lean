/- Chapter 10: what its functions compute. -/
import Derived.Test.YtmncbcgcahfdcaaGreatDoorC10n
namespace Go.Vm.Ch10
open _root_.Ch10 (T10 c33)
set_option maxRecDepth 10000
set_option maxHeartbeats 16000000
/-! ### the reference's scan -/
def lb11 : VC := (.seq (.seq (.region [⟨(.some 57), (.move (.t 5)), .none⟩, ⟨(.some 58), (.move (.t 0)), .none⟩, ⟨(.some 59), (.lenStr (.t 58)), .none⟩, ⟨(.some 60), (.bin .lss (.t 57) (.t 59)), .none⟩, ⟨(.some 61), (.move (.t 60)), .none⟩, ⟨(.some 62), (.move (.t 0)), (.some (61, .true))⟩, ⟨(.some 63), (.move (.t 5)), (.some (61, .true))⟩, ⟨(.some 64), (.idxStr (.t 62) (.t 63)), (.some (61, .true))⟩, ⟨(.some 65), (.bin .neq (.t 64) (.k (.int .u8 35))), (.some (61, .true))⟩, ⟨(.some 66), (.pick (.t 61) (.t 65) (.k (.bool .false))), .none⟩]) (.cond (.t 66) .skip (.exit 2))) (.block 3 (.seq (.seq (.region [⟨(.some 67), (.move (.t 0)), .none⟩, ⟨(.some 68), (.move (.t 5)), .none⟩, ⟨(.some 69), (.idxStr (.t 67) (.t 68)), .none⟩, ⟨(.some 70), (.bin .eql (.t 69) (.k (.int .u8 32))), .none⟩]) (.cond (.t 70) (.seq (.region [⟨(.some 71), (.move (.t 5)), .none⟩, ⟨(.some 72), (.bin .add (.t 71) (.k (.int .i64 1))), .none⟩, ⟨(.some 5), (.assign (.t 72)), .none⟩]) (.exit 3)) .skip)) (.seq (.seq (.region [⟨(.some 73), (.faddr 1 (.t 4)), .none⟩, ⟨(.some 74), (.load .none (.t 73)), .none⟩, ⟨(.some 75), (.lenSl (.t 74)), .none⟩, ⟨(.some 76), (.bin .eql (.t 75) (.k (.int .i64 64))), .none⟩]) (.cond (.t 76) (.seq (.region [⟨(.some 77), (.move (.t 5)), .none⟩, ⟨(.some 78), (.bin .add (.t 77) (.k (.int .i64 1))), .none⟩, ⟨(.some 79), (.callP (.k (.fn (.func 61) [])) [(.k (.int .i64 7)), (.t 78)]), .none⟩, ⟨(.some 80), (.ext (.t 79) 0), .none⟩, ⟨(.some 81), (.ext (.t 79) 1), .none⟩, ⟨.none, (.store 4 (.t 2) (.t 80)), .none⟩, ⟨.none, (.store 3 (.t 3) (.t 81)), .none⟩]) .ret) .skip)) (.seq (.region [⟨(.some 83), (.move (.t 0)), .none⟩, ⟨(.some 84), (.move (.t 5)), .none⟩, ⟨(.some 85), (.callP (.k (.fn (.func 62) [])) [(.t 83), (.t 84)]), .none⟩, ⟨(.some 82), (.move (.t 85)), .none⟩, ⟨(.some 86), (.ext (.t 82) 0), .none⟩, ⟨(.some 87), (.ext (.t 82) 1), .none⟩, ⟨(.some 88), (.ext (.t 82) 2), .none⟩, ⟨(.some 6), (.alloc .false [(.int .i64 0), (.str []), (.int .i64 0), (.int .i64 0)]), .none⟩, ⟨.none, (.store 4 (.t 6) (.t 86)), .none⟩, ⟨(.some 7), (.assign (.t 87)), .none⟩, ⟨(.some 8), (.assign (.t 88)), .none⟩]) (.seq (.seq (.region [⟨(.some 89), (.move (.t 8)), .none⟩, ⟨(.some 90), (.bin .neq (.t 89) (.k (.int .i64 0))), .none⟩]) (.cond (.t 90) (.seq (.region [⟨(.some 91), (.move (.t 8)), .none⟩, ⟨(.some 92), (.move (.t 5)), .none⟩, ⟨(.some 93), (.bin .add (.t 92) (.k (.int .i64 1))), .none⟩, ⟨(.some 94), (.callP (.k (.fn (.func 61) [])) [(.t 91), (.t 93)]), .none⟩, ⟨(.some 95), (.ext (.t 94) 0), .none⟩, ⟨(.some 96), (.ext (.t 94) 1), .none⟩, ⟨.none, (.store 4 (.t 2) (.t 95)), .none⟩, ⟨.none, (.store 3 (.t 3) (.t 96)), .none⟩]) .ret) .skip)) (.seq (.region [⟨(.some 97), (.faddr 1 (.t 4)), .none⟩, ⟨(.some 98), (.loadTake (.t 97)), .none⟩, ⟨(.some 99), (.load (.some 4) (.t 6)), .none⟩, ⟨(.some 100), (.buildSl 4 (.agg [(.int .i64 0), (.str []), (.int .i64 0), (.int .i64 0)]) 1 [(0, (.t 99))]), .none⟩, ⟨(.some 101), (.append 4 40 (.t 98) (.t 100)), .none⟩, ⟨(.some 102), (.faddr 1 (.t 4)), .none⟩, ⟨.none, (.store 1 (.t 102) (.t 101)), .none⟩]) (.region [⟨(.some 103), (.move (.t 7)), .none⟩, ⟨(.some 5), (.assign (.t 103)), .none⟩]))))))))
/-- The slots of the reference's scan. -/
structure S11 (s : St) (b : List UInt8) (m : Mem) : Prop where
  e0 : s.get 0 = .str b
  e2 : s.get 2 = .ptr (.loc 2 0) 0
  e3 : s.get 3 = .ptr (.loc 3 0) 0
  e4 : s.get 4 = .ptr (.loc 4 0) 0
  l2 : s.loc 2 = [sc0]
  hm : s.mem = m
theorem lp11 (b : List UInt8) (hb : b.length ≤ 1000) (ind : Int) (m : Mem) (R : Res) (Q : VExit → St → Prop)
    (hR : ∀ s e c, R = .fault e c → S11 s b m → s.loc 3 = [.cells false [AV.int IntKind.i64 e, AV.int IntKind.i64 0, AV.int IntKind.i64 c]] → Q .ret s)
    (hE : ∀ s (i : Nat) T cm, R = .ok T cm → T.length ≤ 64 → S11 s b m → s.loc 3 = [.cells false [AV.int IntKind.i64 0, AV.int IntKind.i64 0, AV.int IntKind.i64 0]] → s.loc 4 = [.cells false [AV.int IntKind.i64 ind, ov 4 tv T, .bool false, .str []]] → s.get 5 = AV.int IntKind.i64 i → i ≤ b.length → cm = b.drop (i + 1) → Q (.exit 2) s)
    (s : St) (i : Nat) (acc : List Tk) (hi : i ≤ b.length) (hacc : acc.length ≤ 64) (hs : S11 s b m) (l3 : s.loc 3 = [.cells false [AV.int IntKind.i64 0, AV.int IntKind.i64 0, AV.int IntKind.i64 0]]) (l4 : s.loc 4 = [.cells false [AV.int IntKind.i64 ind, ov 4 tv acc, .bool false, .str []]])
    (e5 : s.get 5 = AV.int IntKind.i64 i) (hlex : lexA (b.drop i) i acc = R) : wp T10 (.loop lb11) s Q := by
  unfold lb11
  refine wp_loop (fun n s => ∃ (i : Nat) (acc : List Tk) (os : List LObj), n = b.length - i ∧ i ≤ b.length ∧ acc.length ≤ 64 ∧ S11 s b m ∧ s.loc 3 = [.cells false [AV.int IntKind.i64 0, AV.int IntKind.i64 0, AV.int IntKind.i64 0]] ∧ s.loc 4 = [.cells false [AV.int IntKind.i64 ind, ov 4 tv acc, .bool false, .str []]] ∧ s.get 5 = AV.int IntKind.i64 i ∧ s.loc 6 = os ∧ lexA (b.drop i) i acc = R) ?_ _ s ⟨i, acc, s.loc 6, rfl, hi, hacc, hs, l3, l4, e5, rfl, hlex⟩
  clear hs l3 l4 e5 hlex hacc hi acc i s
  rintro n s ⟨i, acc, os, hn, hi, hacc, hs, l3, l4, e5, l6, hlex⟩
  have e0 := hs.e0
  have e2 := hs.e2
  have e3 := hs.e3
  have e4 := hs.e4
  have l2 := hs.l2
  have hm := hs.hm
  by_cases hlt : i < b.length
  rotate_left
  · have hd : b.drop i = [] := List.drop_eq_nil_of_le (by omega)
    rw [hd, lexA_nil] at hlex
    simp [e0, e5, hlt]
    exact hE _ i acc [] hlex.symm hacc ⟨by simp [e0], by simp [e2], by simp [e3], by simp [e4], by simp [l2], by simp [hm]⟩ (by simp [l3]) (by simp [l4]) (by simp [e5]) hi (by rw [List.drop_eq_nil_of_le (by omega)])
  have hd : b.drop i = b[i] :: b.drop (i + 1) := by simp
  have w1 : W64 ((i : Int) + 1) ((i + 1 : Nat) : Int) := .mkI rfl (by omega) (by omega)
  rw [hd, lexA_cons] at hlex
  by_cases h35 : b[i].toNat = 35
  · rw [if_neg (by omega), if_pos h35] at hlex
    have h35i : (b[i].toNat : Int) = 35 := by omega
    simp [e0, e5, e4, l4, hlt, h35i]
    exact hE _ i acc (b.drop (i + 1)) hlex.symm hacc ⟨by simp [e0], by simp [e2], by simp [e3], by simp [e4], by simp [l2], by simp [hm]⟩ (by simp [l3]) (by simp [l4]) (by simp [e5]) hi rfl
  have h35i : ¬ (b[i].toNat : Int) = 35 := by omega
  by_cases h32 : b[i].toNat = 32
  · rw [if_pos h32] at hlex
    have h32i : (b[i].toNat : Int) = 32 := by omega
    simp [e0, e5, hlt, w1.eq, h32i, -Int.natCast_add]
    refine ⟨b.length - (i + 1), by omega, i + 1, rfl, by omega, acc, hacc, ⟨by simp [e0], by simp [e2], by simp [e3], by simp [e4], by simp [l2], by simp [hm]⟩, ?_⟩
    simp [l3, l4, hlex]
  rw [if_neg h32] at hlex
  have h32i : ¬ (b[i].toNat : Int) = 32 := by omega
  rw [if_neg h35] at hlex
  by_cases h64 : acc.length = 64
  · rw [if_pos h64] at hlex
    have h64i : (acc.length : Int) = 64 := by omega
    have h27 := q61 7 ((i + 1 : Nat) : Int) []
    simp [e0, e2, e3, e4, e5, l2, l3, l4, hlt, w1.eq, h32i, h35i, h64i, h27, objCells, -Int.natCast_add]
    exact hR _ 7 (i + 1) hlex.symm ⟨by simp [e0], by simp [e2], by simp [e3], by simp [e4], by simp [l2], by simp [hm]⟩ (by simp [l3])
  rw [if_neg h64] at hlex
  have h64i : ¬ (acc.length : Int) = 64 := by omega
  obtain ⟨tk, tt, tn, ta, te, h28, h28'⟩ := q62 b (by omega) i hlt []
  rw [← hd] at hlex
  by_cases he : (lexT (b.drop i)).e = 0
  · rw [if_pos he] at hlex
    have hp := lex_pos (c := b[i]) (r := b.drop (i + 1)) (by rw [← hd]; exact he)
    rw [← hd] at hp
    obtain ⟨rfl, rfl, rfl, rfl, rfl⟩ := h28' he
    generalize lexT (b.drop i) = X at *
    have hsn := ov_snoc (z := 4) (e := tv) (xs := acc) (x := ⟨X.k, X.t, X.n, ((i + 1 : Nat) : Int)⟩)
    simp only [tv, et] at hsn
    simp [e0, e4, e5, l3, l4, l6, hlt, w1.eq, h32i, h35i, h64i, h28, he, objCells, -Int.natCast_add]
    have hll : X.l ≤ b.length - i := by have := hp.2; simp at this; omega
    rw [show ((i : Int) + 1) = ((i + 1 : Nat) : Int) from rfl] at hlex
    refine ⟨by omega, b.length - (i + X.l), by omega, i + X.l, rfl, by omega, acc ++ [⟨X.k, X.t, X.n, ((i + 1 : Nat) : Int)⟩], by simp; omega, ⟨by simp [e0], by simp [e2], by simp [e3], by simp [e4], by simp [l2], by simp [hm]⟩, ?_⟩
    rw [List.drop_drop] at hlex
    simp [hsn, hlex, -Int.natCast_add]
  · rw [if_neg he] at hlex
    generalize lexT (b.drop i) = X at *
    have h27 := q61 X.e ((i + 1 : Nat) : Int) []
    simp [e0, e2, e3, e4, e5, l2, l3, l4, l6, hlt, w1.eq, h32i, h35i, h64i, h28, he, h27, objCells, -Int.natCast_add]
    exact hR _ X.e (i + 1) hlex.symm ⟨by simp [e0], by simp [e2], by simp [e3], by simp [e4], by simp [l2], by simp [hm]⟩ (by simp [l3])
end Go.Vm.Ch10
