/- Chapter 10: what its functions compute. -/
import Derived.Test.YtmncbcgcahfdcaaGreatDoorC10g
import Derived.Test.YtmncbcgcahfdcaaGreatDoorVJ
namespace Go.Vm.Ch10
open _root_.Ch10 (T10 c22)
set_option maxRecDepth 10000
set_option maxHeartbeats 8000000
def lb10 : VC := (.seq (.seq (.region [⟨(.some 54), (.move (.t 6)), .none⟩, ⟨(.some 55), (.move (.t 0)), .none⟩, ⟨(.some 56), (.lenStr (.t 55)), .none⟩, ⟨(.some 57), (.bin .lss (.t 54) (.t 56)), .none⟩]) (.cond (.t 57) .skip (.exit 0))) (.block 1 (.seq (.seq (.region [⟨(.some 58), (.move (.t 0)), .none⟩, ⟨(.some 59), (.move (.t 6)), .none⟩, ⟨(.some 60), (.idxStr (.t 58) (.t 59)), .none⟩]) (.block 2 (.seq (.region [⟨(.some 62), (.bin .eql (.t 60) (.k (.int .u8 32))), .none⟩, ⟨(.some 61), (.assign (.t 62)), .none⟩]) (.cond (.t 61) (.seq (.region [⟨(.some 63), (.move (.t 6)), .none⟩, ⟨(.some 64), (.bin .add (.t 63) (.k (.int .i64 1))), .none⟩, ⟨(.some 6), (.assign (.t 64)), .none⟩]) (.exit 1)) (.seq (.region [⟨(.some 66), (.bin .eql (.t 60) (.k (.int .u8 35))), .none⟩, ⟨(.some 65), (.assign (.t 66)), .none⟩]) (.cond (.t 65) (.seq (.region [⟨(.some 67), (.move (.t 0)), .none⟩, ⟨(.some 68), (.move (.t 6)), .none⟩, ⟨(.some 69), (.bin .add (.t 68) (.k (.int .i64 1))), .none⟩, ⟨(.some 70), (.slStr (.t 67) (.some (.t 69)) .none), .none⟩, ⟨(.some 71), (.faddr 3 (.t 4)), .none⟩, ⟨.none, (.store 1 (.t 71) (.t 70)), .none⟩]) (.exit 0)) .skip)))))) (.seq (.seq (.region [⟨(.some 72), (.faddr 1 (.t 4)), .none⟩, ⟨(.some 73), (.load .none (.t 72)), .none⟩, ⟨(.some 74), (.lenSl (.t 73)), .none⟩, ⟨(.some 75), (.bin .eql (.t 74) (.k (.int .i64 64))), .none⟩]) (.cond (.t 75) (.seq (.region [⟨(.some 76), (.build [(.int .i64 0), (.vec .none .false []), (.bool .false), (.str [])] []), .none⟩, ⟨(.some 77), (.move (.t 6)), .none⟩, ⟨(.some 78), (.bin .add (.t 77) (.k (.int .i64 1))), .none⟩, ⟨(.some 79), (.build [(.int .i64 0), (.int .i64 0), (.int .i64 0)] [(0, (1, (.k (.int .i64 7)))), (2, (1, (.t 78)))]), .none⟩, ⟨.none, (.store 4 (.t 2) (.t 76)), .none⟩, ⟨.none, (.store 3 (.t 3) (.t 79)), .none⟩]) .ret) .skip)) (.seq (.region [⟨(.some 81), (.move (.t 0)), .none⟩, ⟨(.some 82), (.move (.t 6)), .none⟩, ⟨(.some 83), (.slStr (.t 81) (.some (.t 82)) .none), .none⟩, ⟨(.some 84), (.callP (.k (.fn (.func 43) [])) [(.t 83)]), .none⟩, ⟨(.some 80), (.move (.t 84)), .none⟩, ⟨(.some 85), (.ext (.t 80) 0), .none⟩, ⟨(.some 86), (.ext (.t 80) 1), .none⟩, ⟨(.some 87), (.ext (.t 80) 2), .none⟩, ⟨(.some 7), (.alloc .false [(.int .i64 0), (.str []), (.int .i64 0), (.int .i64 0)]), .none⟩, ⟨.none, (.store 4 (.t 7) (.t 85)), .none⟩, ⟨(.some 8), (.assign (.t 86)), .none⟩, ⟨(.some 9), (.assign (.t 87)), .none⟩]) (.seq (.seq (.region [⟨(.some 88), (.move (.t 9)), .none⟩, ⟨(.some 89), (.bin .neq (.t 88) (.k (.int .i64 0))), .none⟩]) (.cond (.t 89) (.seq (.region [⟨(.some 90), (.build [(.int .i64 0), (.vec .none .false []), (.bool .false), (.str [])] []), .none⟩, ⟨(.some 91), (.move (.t 9)), .none⟩, ⟨(.some 92), (.move (.t 6)), .none⟩, ⟨(.some 93), (.bin .add (.t 92) (.k (.int .i64 1))), .none⟩, ⟨(.some 94), (.build [(.int .i64 0), (.int .i64 0), (.int .i64 0)] [(0, (1, (.t 91))), (2, (1, (.t 93)))]), .none⟩, ⟨.none, (.store 4 (.t 2) (.t 90)), .none⟩, ⟨.none, (.store 3 (.t 3) (.t 94)), .none⟩]) .ret) .skip)) (.seq (.region [⟨(.some 95), (.move (.t 6)), .none⟩, ⟨(.some 96), (.bin .add (.t 95) (.k (.int .i64 1))), .none⟩, ⟨(.some 97), (.faddr 3 (.t 7)), .none⟩, ⟨.none, (.store 1 (.t 97) (.t 96)), .none⟩]) (.seq (.region [⟨(.some 98), (.faddr 1 (.t 4)), .none⟩, ⟨(.some 99), (.loadTake (.t 98)), .none⟩, ⟨(.some 100), (.load (.some 4) (.t 7)), .none⟩, ⟨(.some 101), (.buildSl 4 (.agg [(.int .i64 0), (.str []), (.int .i64 0), (.int .i64 0)]) 1 [(0, (.t 100))]), .none⟩, ⟨(.some 102), (.append 4 40 (.t 99) (.t 101)), .none⟩, ⟨(.some 103), (.faddr 1 (.t 4)), .none⟩, ⟨.none, (.store 1 (.t 103) (.t 102)), .none⟩]) (.region [⟨(.some 104), (.move (.t 6)), .none⟩, ⟨(.some 105), (.move (.t 8)), .none⟩, ⟨(.some 106), (.bin .add (.t 104) (.t 105)), .none⟩, ⟨(.some 6), (.assign (.t 106)), .none⟩])))))))))
abbrev tv (p : Tk) : AV := .agg (et p)
abbrev sc0 : LObj := .cells false [AV.int IntKind.i64 0, .vec none false [], .bool false, .str []]
/-- The slots of a scan. -/
structure S10 (s : St) (b : List UInt8) (m : Mem) : Prop where
  e0 : s.get 0 = .str b
  e2 : s.get 2 = .ptr (.loc 2 0) 0
  e3 : s.get 3 = .ptr (.loc 3 0) 0
  e4 : s.get 4 = .ptr (.loc 4 0) 0
  l2 : s.loc 2 = [sc0]
  hm : s.mem = m
theorem lp10 (b : List UInt8) (hb : b.length ≤ 1000) (ind : Int) (m : Mem) (R : Res) (Q : VExit → St → Prop)
    (hR : ∀ s e c, R = .fault e c → S10 s b m → s.loc 3 = [.cells false [AV.int IntKind.i64 e, AV.int IntKind.i64 0, AV.int IntKind.i64 c]] → Q .ret s)
    (hE : ∀ s T cm, R = .ok T cm → T.length ≤ 64 → S10 s b m → s.loc 3 = [.cells false [AV.int IntKind.i64 0, AV.int IntKind.i64 0, AV.int IntKind.i64 0]] → s.loc 4 = [.cells false [AV.int IntKind.i64 ind, ov 4 tv T, .bool false, .str cm]] → (∃ os, s.loc 10 = os) → Q (.exit 0) s)
    (s : St) (i : Nat) (acc : List Tk) (hi : i ≤ b.length) (hacc : acc.length ≤ 64) (hs : S10 s b m) (l3 : s.loc 3 = [.cells false [AV.int IntKind.i64 0, AV.int IntKind.i64 0, AV.int IntKind.i64 0]]) (l4 : s.loc 4 = [.cells false [AV.int IntKind.i64 ind, ov 4 tv acc, .bool false, .str []]])
    (e6 : s.get 6 = AV.int IntKind.i64 i) (hlex : lexA (b.drop i) i acc = R) : wp T10 (.loop lb10) s Q := by
  unfold lb10
  refine wp_loop (fun n s => ∃ (i : Nat) (acc : List Tk) (os : List LObj), n = b.length - i ∧ i ≤ b.length ∧ acc.length ≤ 64 ∧ S10 s b m ∧ s.loc 3 = [.cells false [AV.int IntKind.i64 0, AV.int IntKind.i64 0, AV.int IntKind.i64 0]] ∧ s.loc 4 = [.cells false [AV.int IntKind.i64 ind, ov 4 tv acc, .bool false, .str []]] ∧ s.get 6 = AV.int IntKind.i64 i ∧ s.loc 7 = os ∧ lexA (b.drop i) i acc = R) ?_ _ s ⟨i, acc, s.loc 7, rfl, hi, hacc, hs, l3, l4, e6, rfl, hlex⟩
  clear hs l3 l4 e6 hlex hacc hi acc i s
  rintro n s ⟨i, acc, os, hn, hi, hacc, hs, l3, l4, e6, l7, hlex⟩
  have e0 := hs.e0
  have e2 := hs.e2
  have e3 := hs.e3
  have e4 := hs.e4
  have l2 := hs.l2
  have hm := hs.hm
  by_cases hlt : i < b.length
  rotate_left
  · have hd : b.drop i = [] := List.drop_eq_nil_of_le (by omega)
    rw [hd, lexA_nil] at hlex
    simp [e0, e6, hlt]
    exact hE _ acc [] hlex.symm hacc ⟨by simp [e0], by simp [e2], by simp [e3], by simp [e4], by simp [l2], by simp [hm]⟩ (by simp [l3]) (by simp [l4]) ⟨_, rfl⟩
  have hd : b.drop i = b[i] :: b.drop (i + 1) := by simp
  have w1 : W64 ((i : Int) + 1) ((i + 1 : Nat) : Int) := .mkI rfl (by omega) (by omega)
  rw [hd, lexA_cons] at hlex
  by_cases h32 : b[i].toNat = 32
  · rw [if_pos h32] at hlex
    have h32i : (b[i].toNat : Int) = 32 := by omega
    simp [e0, e6, hlt, w1.eq, h32i, -Int.natCast_add]
    refine ⟨b.length - (i + 1), by omega, i + 1, rfl, by omega, acc, hacc, ⟨by simp [e0], by simp [e2], by simp [e3], by simp [e4], by simp [l2], by simp [hm]⟩, ?_⟩
    simp [l3, l4, hlex]
  rw [if_neg h32] at hlex
  have h32i : ¬ (b[i].toNat : Int) = 32 := by omega
  by_cases h35 : b[i].toNat = 35
  · rw [if_pos h35] at hlex
    have h35i : (b[i].toNat : Int) = 35 := by omega
    simp [e0, e6, e4, l4, hlt, w1.eq, h35i, objCells, -Int.natCast_add]
    refine ⟨by omega, ?_⟩
    exact hE _ acc (b.drop (i + 1)) hlex.symm hacc ⟨by simp [e0], by simp [e2], by simp [e3], by simp [e4], by simp [l2], by simp [hm]⟩ (by simp [l3]) (by simp [l4]) ⟨_, rfl⟩
  rw [if_neg h35] at hlex
  have h35i : ¬ (b[i].toNat : Int) = 35 := by omega
  by_cases h64 : acc.length = 64
  · rw [if_pos h64] at hlex
    have h64i : (acc.length : Int) = 64 := by omega
    simp [e0, e2, e3, e4, e6, l2, l3, l4, hlt, w1.eq, h32i, h35i, h64i, objCells, -Int.natCast_add]
    exact hR _ 7 (i + 1) hlex.symm ⟨by simp [e0], by simp [e2], by simp [e3], by simp [e4], by simp [l2], by simp [hm]⟩ (by simp [l3])
  rw [if_neg h64] at hlex
  have h64i : ¬ (acc.length : Int) = 64 := by omega
  have h26 := q43 b[i] (b.drop (i + 1)) (by simp; omega) []
  rw [← hd] at h26 hlex
  by_cases he : (lexT (b.drop i)).e = 0
  · rw [if_pos he] at hlex
    have hp := lex_pos (c := b[i]) (r := b.drop (i + 1)) (by rw [← hd]; exact he)
    rw [← hd] at hp
    generalize lexT (b.drop i) = X at *
    have w2 : W64 ((i : Int) + (X.l : Int)) ((i + X.l : Nat) : Int) := .mkI (by omega) (by simp at hp; omega) (by simp at hp; omega)
    have hsn := ov_snoc (z := 4) (e := tv) (xs := acc) (x := ⟨X.k, X.t, X.n, i + 1⟩)
    simp only [tv, et] at hsn
    simp [e0, e2, e3, e4, e6, l2, l3, l4, l7, hlt, w1.eq, w2.eq, h32i, h35i, h64i, h26, he, objCells, -Int.natCast_add]
    have hll : X.l ≤ b.length - i := by have := hp.2; simp at this; omega
    rw [show ((i : Int) + 1) = ((i + 1 : Nat) : Int) from rfl] at hsn hlex
    refine ⟨by omega, by omega, b.length - (i + X.l), by omega, i + X.l, rfl, by omega, acc ++ [⟨X.k, X.t, X.n, ((i + 1 : Nat) : Int)⟩], by simp; omega, ⟨by simp [e0], by simp [e2], by simp [e3], by simp [e4], by simp [l2], by simp [hm]⟩, ?_⟩
    rw [List.drop_drop] at hlex
    simp [hsn, hlex, -Int.natCast_add]
  · rw [if_neg he] at hlex
    generalize lexT (b.drop i) = X at *
    simp [e0, e2, e3, e4, e6, l2, l3, l4, l7, hlt, w1.eq, h32i, h35i, h64i, h26, he, objCells, -Int.natCast_add]
    refine ⟨by omega, ?_⟩
    exact hR _ X.e (i + 1) hlex.symm ⟨by simp [e0], by simp [e2], by simp [e3], by simp [e4], by simp [l2], by simp [hm]⟩ (by simp [l3])
end Go.Vm.Ch10
