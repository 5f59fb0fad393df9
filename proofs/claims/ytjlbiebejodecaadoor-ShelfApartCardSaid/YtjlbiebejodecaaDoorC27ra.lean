/- Chapter 27: what its functions compute. -/
import Derived.Test.YtjlbiebejodecaaDoorC27r
namespace Go.Vm.Ch27
open _root_.Ch27 (T27 c26 c56)
set_option maxRecDepth 10000
set_option maxHeartbeats 8000000
def StR (P : List Prt) (w h kf : Int) (pl : List Plc) (V : Bool) (i : Nat) (tall : Int) : Prop :=
  (i = 0 ∧ V = chB P w h kf none pl) ∨ (∃ j q, i = j + 1 ∧ pl[j]? = some q ∧ onB P w h q = true ∧ 0 ≤ tall ∧ tall ≤ 1000000 ∧ V = chB P w h kf (some (q, q.y + tall)) (pl.drop i))
open _root_.Ch27 in
def b26 : VC := (.seq (.seq (.region [⟨(.some 74), (.move (.t 15)), .none⟩, ⟨(.some 75), (.faddr 0 (.t 9)), .none⟩, ⟨(.some 76), (.load .none (.t 75)), .none⟩, ⟨(.some 77), (.lenSl (.t 76)), .none⟩, ⟨(.some 78), (.bin .lss (.t 74) (.t 77)), .none⟩]) (.cond (.t 78) .skip (.exit 2))) (.seq (.block 3 (.seq (.region [⟨(.some 81), (.faddr 0 (.t 9)), .none⟩, ⟨(.some 82), (.load .none (.t 81)), .none⟩, ⟨(.some 83), (.move (.t 15)), .none⟩, ⟨(.some 84), (.iaddrSl 4 (.t 82) (.t 83)), .none⟩, ⟨(.some 85), (.load (.some 4) (.t 84)), .none⟩, ⟨(.some 16), (.alloc .false [(.int .i64 0), (.int .i64 0), (.int .i64 0), (.int .i64 0)]), .none⟩, ⟨.none, (.store 4 (.t 16) (.t 85)), .none⟩]) (.seq (.seq (.region [⟨(.some 86), (.move (.t 0)), .none⟩, ⟨(.some 87), (.move (.t 1)), .none⟩, ⟨(.some 88), (.move (.t 2)), .none⟩, ⟨(.some 89), (.load (.some 4) (.t 16)), .none⟩, ⟨(.some 90), (.callP (.k (.fn (.func 56) [])) [(.t 86), (.t 87), (.t 88), (.t 89)]), .none⟩, ⟨(.some 91), (.un .not (.t 90)), .none⟩]) (.cond (.t 91) (.seq (.region [⟨(.some 10), (.assign (.k (.bool .false))), .none⟩]) .ret) .skip)) (.seq (.seq (.region [⟨(.some 92), (.move (.t 15)), .none⟩, ⟨(.some 93), (.bin .eql (.t 92) (.k (.int .i64 0))), .none⟩]) (.cond (.t 93) (.seq (.seq (.region [⟨(.some 94), (.faddr 3 (.t 16)), .none⟩, ⟨(.some 95), (.load .none (.t 94)), .none⟩, ⟨(.some 96), (.bin .neq (.t 95) (.k (.int .i64 0))), .none⟩]) (.cond (.t 96) (.seq (.region [⟨(.some 10), (.assign (.k (.bool .false))), .none⟩]) .ret) .skip)) (.seq (.region [⟨(.some 97), (.move (.t 0)), .none⟩, ⟨(.some 98), (.faddr 0 (.t 16)), .none⟩, ⟨(.some 99), (.load .none (.t 98)), .none⟩, ⟨(.some 100), (.iaddrSl 3 (.t 97) (.t 99)), .none⟩, ⟨(.some 101), (.faddr 2 (.t 100)), .none⟩, ⟨(.some 102), (.load .none (.t 101)), .none⟩, ⟨(.some 14), (.assign (.t 102)), .none⟩]) (.exit 3))) .skip)) (.seq (.region [⟨(.some 103), (.faddr 0 (.t 9)), .none⟩, ⟨(.some 104), (.load .none (.t 103)), .none⟩, ⟨(.some 105), (.move (.t 15)), .none⟩, ⟨(.some 106), (.bin .sub (.t 105) (.k (.int .i64 1))), .none⟩, ⟨(.some 107), (.iaddrSl 4 (.t 104) (.t 106)), .none⟩, ⟨(.some 108), (.load (.some 4) (.t 107)), .none⟩, ⟨(.some 17), (.alloc .false [(.int .i64 0), (.int .i64 0), (.int .i64 0), (.int .i64 0)]), .none⟩, ⟨.none, (.store 4 (.t 17) (.t 108)), .none⟩]) (.block 4 (.seq (.region [⟨(.some 110), (.faddr 3 (.t 16)), .none⟩, ⟨(.some 111), (.load .none (.t 110)), .none⟩, ⟨(.some 112), (.faddr 3 (.t 17)), .none⟩, ⟨(.some 113), (.load .none (.t 112)), .none⟩, ⟨(.some 114), (.bin .eql (.t 111) (.t 113)), .none⟩, ⟨(.some 109), (.assign (.t 114)), .none⟩]) (.cond (.t 109) (.seq (.seq (.region [⟨(.some 115), (.faddr 2 (.t 16)), .none⟩, ⟨(.some 116), (.load .none (.t 115)), .none⟩, ⟨(.some 117), (.faddr 2 (.t 17)), .none⟩, ⟨(.some 118), (.load .none (.t 117)), .none⟩, ⟨(.some 119), (.bin .neq (.t 116) (.t 118)), .none⟩, ⟨(.some 120), (.move (.t 119)), .none⟩, ⟨(.some 121), (.faddr 1 (.t 16)), (.some (120, .false))⟩, ⟨(.some 122), (.load .none (.t 121)), (.some (120, .false))⟩, ⟨(.some 123), (.faddr 1 (.t 17)), (.some (120, .false))⟩, ⟨(.some 124), (.load .none (.t 123)), (.some (120, .false))⟩, ⟨(.some 125), (.move (.t 0)), (.some (120, .false))⟩, ⟨(.some 126), (.faddr 0 (.t 17)), (.some (120, .false))⟩, ⟨(.some 127), (.load .none (.t 126)), (.some (120, .false))⟩, ⟨(.some 128), (.iaddrSl 3 (.t 125) (.t 127)), (.some (120, .false))⟩, ⟨(.some 129), (.faddr 1 (.t 128)), (.some (120, .false))⟩, ⟨(.some 130), (.load .none (.t 129)), (.some (120, .false))⟩, ⟨(.some 131), (.bin .add (.t 124) (.t 130)), (.some (120, .false))⟩, ⟨(.some 132), (.move (.t 3)), (.some (120, .false))⟩, ⟨(.some 133), (.bin .add (.t 131) (.t 132)), (.some (120, .false))⟩, ⟨(.some 134), (.bin .lss (.t 122) (.t 133)), (.some (120, .false))⟩, ⟨(.some 135), (.pick (.t 120) (.k (.bool .true)) (.t 134)), .none⟩]) (.cond (.t 135) (.seq (.region [⟨(.some 10), (.assign (.k (.bool .false))), .none⟩]) .ret) .skip)) (.region [⟨(.some 136), (.move (.t 14)), .none⟩, ⟨(.some 137), (.move (.t 0)), .none⟩, ⟨(.some 138), (.faddr 0 (.t 16)), .none⟩, ⟨(.some 139), (.load .none (.t 138)), .none⟩, ⟨(.some 140), (.iaddrSl 3 (.t 137) (.t 139)), .none⟩, ⟨(.some 141), (.faddr 2 (.t 140)), .none⟩, ⟨(.some 142), (.load .none (.t 141)), .none⟩, ⟨(.some 143), (.minmax .true [(.t 136), (.t 142)]), .none⟩, ⟨(.some 14), (.assign (.t 143)), .none⟩])) (.seq (.region [⟨(.some 145), (.faddr 3 (.t 16)), .none⟩, ⟨(.some 146), (.load .none (.t 145)), .none⟩, ⟨(.some 147), (.faddr 3 (.t 17)), .none⟩, ⟨(.some 148), (.load .none (.t 147)), .none⟩, ⟨(.some 149), (.bin .add (.t 148) (.k (.int .i64 1))), .none⟩, ⟨(.some 150), (.bin .eql (.t 146) (.t 149)), .none⟩, ⟨(.some 144), (.assign (.t 150)), .none⟩]) (.cond (.t 144) (.seq (.seq (.region [⟨(.some 151), (.faddr 2 (.t 16)), .none⟩, ⟨(.some 152), (.load .none (.t 151)), .none⟩, ⟨(.some 153), (.faddr 2 (.t 17)), .none⟩, ⟨(.some 154), (.load .none (.t 153)), .none⟩, ⟨(.some 155), (.move (.t 14)), .none⟩, ⟨(.some 156), (.bin .add (.t 154) (.t 155)), .none⟩, ⟨(.some 157), (.move (.t 3)), .none⟩, ⟨(.some 158), (.bin .add (.t 156) (.t 157)), .none⟩, ⟨(.some 159), (.bin .lss (.t 152) (.t 158)), .none⟩]) (.cond (.t 159) (.seq (.region [⟨(.some 10), (.assign (.k (.bool .false))), .none⟩]) .ret) .skip)) (.region [⟨(.some 160), (.move (.t 0)), .none⟩, ⟨(.some 161), (.faddr 0 (.t 16)), .none⟩, ⟨(.some 162), (.load .none (.t 161)), .none⟩, ⟨(.some 163), (.iaddrSl 3 (.t 160) (.t 162)), .none⟩, ⟨(.some 164), (.faddr 2 (.t 163)), .none⟩, ⟨(.some 165), (.load .none (.t 164)), .none⟩, ⟨(.some 14), (.assign (.t 165)), .none⟩])) (.seq (.region [⟨(.some 10), (.assign (.k (.bool .false))), .none⟩]) .ret))))))))))) (.region [⟨(.some 79), (.move (.t 15)), .none⟩, ⟨(.some 80), (.bin .add (.t 79) (.k (.int .i64 1))), .none⟩, ⟨(.some 15), (.assign (.t 80)), .none⟩])))
structure S26 (P : List Prt) (nn a b : Bool) (w h kf : Int) (pl : List Plc) (lf : List Int) (i : Nat) (tall : Int) (s : St) : Prop where
  e0 : s.get 0 = pv nn P
  e1 : s.get 1 = AV.int IntKind.i64 w
  e2 : s.get 2 = AV.int IntKind.i64 h
  e3 : s.get 3 = AV.int IntKind.i64 kf
  e9 : s.get 9 = .ptr (.loc 9 0) 0
  l9 : s.loc 9 = [.cells false [lv a pl, iv b lf]]
  e14 : s.get 14 = AV.int IntKind.i64 tall
  e15 : s.get 15 = AV.int IntKind.i64 i
theorem r26_off {P : List Prt} {nn a b : Bool} {w h kf : Int} {pl : List Plc} {lf : List Int} {i : Nat} {tall : Int} {s : St} (hc : C24 P w h kf pl) (hs : S26 P nn a b w h kf pl lf i tall s) (hlt : i < pl.length) (hon : onB P w h pl[i] = false) {Q : VExit → St → Prop}
    (hR : ∀ s', s'.get 10 = .bool false → s'.mem = s.mem → Q .ret s') : wp T27 b26 s Q := by
  obtain ⟨e0, e1, e2, e3, e9, l9, e14, e15⟩ := hs
  have gp := gi_nat hlt
  have hpr := hc.rng _ (List.getElem_mem hlt)
  have hpm := hc.g _ (gi_memP hpr)
  have hw := hc.w1
  have hh := hc.h1
  have hk := hc.k1
  have hll := hc.len
  have h56 := q56 P nn w h pl[i] hpr hc.g hw hh []
  have hdr : pl.drop i = pl[i] :: pl.drop (i + 1) := by simp
  have hpi : pl[i]? = some pl[i] := List.getElem?_eq_getElem hlt
  generalize l16 : s.loc 16 = os16 at *
  generalize l17 : s.loc 17 = os17 at *
  rw [hon] at h56
  generalize pl[i] = p at *
  have hon' := hon
  simp [b26, e0, e1, e2, e3, e9, l9, e14, e15, l16, l17, hlt, gp, hpr, h56]
  exact hR _ (by simp) (by simp)
theorem r26_zero {P : List Prt} {nn a b : Bool} {w h kf : Int} {pl : List Plc} {lf : List Int} {i : Nat} {tall : Int} {s : St} {V : Bool} (hc : C24 P w h kf pl) (hs : S26 P nn a b w h kf pl lf i tall s) (hlt : i < pl.length) (hon : onB P w h pl[i] = true) (hi0 : i = 0) (hv : V = chB P w h kf none pl) {Q : VExit → St → Prop}
    (hR : V = false → ∀ s', s'.get 10 = .bool false → s'.mem = s.mem → Q .ret s') (hN : ∀ s' tall', StR P w h kf pl V (i + 1) tall' → S26 P nn a b w h kf pl lf (i + 1) tall' s' → s'.mem = s.mem → Q .normal s') : wp T27 b26 s Q := by
  obtain ⟨e0, e1, e2, e3, e9, l9, e14, e15⟩ := hs
  have gp := gi_nat hlt
  have hpr := hc.rng _ (List.getElem_mem hlt)
  have hpm := hc.g _ (gi_memP hpr)
  have hw := hc.w1
  have hh := hc.h1
  have hk := hc.k1
  have hll := hc.len
  have h56 := q56 P nn w h pl[i] hpr hc.g hw hh []
  have hdr : pl.drop i = pl[i] :: pl.drop (i + 1) := by simp
  have hpi : pl[i]? = some pl[i] := List.getElem?_eq_getElem hlt
  generalize l16 : s.loc 16 = os16 at *
  generalize l17 : s.loc 17 = os17 at *
  rw [hon] at h56
  generalize pl[i] = p at *
  have hon' := hon
  unfold onB at hon
  generalize hxx : gi P p.part = x at *
  rw [decide_eq_true_iff] at hon
  have w2 : W64 ((i : Int) + 1) ((i + 1 : Nat) : Int) := .mkI (by omega) (by omega) (by omega)
  replace w2 := w2.eq
  subst hi0
  rw [List.drop_zero] at hdr
  have gp0 : gi pl 0 = p := gp
  have w20 : IntKind.wrap .i64 1 = 1 := wrap64 (by omega) (by omega)
  rw [hdr, chB, hon', Bool.true_and, hxx] at hv
  by_cases k5 : p.sh = 0
  · rw [decide_eq_true k5, Bool.true_and] at hv
    have hS : StR P w h kf pl V (0 + 1) x.h := .inr ⟨0, p, rfl, hpi, hon', by omega, by omega, hv⟩
    simp [b26, e0, e1, e2, e3, e9, l9, e14, e15, l16, l17, hlt, hpr, h56, gp0, hxx, k5, w20]
    refine hN _ _ hS ⟨by simp [e0], by simp [e1], by simp [e2], by simp [e3], by simp [e9], by simp [l9], by simp, by simp⟩ (by simp)
  · rw [decide_eq_false k5, Bool.false_and] at hv
    simp [b26, e0, e1, e2, e3, e9, l9, e14, e15, l16, l17, hlt, hpr, h56, gp0, k5]
    exact hR hv _ (by simp) (by simp)
end Go.Vm.Ch27
