/- Chapter 27: what its functions compute. -/
import Derived.Test.YtjlbiebejodecaaDoorC27p
namespace Go.Vm.Ch27
open _root_.Ch27 (T27 c24)
set_option maxRecDepth 10000
set_option maxHeartbeats 8000000
def onB (P : List Prt) (w h : Int) (q : Plc) : Bool := decide (0 ≤ q.x ∧ 0 ≤ q.y ∧ q.x ≤ w - (gi P q.part).w ∧ q.y ≤ h - (gi P q.part).h)
/-- Are places a possible row of shelves, behind a place and the top of its shelf? -/
def chB (P : List Prt) (w h kf : Int) : Option (Plc × Int) → List Plc → Bool
  | _, [] => true
  | none, p :: r => onB P w h p && decide (p.sh = 0) && chB P w h kf (some (p, p.y + (gi P p.part).h)) r
  | some (q, top), p :: r => onB P w h p && (if p.sh = q.sh then decide (p.y = q.y ∧ q.x + (gi P q.part).w + kf ≤ p.x) && chB P w h kf (some (p, if top < p.y + (gi P p.part).h then p.y + (gi P p.part).h else top)) r
      else if p.sh = IntKind.wrap .i64 (q.sh + 1) then decide (top + kf ≤ p.y) && chB P w h kf (some (p, p.y + (gi P p.part).h)) r else false)
def ksL (pl : List Plc) (lf : List Int) : List Int := pl.map (·.part) ++ lf
def validB (P : List Prt) (w h kf : Int) (pl : List Plc) (lf : List Int) : Bool :=
  decide (chk P w h kf = 0) && useB P.length [] (ksL pl lf) && fullB (ksL pl lf) P.length && chB P w h kf none pl
theorem use_app (n : Nat) : ∀ (a b l : List Int), useB n l (a ++ b) = (useB n l a && useB n (l ++ a) b)
  | [], b, l => by simp [useB]
  | k :: a, b, l => by
    rw [List.cons_append, useB, useB, use_app n a b, List.append_assoc]
    simp [Bool.and_assoc]
theorem use_false (n : Nat) : ∀ (r l : List Int), useB n l r = false → ∃ k, ∃ (hk : k < r.length), newB (l ++ r.take k) n r[k] = false ∧ ∀ j (hj : j < r.length), j < k → newB (l ++ r.take j) n r[j] = true
  | [], l, h => by simp [useB] at h
  | x :: r, l, h => by
    rw [useB, Bool.and_eq_false_iff] at h
    cases hx : newB l n x
    · exact ⟨0, by simp, by simpa using hx, fun j _ hj => by omega⟩
    · have h2 : useB n (l ++ [x]) r = false := by
        rcases h with h | h
        · rw [hx] at h; cases h
        · exact h
      obtain ⟨k, hk, h3, h4⟩ := use_false n r (l ++ [x]) h2
      refine ⟨k + 1, by simpa using hk, by simpa using h3, fun j hj hlt => ?_⟩
      cases j with
      | zero => simpa using hx
      | succ j => have := h4 j (by simpa using hj) (by omega); simpa using this
theorem use_true (n : Nat) : ∀ (r l : List Int), useB n l r = true → ∀ j (hj : j < r.length), newB (l ++ r.take j) n r[j] = true
  | [], l, h, j, hj => by simp at hj
  | x :: r, l, h, j, hj => by
    rw [useB, Bool.and_eq_true] at h
    cases j with
    | zero => simpa using h.1
    | succ j => have := use_true n r (l ++ [x]) h.2 j (by simpa using hj); simpa using this
theorem use_range {n : Nat} {r l : List Int} (h : useB n l r = true) : ∀ k ∈ r, 0 ≤ k ∧ k < n := by
  intro k hk
  obtain ⟨j, hj, rfl⟩ := List.getElem_of_mem hk
  have := use_true n r l h j hj
  unfold newB at this
  simp only [Bool.and_eq_true, decide_eq_true_eq] at this
  exact this.1
/-- Where the second walk over the places stands. -/
def StI (P : List Prt) (w h kf : Int) (pl : List Plc) (V : Bool) (i : Nat) (top : Int) : Prop :=
  (i = 0 ∧ V = chB P w h kf none pl) ∨ (∃ j q, i = j + 1 ∧ pl[j]? = some q ∧ onB P w h q = true ∧ 0 ≤ top ∧ top ≤ 1000000 ∧ V = chB P w h kf (some (q, top)) (pl.drop i))
open _root_.Ch27 in
def b24 : VC := (.seq (.region [⟨(.some 55), (.bin .lss (.t 54) (.t 53)), .none⟩]) (.seq (.cond (.t 55) .skip (.exit 2)) (.seq (.block 3 (.seq (.region [⟨(.some 56), (.move (.t 54)), .none⟩, ⟨(.some 57), (.iaddrSl 4 (.t 52) (.t 54)), .none⟩, ⟨(.some 58), (.load (.some 4) (.t 57)), .none⟩, ⟨(.some 17), (.alloc .false [(.int .i64 0), (.int .i64 0), (.int .i64 0), (.int .i64 0)]), .none⟩, ⟨(.some 16), (.assign (.t 56)), .none⟩, ⟨.none, (.store 4 (.t 17) (.t 58)), .none⟩]) (.seq (.region [⟨(.some 59), (.load .none (.t 5)), .none⟩, ⟨(.some 60), (.faddr 0 (.t 17)), .none⟩, ⟨(.some 61), (.load .none (.t 60)), .none⟩, ⟨(.some 62), (.iaddrSl 3 (.t 59) (.t 61)), .none⟩, ⟨(.some 63), (.load (.some 3) (.t 62)), .none⟩, ⟨(.some 18), (.alloc .false [(.str []), (.int .i64 0), (.int .i64 0)]), .none⟩, ⟨.none, (.store 3 (.t 18) (.t 63)), .none⟩]) (.seq (.seq (.region [⟨(.some 64), (.faddr 1 (.t 17)), .none⟩, ⟨(.some 65), (.load .none (.t 64)), .none⟩, ⟨(.some 66), (.bin .lss (.t 65) (.k (.int .i64 0))), .none⟩, ⟨(.some 67), (.move (.t 66)), .none⟩, ⟨(.some 68), (.faddr 2 (.t 17)), (.some (67, .false))⟩, ⟨(.some 69), (.load .none (.t 68)), (.some (67, .false))⟩, ⟨(.some 70), (.bin .lss (.t 69) (.k (.int .i64 0))), (.some (67, .false))⟩, ⟨(.some 71), (.pick (.t 67) (.k (.bool .true)) (.t 70)), .none⟩, ⟨(.some 72), (.move (.t 71)), .none⟩, ⟨(.some 73), (.faddr 1 (.t 17)), (.some (72, .false))⟩, ⟨(.some 74), (.load .none (.t 73)), (.some (72, .false))⟩, ⟨(.some 75), (.move (.t 1)), (.some (72, .false))⟩, ⟨(.some 76), (.faddr 1 (.t 18)), (.some (72, .false))⟩, ⟨(.some 77), (.load .none (.t 76)), (.some (72, .false))⟩, ⟨(.some 78), (.bin .sub (.t 75) (.t 77)), (.some (72, .false))⟩, ⟨(.some 79), (.bin .gtr (.t 74) (.t 78)), (.some (72, .false))⟩, ⟨(.some 80), (.pick (.t 72) (.k (.bool .true)) (.t 79)), .none⟩, ⟨(.some 81), (.move (.t 80)), .none⟩, ⟨(.some 82), (.faddr 2 (.t 17)), (.some (81, .false))⟩, ⟨(.some 83), (.load .none (.t 82)), (.some (81, .false))⟩, ⟨(.some 84), (.move (.t 2)), (.some (81, .false))⟩, ⟨(.some 85), (.faddr 2 (.t 18)), (.some (81, .false))⟩, ⟨(.some 86), (.load .none (.t 85)), (.some (81, .false))⟩, ⟨(.some 87), (.bin .sub (.t 84) (.t 86)), (.some (81, .false))⟩, ⟨(.some 88), (.bin .gtr (.t 83) (.t 87)), (.some (81, .false))⟩, ⟨(.some 89), (.pick (.t 81) (.k (.bool .true)) (.t 88)), .none⟩]) (.cond (.t 89) (.seq (.region [⟨(.some 10), (.assign (.k (.bool .false))), .none⟩]) .ret) .skip)) (.seq (.seq (.region [⟨(.some 90), (.move (.t 16)), .none⟩, ⟨(.some 91), (.bin .eql (.t 90) (.k (.int .i64 0))), .none⟩]) (.cond (.t 91) (.seq (.seq (.region [⟨(.some 92), (.faddr 3 (.t 17)), .none⟩, ⟨(.some 93), (.load .none (.t 92)), .none⟩, ⟨(.some 94), (.bin .neq (.t 93) (.k (.int .i64 0))), .none⟩]) (.cond (.t 94) (.seq (.region [⟨(.some 10), (.assign (.k (.bool .false))), .none⟩]) .ret) .skip)) (.seq (.region [⟨(.some 95), (.faddr 2 (.t 17)), .none⟩, ⟨(.some 96), (.load .none (.t 95)), .none⟩, ⟨(.some 97), (.faddr 2 (.t 18)), .none⟩, ⟨(.some 98), (.load .none (.t 97)), .none⟩, ⟨(.some 99), (.bin .add (.t 96) (.t 98)), .none⟩, ⟨(.some 15), (.assign (.t 99)), .none⟩]) (.exit 3))) .skip)) (.seq (.region [⟨(.some 100), (.faddr 0 (.t 9)), .none⟩, ⟨(.some 101), (.load .none (.t 100)), .none⟩, ⟨(.some 102), (.move (.t 16)), .none⟩, ⟨(.some 103), (.bin .sub (.t 102) (.k (.int .i64 1))), .none⟩, ⟨(.some 104), (.iaddrSl 4 (.t 101) (.t 103)), .none⟩, ⟨(.some 105), (.load (.some 4) (.t 104)), .none⟩, ⟨(.some 19), (.alloc .false [(.int .i64 0), (.int .i64 0), (.int .i64 0), (.int .i64 0)]), .none⟩, ⟨.none, (.store 4 (.t 19) (.t 105)), .none⟩]) (.block 4 (.seq (.region [⟨(.some 107), (.faddr 3 (.t 17)), .none⟩, ⟨(.some 108), (.load .none (.t 107)), .none⟩, ⟨(.some 109), (.faddr 3 (.t 19)), .none⟩, ⟨(.some 110), (.load .none (.t 109)), .none⟩, ⟨(.some 111), (.bin .eql (.t 108) (.t 110)), .none⟩, ⟨(.some 106), (.assign (.t 111)), .none⟩]) (.cond (.t 106) (.seq (.seq (.region [⟨(.some 112), (.faddr 2 (.t 17)), .none⟩, ⟨(.some 113), (.load .none (.t 112)), .none⟩, ⟨(.some 114), (.faddr 2 (.t 19)), .none⟩, ⟨(.some 115), (.load .none (.t 114)), .none⟩, ⟨(.some 116), (.bin .neq (.t 113) (.t 115)), .none⟩, ⟨(.some 117), (.move (.t 116)), .none⟩, ⟨(.some 118), (.faddr 1 (.t 17)), (.some (117, .false))⟩, ⟨(.some 119), (.load .none (.t 118)), (.some (117, .false))⟩, ⟨(.some 120), (.faddr 1 (.t 19)), (.some (117, .false))⟩, ⟨(.some 121), (.load .none (.t 120)), (.some (117, .false))⟩, ⟨(.some 122), (.load .none (.t 5)), (.some (117, .false))⟩, ⟨(.some 123), (.faddr 0 (.t 19)), (.some (117, .false))⟩, ⟨(.some 124), (.load .none (.t 123)), (.some (117, .false))⟩, ⟨(.some 125), (.iaddrSl 3 (.t 122) (.t 124)), (.some (117, .false))⟩, ⟨(.some 126), (.faddr 1 (.t 125)), (.some (117, .false))⟩, ⟨(.some 127), (.load .none (.t 126)), (.some (117, .false))⟩, ⟨(.some 128), (.bin .add (.t 121) (.t 127)), (.some (117, .false))⟩, ⟨(.some 129), (.move (.t 3)), (.some (117, .false))⟩, ⟨(.some 130), (.bin .add (.t 128) (.t 129)), (.some (117, .false))⟩, ⟨(.some 131), (.bin .lss (.t 119) (.t 130)), (.some (117, .false))⟩, ⟨(.some 132), (.pick (.t 117) (.k (.bool .true)) (.t 131)), .none⟩]) (.cond (.t 132) (.seq (.region [⟨(.some 10), (.assign (.k (.bool .false))), .none⟩]) .ret) .skip)) (.region [⟨(.some 133), (.move (.t 15)), .none⟩, ⟨(.some 134), (.faddr 2 (.t 17)), .none⟩, ⟨(.some 135), (.load .none (.t 134)), .none⟩, ⟨(.some 136), (.faddr 2 (.t 18)), .none⟩, ⟨(.some 137), (.load .none (.t 136)), .none⟩, ⟨(.some 138), (.bin .add (.t 135) (.t 137)), .none⟩, ⟨(.some 139), (.minmax .true [(.t 133), (.t 138)]), .none⟩, ⟨(.some 15), (.assign (.t 139)), .none⟩])) (.seq (.region [⟨(.some 141), (.faddr 3 (.t 17)), .none⟩, ⟨(.some 142), (.load .none (.t 141)), .none⟩, ⟨(.some 143), (.faddr 3 (.t 19)), .none⟩, ⟨(.some 144), (.load .none (.t 143)), .none⟩, ⟨(.some 145), (.bin .add (.t 144) (.k (.int .i64 1))), .none⟩, ⟨(.some 146), (.bin .eql (.t 142) (.t 145)), .none⟩, ⟨(.some 140), (.assign (.t 146)), .none⟩]) (.cond (.t 140) (.seq (.seq (.region [⟨(.some 147), (.faddr 2 (.t 17)), .none⟩, ⟨(.some 148), (.load .none (.t 147)), .none⟩, ⟨(.some 149), (.move (.t 15)), .none⟩, ⟨(.some 150), (.move (.t 3)), .none⟩, ⟨(.some 151), (.bin .add (.t 149) (.t 150)), .none⟩, ⟨(.some 152), (.bin .lss (.t 148) (.t 151)), .none⟩]) (.cond (.t 152) (.seq (.region [⟨(.some 10), (.assign (.k (.bool .false))), .none⟩]) .ret) .skip)) (.region [⟨(.some 153), (.faddr 2 (.t 17)), .none⟩, ⟨(.some 154), (.load .none (.t 153)), .none⟩, ⟨(.some 155), (.faddr 2 (.t 18)), .none⟩, ⟨(.some 156), (.load .none (.t 155)), .none⟩, ⟨(.some 157), (.bin .add (.t 154) (.t 156)), .none⟩, ⟨(.some 15), (.assign (.t 157)), .none⟩])) (.seq (.region [⟨(.some 10), (.assign (.k (.bool .false))), .none⟩]) .ret)))))))))))) (.region [⟨(.some 158), (.bin .add (.t 54) (.k (.int .i64 1))), .none⟩, ⟨(.some 54), (.move (.t 158)), .none⟩]))))
/-- What the second walk keeps. -/
structure S24 (P : List Prt) (nn a b : Bool) (w h kf : Int) (pl : List Plc) (lf : List Int) (i : Nat) (top : Int) (s : St) : Prop where
  e1 : s.get 1 = AV.int IntKind.i64 w
  e2 : s.get 2 = AV.int IntKind.i64 h
  e3 : s.get 3 = AV.int IntKind.i64 kf
  e5 : s.get 5 = .ptr (.loc 5 0) 0
  l5 : s.loc 5 = [.cells true [pv nn P]]
  e9 : s.get 9 = .ptr (.loc 9 0) 0
  l9 : s.loc 9 = [.cells false [lv a pl, iv b lf]]
  e15 : s.get 15 = AV.int IntKind.i64 top
  e52 : s.get 52 = lv a pl
  e53 : s.get 53 = AV.int IntKind.i64 pl.length
  e54 : s.get 54 = AV.int IntKind.i64 i
structure C24 (P : List Prt) (w h kf : Int) (pl : List Plc) : Prop where
  g : Good P
  w1 : 1 ≤ w ∧ w ≤ 1000000
  h1 : 1 ≤ h ∧ h ≤ 1000000
  k1 : 0 ≤ kf ∧ kf ≤ 1000
  len : pl.length ≤ 1000000
  rng : ∀ q ∈ pl, 0 ≤ q.part ∧ q.part < P.length
/-- One round of the walk at a place that does not lie on the sheet. -/
theorem r24_off {P : List Prt} {nn a b : Bool} {w h kf : Int} {pl : List Plc} {lf : List Int} {i : Nat} {top : Int} {s : St} (hc : C24 P w h kf pl) (hs : S24 P nn a b w h kf pl lf i top s) (hlt : i < pl.length) (hon : onB P w h pl[i] = false) {Q : VExit → St → Prop}
    (hR : ∀ s', s'.get 10 = .bool false → Q .ret s') : wp T27 b24 s Q := by
  obtain ⟨e1, e2, e3, e5, l5, e9, l9, e15, e52, e53, e54⟩ := hs
  have gp := gi_nat hlt
  have hpr := hc.rng _ (List.getElem_mem hlt)
  have hpm := hc.g _ (gi_memP hpr)
  have hw := hc.w1
  have hh := hc.h1
  generalize l17 : s.loc 17 = os17 at *
  generalize l18 : s.loc 18 = os18 at *
  generalize l19 : s.loc 19 = os19 at *
  generalize pl[i] = p at *
  have hW : W64 (w - (gi P p.part).w) (w - (gi P p.part).w) := .mkI rfl (by omega) (by omega)
  have hH : W64 (h - (gi P p.part).h) (h - (gi P p.part).h) := .mkI rfl (by omega) (by omega)
  replace hW := hW.eq
  replace hH := hH.eq
  unfold onB at hon
  generalize hxx : gi P p.part = x at *
  by_cases k1 : p.x < 0
  · simp [b24, e3, e5, l5, e9, l9, e15, e52, e53, e54, l17, l18, l19, hlt, gp, hpr, hxx, k1]
    exact hR _ (by simp)
  by_cases k2 : p.y < 0
  · simp [b24, e3, e5, l5, e9, l9, e15, e52, e53, e54, l17, l18, l19, hlt, gp, hpr, hxx, k1, k2]
    exact hR _ (by simp)
  by_cases k3 : w - x.w < p.x
  · simp [b24, e1, e3, e5, l5, e9, l9, e15, e52, e53, e54, l17, l18, l19, hlt, gp, hpr, hW, hxx, k1, k2, k3]
    exact hR _ (by simp)
  by_cases k4 : h - x.h < p.y
  · simp [b24, e1, e2, e3, e5, l5, e9, l9, e15, e52, e53, e54, l17, l18, l19, hlt, gp, hpr, hW, hH, hxx, k1, k2, k3, k4]
    exact hR _ (by simp)
  exfalso
  rw [decide_eq_false_iff_not] at hon
  omega
end Go.Vm.Ch27
