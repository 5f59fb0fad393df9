/- Chapter 55: what its functions compute. -/
import Derived.Test.YtgmhcmmdfejcmaaDoorC55f
namespace Go.Vm.Ch55
open _root_.Ch55 (T55 c12 c13 c14 c16 c18 c20)
set_option maxRecDepth 10000
set_option maxHeartbeats 8000000
/-! ### the program's file -/
/-- A value of bytes that lie in memory, and where their row lies. -/
inductive Cont (m : Mem) : AV → List UInt8 → Option Nat → Prop
  | nil : Cont m (.vec none false []) [] none
  | row (i : Nat) (B : List UInt8) (r : List AV) (h : m[i]? = some (some (LObj.cells false (byc B ++ r)))) : Cont m (.orow 1 i B.length) B (some i)
structure FileAt (m : Mem) (k : Nat) (oi : Option Nat) (B : List UInt8) (d : Nat) : Prop where
  obj : ∃ cv, m[k]? = some (some (LObj.cells false [cv, AV.int IntKind.i64 d])) ∧ Cont m cv B oi
  ne : oi ≠ some k
  le : d ≤ B.length
/-- What a file's method leaves. -/
structure Keeps (m m' : Mem) (k : Nat) (oi oi' : Option Nat) : Prop where
  len : m.length ≤ m'.length
  same : ∀ j, j < m.length → j ≠ k → oi ≠ some j → m'[j]? = m[j]?
  new : oi' = oi ∨ ∃ i, oi' = some i ∧ m.length ≤ i
theorem set_self {m : Mem} {k : Nat} {o : Option LObj} (h : m[k]? = some o) : m.set k o = m := by
  obtain ⟨h1, rfl⟩ := List.getElem?_eq_some_iff.1 h
  exact List.set_getElem_self h1
theorem lt_of_get {m : Mem} {k : Nat} {o : Option LObj} (h : m[k]? = some o) : k < m.length := (List.getElem?_eq_some_iff.1 h).1
theorem q13 (m : Mem) (k : Nat) (oi : Option Nat) (B : List UInt8) (d : Nat) (h : FileAt m k oi B d) (x : List UInt8) (hl : B.length + x.length ≤ 1000000) :
    ∃ m' oi', callL T55 13 [.ptr (.mem k) 0, .str x] m = some (.tup [], m') ∧ FileAt m' k oi' (B ++ x) d ∧ Keeps m m' k oi oi' := by
  obtain ⟨⟨cv, hk, hc⟩, hne, hle⟩ := h
  have hlt := lt_of_get hk
  cases hc with
  | nil =>
    by_cases hx : x = []
    · subst hx
      refine ⟨m, none, ?_, ⟨⟨_, hk, .nil⟩, hne, by simp at hle ⊢; omega⟩, ⟨Nat.le_refl _, fun _ _ _ _ => rfl, .inl rfl⟩⟩
      have hs : m.set k (some (LObj.cells false [.vec none false [], AV.int IntKind.i64 d])) = m := set_self hk
      apply callL_body (vf := c13) rfl rfl
      simp [c13, hk, objCells, appS_empty_nil, hs]
    · have ha := appS_nil (m := m) (o := none) (xs := []) hx (by simp at hl; omega)
      have hk2 : (m ++ [some (LObj.cells false (byc x))])[k]? = some (some (LObj.cells false [.vec none false [], AV.int IntKind.i64 d])) := by rw [List.getElem?_append_left hlt]; exact hk
      refine ⟨(m ++ [some (LObj.cells false (byc x))]).set k (some (LObj.cells false [.orow 1 m.length x.length, AV.int IntKind.i64 d])), some m.length, ?_, ⟨⟨.orow 1 m.length x.length, ?_, ?_⟩, ?_, ?_⟩, ⟨?_, ?_, ?_⟩⟩
      · apply callL_body (vf := c13) rfl rfl
        simp [c13, hk, objCells, ha, hk2]
      · rw [List.getElem?_set_self (by simp; omega)]
      · have := Cont.row (m := (m ++ [some (LObj.cells false (byc x))]).set k (some (LObj.cells false [.orow 1 m.length x.length, AV.int IntKind.i64 d]))) m.length x [] (by
          rw [List.getElem?_set_ne (by omega)]; simp)
        simpa using this
      · simp; omega
      · simp at hle; omega
      · simp
      · intro j h1 h2 h3
        rw [List.getElem?_set_ne (Ne.symm h2), List.getElem?_append_left h1]
      · exact .inr ⟨_, rfl, Nat.le_refl _⟩
  | row i B r hi =>
    have hil := lt_of_get hi
    have hik : i ≠ k := fun e => hne (by rw [e])
    by_cases hx : x = []
    · subst hx
      refine ⟨m, some i, ?_, ⟨⟨.orow 1 i B.length, hk, ?_⟩, hne, by simp at hle ⊢; omega⟩, ⟨Nat.le_refl _, fun _ _ _ _ => rfl, .inl rfl⟩⟩
      · have hs : m.set k (some (LObj.cells false [.orow 1 i B.length, AV.int IntKind.i64 d])) = m := set_self hk
        apply callL_body (vf := c13) rfl rfl
        simp [c13, hk, objCells, appS_empty_row, hs]
      · rw [List.append_nil]; exact .row i B r hi
    · have ha := appS_row (i := i) (b := x) (c := B) (r := r) hi hx (by omega)
      have hk2 : (m.set i none ++ [some (LObj.cells false (byc (B ++ x)))])[k]? = some (some (LObj.cells false [.orow 1 i B.length, AV.int IntKind.i64 d])) := by
        rw [List.getElem?_append_left (by simpa using hlt), List.getElem?_set_ne hik]; exact hk
      refine ⟨(m.set i none ++ [some (LObj.cells false (byc (B ++ x)))]).set k (some (LObj.cells false [.orow 1 m.length (B ++ x).length, AV.int IntKind.i64 d])), some m.length, ?_, ⟨⟨.orow 1 m.length (B ++ x).length, ?_, ?_⟩, ?_, ?_⟩, ⟨?_, ?_, ?_⟩⟩
      · apply callL_body (vf := c13) rfl rfl
        simp only [List.length_append] at ha ⊢
        simp [c13, hk, objCells, ha, hk2]
      · rw [List.getElem?_set_self (by simp; omega)]
      · have := Cont.row (m := (m.set i none ++ [some (LObj.cells false (byc (B ++ x)))]).set k (some (LObj.cells false [.orow 1 m.length (B ++ x).length, AV.int IntKind.i64 d]))) m.length (B ++ x) [] (by
          rw [List.getElem?_set_ne (by omega), List.getElem?_append_right (by simp)]; simp)
        simpa using this
      · simp; omega
      · simp; omega
      · simp
      · intro j h1 h2 h3
        have : i ≠ j := fun e => h3 (by rw [e])
        rw [List.getElem?_set_ne (Ne.symm h2), List.getElem?_append_left (by simpa using h1), List.getElem?_set_ne this]
      · exact .inr ⟨_, rfl, Nat.le_refl _⟩
end Go.Vm.Ch55
