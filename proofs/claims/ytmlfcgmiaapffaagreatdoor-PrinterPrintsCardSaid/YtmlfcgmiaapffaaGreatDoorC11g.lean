/- Chapter 11: what its functions compute. -/
import Derived.Test.YtmlfcgmiaapffaaGreatDoorC11f
namespace Go.Vm.Ch11
open _root_.Ch11 (T11 c81)
set_option maxRecDepth 10000
set_option maxHeartbeats 8000000
/-! ### what a line has -/
structure Tk where
  k : Int
  t : List UInt8
  n : Int
  a : Int
instance : Inhabited Tk := ⟨⟨0, [], 0, 0⟩⟩
def et (p : Tk) : List AV := [AV.int IntKind.i64 p.k, .str p.t, AV.int IntKind.i64 p.n, AV.int IntKind.i64 p.a]
@[simp] theorem et_len (p : Tk) : (et p).length = 4 := rfl
@[simp] theorem et_def (p : Tk) : [AV.int IntKind.i64 p.k, .str p.t, AV.int IntKind.i64 p.n, AV.int IntKind.i64 p.a] = et p := rfl
abbrev tv (p : Tk) : AV := .agg (et p)
inductive Res where
  | fault (e c : Int)
  | ok (T : List Tk) (cm : List UInt8)
/-- The tokens of a line from a place on. -/
def lexL : Nat → List UInt8 → Nat → List Tk → Res
  | 0, _, _, _ => .fault 0 0
  | _ + 1, [], _, acc => .ok acc []
  | f + 1, c :: r, i, acc =>
    if c.toNat = 32 then lexL f r (i + 1) acc
    else if c.toNat = 35 then .ok acc r
    else if acc.length = 64 then .fault 7 (i + 1)
    else if (lexT (c :: r)).e = 0 then lexL f ((c :: r).drop (lexT (c :: r)).l) (i + (lexT (c :: r)).l) (acc ++ [⟨(lexT (c :: r)).k, (lexT (c :: r)).t, (lexT (c :: r)).n, i + 1⟩])
    else .fault (lexT (c :: r)).e (i + 1)
theorem numE_0 {s : List UInt8} (h : numE s = 0) : numBad s = false ∧ (prs (s.take (nE s))).2 = false ∧ ¬ 1000000000000000 < (prs (s.take (nE s))).1 ∧ ¬ (prs (s.take (nE s))).1 < -1000000000000000 := by
  unfold numE at h
  split at h
  · cases h
  · rename_i h1
    split at h
    · cases h
    · rename_i h2
      refine ⟨by simpa using h1, ?_⟩
      simp only [not_or, Bool.not_eq_true] at h2
      exact h2
theorem lex_pos {c : UInt8} {r : List UInt8} (h : (lexT (c :: r)).e = 0) : 1 ≤ (lexT (c :: r)).l ∧ (lexT (c :: r)).l ≤ (c :: r).length := by
  simp only [lexT] at h ⊢
  split
  · rename_i hL
    rw [if_pos hL] at h
    split
    · rename_i h40; rw [if_pos h40] at h; cases h
    · have := (List.takeWhile_prefix pd (l := c :: r)).length_le
      refine ⟨?_, this⟩
      have hp : pd c = true := by
        have key : ∀ n : Fin 256, letterN n.val = true → partN n.val = true := by decide +kernel
        exact key ⟨c.toNat, c.toNat_lt⟩ hL
      simp [hp]
  · rename_i hL
    rw [if_neg hL] at h
    split
    · rename_i hN
      rw [if_pos hN] at h
      simp only at h ⊢
      rw [if_pos h]
      refine ⟨?_, nE_le _⟩
      have := (numE_0 h).1
      unfold numBad at this
      simp only [Bool.or_eq_false_iff, decide_eq_false_iff_not] at this
      unfold nE; omega
    · rename_i hN
      rw [if_neg hN] at h
      split
      · rename_i hQ
        rw [if_pos hQ] at h
        split
        · rename_i h1
          rw [if_pos h1] at h
          split
          · simp only [List.length_cons]; omega
          · rename_i h2; rw [if_neg h2] at h; cases h
        · rename_i h1; rw [if_neg h1] at h; cases h
      · rename_i hQ
        rw [if_neg hQ] at h
        split
        · simp
        · rename_i h1; rw [if_neg h1] at h; cases h
theorem lexL_fuel : ∀ (f g : Nat) (x : List UInt8) (i : Nat) (acc : List Tk), x.length < f → x.length < g → lexL f x i acc = lexL g x i acc
  | 0, _, _, _, _, h, _ => absurd h (Nat.not_lt_zero _)
  | _, 0, _, _, _, _, h => absurd h (Nat.not_lt_zero _)
  | f + 1, g + 1, [], _, _, _, _ => rfl
  | f + 1, g + 1, c :: r, i, acc, hf, hg => by
    simp only [List.length_cons] at hf hg
    simp only [lexL]
    rw [lexL_fuel f g r (i + 1) acc (by omega) (by omega)]
    by_cases he : (lexT (c :: r)).e = 0
    · have hp := lex_pos he
      simp only [he, if_true]
      rw [lexL_fuel f g _ _ _ (by simp; omega) (by simp; omega)]
    · simp only [he, if_false]
def lexA (x : List UInt8) (i : Nat) (acc : List Tk) : Res := lexL (x.length + 1) x i acc
theorem lexA_nil (i : Nat) (acc : List Tk) : lexA [] i acc = .ok acc [] := rfl
theorem lexA_cons (c : UInt8) (r : List UInt8) (i : Nat) (acc : List Tk) : lexA (c :: r) i acc =
    if c.toNat = 32 then lexA r (i + 1) acc
    else if c.toNat = 35 then .ok acc r
    else if acc.length = 64 then .fault 7 (i + 1)
    else if (lexT (c :: r)).e = 0 then lexA ((c :: r).drop (lexT (c :: r)).l) (i + (lexT (c :: r)).l) (acc ++ [⟨(lexT (c :: r)).k, (lexT (c :: r)).t, (lexT (c :: r)).n, i + 1⟩])
    else .fault (lexT (c :: r)).e (i + 1) := by
  unfold lexA
  simp only [List.length_cons, lexL]
  by_cases he : (lexT (c :: r)).e = 0
  · have hp := lex_pos he
    simp only [he, if_true]
    rw [lexL_fuel (r.length + 1) _ ((c :: r).drop (lexT (c :: r)).l) _ _ (by simp; omega) (Nat.lt_succ_self _)]
  · simp only [he, if_false]
/-- The blanks at the beginning. -/
def blk (s : List UInt8) : Nat := (s.takeWhile fun b => decide (b.toNat = 32)).length
theorem blk_le (s : List UInt8) : blk s ≤ s.length := (List.takeWhile_prefix _).length_le
inductive Scn where
  | fault (e c : Int)
  | ok (ind : Int) (T : List Tk) (hd : Bool) (cm : List UInt8)
/-- Is the last token a colon? -/
def colon (T : List Tk) : Bool := match T.getLast? with
  | some p => decide (p.k = 4) && decide (p.t = [58])
  | none => false
def finS (ind : Int) (T : List Tk) (cm : List UInt8) : Scn :=
  if colon T then (if T.length = 1 then .fault 2 ((T.getD 0 ⟨0, [], 0, 0⟩).a) else .ok ind (T.take (T.length - 1)) true cm) else .ok ind T false cm
def scanS (s : List UInt8) : Scn :=
  if 1000 < s.length then .fault 7 1001
  else if blk s = s.length ∨ (s[blk s]?).map UInt8.toNat = some 35 then .ok 0 [] false (s.drop (blk s + 1))
  else if blk s % 2 = 1 then .fault 2 (blk s + 1)
  else if 12 < blk s then .fault 7 (blk s + 1)
  else match lexA (s.drop (blk s)) (blk s) [] with
    | .fault e c => .fault e c
    | .ok T cm => finS ((blk s / 2 : Nat) : Int) T cm
theorem q81 (c : UInt8) : callL T11 81 [.int .u8 c.toNat] [] = some (.bool (decide (c.toNat = 32)), []) := by
  apply callL_body (vf := c81) rfl rfl
  simp [c81]
  rw [Bool.eq_iff_iff]; simp; omega
end Go.Vm.Ch11
