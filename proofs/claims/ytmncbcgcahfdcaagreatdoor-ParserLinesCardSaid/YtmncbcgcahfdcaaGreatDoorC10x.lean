/- Chapter 10: what its functions compute. -/
import Derived.Test.YtmncbcgcahfdcaaGreatDoorC10w
import Derived.Test.YtmncbcgcahfdcaaGreatDoorC10y
namespace Go.Vm.Ch10
/-! ### what Parse answers -/
inductive Par where
  | fault (e l c : Int)
  | ok (acc : List (Nat × L0))
def mostF (acc : List (Nat × L0)) : Nat := match acc.getLast? with
  | some (d, l) => if l.head then d + 1 else d
  | none => 0
def parF : List (List UInt8) → Nat → List (Nat × L0) → Par
  | [], _, acc => .ok acc
  | row :: rows, i, acc => match scanS row with
    | .fault e c => .fault e (i + 1 : Nat) c
    | .ok ind T hd _ => match T with
      | [] => parF rows (i + 1) acc
      | x :: _ => if (mostF acc : Int) < ind then .fault 2 (i + 1 : Nat) x.a else parF rows (i + 1) (acc ++ [(ind.toNat, ⟨T, hd, (i + 1 : Nat)⟩)])
/-! ### facts about a scan -/
theorem lexL_e : ∀ (f : Nat) (x : List UInt8) (i : Nat) (acc : List Tk) (e c : Int), lexL f x i acc = .fault e c → x.length < f → e ≠ 0
  | 0, _, _, _, _, _, _, hf => absurd hf (Nat.not_lt_zero _)
  | f + 1, [], _, acc, e, cc, h, _ => by simp [lexL] at h
  | f + 1, c :: r, i, acc, e, cc, h, hf => by
    simp only [List.length_cons] at hf
    simp only [lexL] at h
    split at h
    · exact lexL_e f _ _ _ _ _ h (by omega)
    · split at h
      · simp at h
      · split at h
        · simp only [Res.fault.injEq] at h
          omega
        · split at h
          · rename_i h0
            have := lex_pos h0
            exact lexL_e f _ _ _ _ _ h (by simp; omega)
          · rename_i h0
            simp only [Res.fault.injEq] at h
            rw [← h.1]; exact h0
theorem scan_e {b : List UInt8} {e c : Int} (h : scanS b = .fault e c) : e ≠ 0 := by
  unfold scanS at h
  split at h
  · simp only [Scn.fault.injEq] at h; omega
  · split at h
    · simp at h
    · split at h
      · simp only [Scn.fault.injEq] at h; omega
      · split at h
        · simp only [Scn.fault.injEq] at h; omega
        · split at h
          · rename_i hT
            simp only [Scn.fault.injEq] at h
            rw [← h.1]
            exact lexL_e _ _ _ _ _ _ hT (Nat.lt_succ_self _)
          · unfold finS at h
            split at h
            · split at h
              · simp only [Scn.fault.injEq] at h; omega
              · simp at h
            · simp at h
theorem scan_ind {b : List UInt8} {ind : Int} {T : List Tk} {hd : Bool} {cm : List UInt8} (h : scanS b = .ok ind T hd cm) : ∃ n : Nat, ind = n ∧ n ≤ 6 := by
  unfold scanS at h
  split at h
  · cases h
  · split at h
    · simp only [Scn.ok.injEq] at h; exact ⟨0, by omega, by omega⟩
    · split at h
      · cases h
      · split at h
        · cases h
        · rename_i h12
          have hh : ∀ n : Nat, n = blk b / 2 → n ≤ 6 := by omega
          split at h
          · cases h
          · unfold finS at h
            split at h
            · split at h
              · cases h
              · simp only [Scn.ok.injEq] at h
                exact ⟨_, h.1.symm, hh _ rfl⟩
            · simp only [Scn.ok.injEq] at h
              exact ⟨_, h.1.symm, hh _ rfl⟩
theorem linesL_len (s : List UInt8) : (linesL s).length ≤ s.length + 1 := by
  have h1 := sp10_len s
  have h2 : s.count 10 ≤ s.length := List.count_le_length
  unfold linesL
  split <;> simp <;> omega
theorem joinN_mem : ∀ {P : List (List UInt8)} {x : List UInt8}, x ∈ P → x.length ≤ (joinN P).length
  | p :: P, x, h => by
    have e : joinN (p :: P) = (p ++ [10]) ++ joinN P := by simp [joinN]
    rw [e, List.length_append, List.length_append]
    rcases List.mem_cons.1 h with rfl | h
    · omega
    · have := joinN_mem h
      omega
theorem linesL_row {s x : List UInt8} (h : x ∈ linesL s) : x.length ≤ s.length + 1 := by
  have h1 := joinN_mem h
  rcases lines_join s with e | e <;> rw [e] at h1
  · omega
  · simpa using h1
/-- The answer of the reference. -/
def parR (s : List UInt8) : Par := if 65536 < s.length then .fault 7 1 1 else parF (linesL s) 0 []
def parV : Par → AV
  | .fault e l c => .tup [.vec none false [], .agg [AV.int IntKind.i64 e, AV.int IntKind.i64 l, AV.int IntKind.i64 c]]
  | .ok acc => .tup [lnsV (treeF (acc.length + 1) 0 acc), .agg [AV.int IntKind.i64 0, AV.int IntKind.i64 0, AV.int IntKind.i64 0]]
end Go.Vm.Ch10
