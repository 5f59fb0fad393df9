/- Chapter 12: what its functions compute. -/
import Derived.Test.YtmncbcgcahfdcaaDoorC12v
import Derived.Test.YtmncbcgcahfdcaaDoorC12u
import Derived.Test.YtmncbcgcahfdcaaDoorC12y
namespace Go.Vm.Ch12
open _root_.Ch12 (T12 c4)
set_option maxRecDepth 10000
set_option maxHeartbeats 16000000
def isTrueM : Option (AV × Mem) → Bool
  | some (.bool true, _) => true
  | _ => false
theorem isTrueM_inv {r : Option (AV × Mem)} (h : isTrueM r = true) : ∃ m, r = some (.bool true, m) := by
  unfold isTrueM at h
  split at h
  · exact ⟨_, rfl⟩
  · simp at h
/-! ### the reference's tree -/
mutual
def lnV : Ln → AV
  | .mk T h K a => .agg [ovn tv T, .bool h, lnsV K, AV.int IntKind.i64 a]
def lnsV : List Ln → AV
  | [] => .vec none false []
  | x :: r => .vec none true (lnV x :: lnsL r)
def lnsL : List Ln → List AV
  | [] => []
  | x :: r => lnV x :: lnsL r
end
theorem lnsL_eq : ∀ K, lnsL K = K.map lnV
  | [] => rfl
  | x :: r => by simp [lnsL, lnsL_eq r]
theorem lnsV_eq (K : List Ln) : lnsV K = ovn lnV K := by
  cases K with
  | nil => rfl
  | cons x r => simp [lnsV, lnsL_eq, ovn, vv]
abbrev l0V (p : Nat × L0) : AV := .agg [ovn tv p.2.toks, .bool p.2.head, .vec none false [], AV.int IntKind.i64 p.2.at_]
abbrev l0d (p : Nat × L0) : AV := AV.int IntKind.i64 (p.1 : Nat)
instance : Inhabited (Nat × L0) := ⟨(0, ⟨[], false, 0⟩)⟩
theorem tw_at {α : Type} {p : α → Bool} : ∀ (l : List α) (k : Nat) (hk : k < l.length), k ≤ (l.takeWhile p).length → (p l[k] = true → k + 1 ≤ (l.takeWhile p).length) ∧ (p l[k] = false → k = (l.takeWhile p).length)
  | [], k, hk, _ => by simp at hk
  | x :: l, k, hk, h => by
    by_cases hx : p x = true
    · rw [List.takeWhile_cons, if_pos hx] at h ⊢
      cases k with
      | zero => exact ⟨fun _ => by simp, fun hf => by simp [hx] at hf⟩
      | succ k =>
        simp only [List.length_cons] at h hk ⊢
        have ih := tw_at (p := p) l k (by omega) (by omega)
        simp only [List.getElem_cons_succ]
        exact ⟨fun h' => by have := ih.1 h'; omega, fun h' => by have := ih.2 h'; omega⟩
    · rw [List.takeWhile_cons, if_neg hx] at h ⊢
      have : k = 0 := by simpa using h
      subst this
      exact ⟨fun h' => absurd h' hx, fun _ => rfl⟩
end Go.Vm.Ch12
namespace Go.Vm.Ch12
/-! ### what Parse answers -/
inductive Par where
  | fault (e l c : Int)
  | ok (acc : List (Nat × L0))
def mostF (acc : List (Nat × L0)) : Nat := match acc.getLast? with
  | some (d, l) => if l.head then d + 1 else d
  | none => 0
def parF : List (List UInt8) → Nat → List (Nat × L0) → Par
  | [], _, acc => .ok acc
  | row :: rows, i, acc => match scanS row with
    | .fault e c => .fault e (i + 1 : Nat) c
    | .ok ind T hd _ => match T with
      | [] => parF rows (i + 1) acc
      | x :: _ => if (mostF acc : Int) < ind then .fault 2 (i + 1 : Nat) x.a else parF rows (i + 1) (acc ++ [(ind.toNat, ⟨T, hd, (i + 1 : Nat)⟩)])
/-! ### facts about a scan -/
theorem lexL_e : ∀ (f : Nat) (x : List UInt8) (i : Nat) (acc : List Tk) (e c : Int), lexL f x i acc = .fault e c → x.length < f → e ≠ 0
  | 0, _, _, _, _, _, _, hf => absurd hf (Nat.not_lt_zero _)
  | f + 1, [], _, acc, e, cc, h, _ => by simp [lexL] at h
  | f + 1, c :: r, i, acc, e, cc, h, hf => by
    simp only [List.length_cons] at hf
    simp only [lexL] at h
    split at h
    · exact lexL_e f _ _ _ _ _ h (by omega)
    · split at h
      · simp at h
      · split at h
        · simp only [Res.fault.injEq] at h
          omega
        · split at h
          · rename_i h0
            have := lex_pos h0
            exact lexL_e f _ _ _ _ _ h (by simp; omega)
          · rename_i h0
            simp only [Res.fault.injEq] at h
            rw [← h.1]; exact h0
theorem scan_e {b : List UInt8} {e c : Int} (h : scanS b = .fault e c) : e ≠ 0 := by
  unfold scanS at h
  split at h
  · simp only [Scn.fault.injEq] at h; omega
  · split at h
    · simp at h
    · split at h
      · simp only [Scn.fault.injEq] at h; omega
      · split at h
        · simp only [Scn.fault.injEq] at h; omega
        · split at h
          · rename_i hT
            simp only [Scn.fault.injEq] at h
            rw [← h.1]
            exact lexL_e _ _ _ _ _ _ hT (Nat.lt_succ_self _)
          · unfold finS at h
            split at h
            · split at h
              · simp only [Scn.fault.injEq] at h; omega
              · simp at h
            · simp at h
theorem scan_ind {b : List UInt8} {ind : Int} {T : List Tk} {hd : Bool} {cm : List UInt8} (h : scanS b = .ok ind T hd cm) : ∃ n : Nat, ind = n ∧ n ≤ 6 := by
  unfold scanS at h
  split at h
  · cases h
  · split at h
    · simp only [Scn.ok.injEq] at h; exact ⟨0, by omega, by omega⟩
    · split at h
      · cases h
      · split at h
        · cases h
        · rename_i h12
          have hh : ∀ n : Nat, n = blk b / 2 → n ≤ 6 := by omega
          split at h
          · cases h
          · unfold finS at h
            split at h
            · split at h
              · cases h
              · simp only [Scn.ok.injEq] at h
                exact ⟨_, h.1.symm, hh _ rfl⟩
            · simp only [Scn.ok.injEq] at h
              exact ⟨_, h.1.symm, hh _ rfl⟩
theorem linesL_len (s : List UInt8) : (linesL s).length ≤ s.length + 1 := by
  have h1 := sp10_len s
  have h2 : s.count 10 ≤ s.length := List.count_le_length
  unfold linesL
  split <;> simp <;> omega
theorem joinN_mem : ∀ {P : List (List UInt8)} {x : List UInt8}, x ∈ P → x.length ≤ (joinN P).length
  | p :: P, x, h => by
    have e : joinN (p :: P) = (p ++ [10]) ++ joinN P := by simp [joinN]
    rw [e, List.length_append, List.length_append]
    rcases List.mem_cons.1 h with rfl | h
    · omega
    · have := joinN_mem h
      omega
theorem linesL_row {s x : List UInt8} (h : x ∈ linesL s) : x.length ≤ s.length + 1 := by
  have h1 := joinN_mem h
  rcases lines_join s with e | e <;> rw [e] at h1
  · omega
  · simpa using h1
/-- The answer of the reference. -/
def parR (s : List UInt8) : Par := if 65536 < s.length then .fault 7 1 1 else parF (linesL s) 0 []
def parV : Par → AV
  | .fault e l c => .tup [.vec none false [], .agg [AV.int IntKind.i64 e, AV.int IntKind.i64 l, AV.int IntKind.i64 c]]
  | .ok acc => .tup [lnsV (treeF (acc.length + 1) 0 acc), .agg [AV.int IntKind.i64 0, AV.int IntKind.i64 0, AV.int IntKind.i64 0]]
end Go.Vm.Ch12
