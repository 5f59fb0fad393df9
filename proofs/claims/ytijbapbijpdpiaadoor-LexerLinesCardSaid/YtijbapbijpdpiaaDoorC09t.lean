/- Chapter 09: what its functions compute. -/
import Derived.Test.YtijbapbijpdpiaaDoorC09s
namespace Go.Vm.Ch09
set_option maxRecDepth 10000
set_option maxHeartbeats 8000000
/-! ### spellings with blanks between them, without a program -/
def spT (p : Tk) : List UInt8 := spl p.k p.t p.n
def vaT (p : Tk) : Bool := valP p.k p.t p.n
def sep (B : Nat) : List UInt8 := List.replicate B 32
def tailS (B : Nat) : List Tk → List UInt8
  | [] => []
  | p :: r => sep B ++ (spT p ++ tailS B r)
def jn (B : Nat) : List Tk → List UInt8
  | [] => []
  | p :: r => spT p ++ tailS B r
theorem tail_snoc (B : Nat) (p : Tk) : ∀ P : List Tk, tailS B (P ++ [p]) = tailS B P ++ (sep B ++ spT p)
  | [] => by simp [tailS]
  | q :: r => by
    simp only [List.cons_append, tailS]
    rw [tail_snoc B p r]
    simp
theorem jn_snoc (B : Nat) (p : Tk) {P : List Tk} (h : P ≠ []) : jn B (P ++ [p]) = (jn B P ++ sep B) ++ spT p := by
  cases P with
  | nil => exact absurd rfl h
  | cons q r =>
    simp only [List.cons_append, jn]
    rw [tail_snoc]
    simp
theorem lexA_blanks (y : List UInt8) (acc : List Tk) : ∀ (B i : Nat), lexA (List.replicate B 32 ++ y) i acc = lexA y (i + B) acc
  | 0, i => by simp
  | B + 1, i => by
    rw [List.replicate_succ, List.cons_append, lexA_cons, if_pos (by decide), lexA_blanks y acc B (i + 1)]
    congr 1; omega
/-- The same kinds, texts and numbers. -/
def same3 (P T : List Tk) : Prop := T.map (fun p => (p.k, p.t, p.n)) = P.map fun p => (p.k, p.t, p.n)
theorem after_tail {B : Nat} (hB : 1 ≤ B) (r : List Tk) : After (tailS B r) := by
  cases r with
  | nil => exact .inl rfl
  | cons p r =>
    right
    obtain ⟨B, rfl⟩ : ∃ b, B = b + 1 := ⟨B - 1, by omega⟩
    exact ⟨_, by simp only [tailS, sep, List.replicate_succ, List.cons_append]; rfl⟩
theorem sp_first {p : Tk} (hv : vaT p = true) {z : List UInt8} (hz : After z) : ∃ c x, spT p ++ z = c :: x ∧ c.toNat ≠ 32 ∧ c.toNat ≠ 35 := by
  have hb := lex_back hv hz
  cases hs : spT p ++ z with
  | nil =>
    have : spl p.k p.t p.n ++ z = [] := hs
    rw [this] at hb
    simp [lexT, lxE] at hb
  | cons c x =>
    have hb' : lexT (c :: x) = ⟨p.k, p.t, p.n, (spl p.k p.t p.n).length, 0⟩ := by rw [← hs]; exact hb
    refine ⟨c, x, rfl, fun h => ?_, fun h => ?_⟩
    · have hm : c = 32 := UInt8.toNat_inj.1 (by show c.toNat = 32; omega)
      subst hm
      simp [lexT, lxE, letterN, dg, sgB] at hb'
    · have hm : c = 35 := UInt8.toNat_inj.1 (by show c.toNat = 35; omega)
      subst hm
      simp [lexT, lxE, letterN, dg, sgB] at hb'
theorem lexA_sp {B : Nat} (hB : 1 ≤ B) : ∀ (r : List Tk) (p : Tk) (i : Nat) (acc : List Tk), vaT p = true → (∀ q ∈ r, vaT q = true) → acc.length + r.length < 64 →
    ∃ T, lexA (spT p ++ tailS B r) i acc = .ok (acc ++ T) [] ∧ same3 (p :: r) T ∧ (T.getD 0 ⟨0, [], 0, 0⟩).a = ((i + 1 : Nat) : Int)
  | [], p, i, acc, hv, _, hl => by
    have hz : After (tailS B ([] : List Tk)) := .inl rfl
    have hb := lex_back hv hz
    obtain ⟨c, x, hs, n32, n35⟩ := sp_first hv hz
    have hb' : lexT (c :: x) = ⟨p.k, p.t, p.n, (spl p.k p.t p.n).length, 0⟩ := by rw [← hs]; exact hb
    rw [hs, lexA_cons, if_neg n32, if_neg n35, if_neg (by simp at hl; omega), hb', if_pos rfl, ← hs]
    have hd : (spT p ++ tailS B []).drop (spl p.k p.t p.n).length = [] := by
      show (spl p.k p.t p.n ++ []).drop _ = []
      rw [List.append_nil, List.drop_length]
    rw [hd, lexA_nil]
    exact ⟨[⟨p.k, p.t, p.n, i + 1⟩], rfl, rfl, rfl⟩
  | q :: r, p, i, acc, hv, hr, hl => by
    have hz := after_tail hB (q :: r)
    have hb := lex_back hv hz
    obtain ⟨c, x, hs, n32, n35⟩ := sp_first hv hz
    have hb' : lexT (c :: x) = ⟨p.k, p.t, p.n, (spl p.k p.t p.n).length, 0⟩ := by rw [← hs]; exact hb
    rw [hs, lexA_cons, if_neg n32, if_neg n35, if_neg (by simp at hl; omega), hb', if_pos rfl, ← hs]
    have hd : (spT p ++ tailS B (q :: r)).drop (spl p.k p.t p.n).length = tailS B (q :: r) := by
      show (spl p.k p.t p.n ++ tailS B (q :: r)).drop _ = _
      rw [List.drop_left]
    rw [hd]
    simp only [tailS, sep]
    rw [lexA_blanks]
    obtain ⟨T, h1, h2, _⟩ := lexA_sp hB r q (i + (spl p.k p.t p.n).length + B) (acc ++ [⟨p.k, p.t, p.n, i + 1⟩]) (hr q (by simp)) (fun y hy => hr y (by simp [hy])) (by simp at hl ⊢; omega)
    refine ⟨⟨p.k, p.t, p.n, i + 1⟩ :: T, ?_, ?_, rfl⟩
    · rw [h1]; simp
    · unfold same3 at h2 ⊢
      rw [List.map_cons, h2]; rfl
/-- What the spellings of valid tokens are scanned as. -/
theorem scan_jn {B : Nat} (hB : 1 ≤ B) {P : List Tk} (hP : P ≠ []) (hv : ∀ p ∈ P, vaT p = true) (hl : P.length ≤ 64) (hs : (jn B P).length ≤ 1000) :
    ∃ T, scanS (jn B P) = finS 0 T [] ∧ same3 P T ∧ (T.getD 0 ⟨0, [], 0, 0⟩).a = 1 := by
  cases P with
  | nil => exact absurd rfl hP
  | cons p r =>
    obtain ⟨T, h1, h2, h3⟩ := lexA_sp hB r p 0 [] (hv p (by simp)) (fun q hq => hv q (by simp [hq])) (by simp at hl ⊢; omega)
    obtain ⟨c, x, hc, n32, n35⟩ := sp_first (hv p (by simp)) (after_tail hB r)
    refine ⟨T, ?_, h2, h3⟩
    have hj : jn B (p :: r) = c :: x := hc
    have hb : blk (c :: x) = 0 := by unfold blk; rw [List.takeWhile_cons]; simp [n32]
    rw [hj] at hs ⊢
    rw [hc] at h1
    unfold scanS
    rw [hb, if_neg (by omega), if_neg (by simp [n35]), if_neg (by decide), if_neg (by decide), List.drop_zero, h1]
    simp
end Go.Vm.Ch09
