/- Chapter 10: what its functions compute. -/
import Derived.Test.YtmncbcgcahfdcaaGreatDoorC10q
namespace Go.Vm.Ch10
open _root_.Ch10 (T10 c85 c86 c66 c39 c20 c32)
set_option maxRecDepth 10000
set_option maxHeartbeats 16000000
/-! ### lines, without a program -/
def sp10 : List UInt8 → List (List UInt8)
  | [] => [[]]
  | b :: r => if b = 10 then [] :: sp10 r else match sp10 r with
    | [] => [[b]]
    | h :: t => (b :: h) :: t
theorem sp10_ne (s : List UInt8) : sp10 s ≠ [] := by
  cases s with
  | nil => simp [sp10]
  | cons b r =>
    simp only [sp10]
    split
    · simp
    · split <;> simp
theorem sp10_eq : ∀ s : List UInt8, sp10 s = upto 10 s :: (if (upto 10 s).length < s.length then sp10 (s.drop ((upto 10 s).length + 1)) else [])
  | [] => by simp [sp10, upto]
  | b :: r => by
    have ih := sp10_eq r
    by_cases hb : b = 10
    · subst hb
      simp [sp10, upto]
    · have hb' : (!(b == 10)) = true := by simp [hb]
      have e : upto 10 (b :: r) = b :: upto 10 r := by unfold upto; rw [List.takeWhile_cons, if_pos hb']
      simp only [sp10]
      rw [if_neg hb, ih, e]
      simp
theorem sp10_len : ∀ s : List UInt8, (sp10 s).length = s.count 10 + 1
  | [] => rfl
  | b :: r => by
    have ih := sp10_len r
    have hne := sp10_ne r
    simp only [sp10]
    by_cases hb : b = 10
    · rw [if_pos hb, hb, List.count_cons_self, List.length_cons, ih]
    · rw [if_neg hb, List.count_cons_of_ne hb]
      cases hq : sp10 r with
      | nil => exact absurd hq hne
      | cons h t => rw [hq] at ih; simpa using ih
/-- Found or not. -/
theorem cnt_upto (s : List UInt8) : (0 < s.count 10 ↔ (upto 10 s).length < s.length) := by
  have h1 := sp10_len s
  rw [sp10_eq] at h1
  split at h1
  · rename_i h
    have h2 := sp10_len (s.drop ((upto 10 s).length + 1))
    rw [List.length_cons, h2] at h1
    exact ⟨fun _ => h, fun _ => by omega⟩
  · rename_i h
    simp at h1
    exact ⟨fun h' => by omega, fun h' => absurd h' h⟩
theorem cnt_next {s : List UInt8} (h : (upto 10 s).length < s.length) : (s.drop ((upto 10 s).length + 1)).count 10 + 1 = s.count 10 := by
  have h1 := sp10_len s
  rw [sp10_eq, if_pos h, List.length_cons, sp10_len] at h1
  omega
def joinN (P : List (List UInt8)) : List UInt8 := P.flatMap fun l => l ++ [10]
theorem sp10_join : ∀ s : List UInt8, ∃ P l, sp10 s = P ++ [l] ∧ joinN P ++ l = s
  | [] => ⟨[], [], rfl, rfl⟩
  | b :: r => by
    obtain ⟨P, l, h1, h2⟩ := sp10_join r
    simp only [sp10]
    by_cases hb : b = 10
    · rw [if_pos hb, h1]
      exact ⟨[] :: P, l, rfl, by rw [hb, ← h2]; simp [joinN]⟩
    · rw [if_neg hb, h1]
      cases P with
      | nil => exact ⟨[], b :: l, rfl, by rw [← h2]; simp [joinN]⟩
      | cons p P => exact ⟨(b :: p) :: P, l, rfl, by rw [← h2]; simp [joinN]⟩
/-- The lines of a source. -/
def linesL (s : List UInt8) : List (List UInt8) := if (sp10 s).getLast? = some [] then (sp10 s).dropLast else sp10 s
theorem lines_join (s : List UInt8) : joinN (linesL s) = s ∨ joinN (linesL s) = s ++ [10] := by
  obtain ⟨P, l, h1, h2⟩ := sp10_join s
  unfold linesL
  rw [h1]
  by_cases hl : l = []
  · left
    subst hl
    rw [if_pos (by simp), List.dropLast_concat]
    simpa using h2
  · right
    rw [if_neg (by simp [hl])]
    rw [← h2]
    simp [joinN]
/-! ### the walk -/
@[simp] theorem extn_count {l : List UInt8} {c : Int} : extnV 1 [.str l, .int .u8 c] = some (AV.int IntKind.i64 (l.count c.toNat.toUInt8 : Nat)) := rfl
section
variable {β : Type}
@[simp] theorem ap_get0 {m l : List β} {a : β} : (m ++ a :: l)[m.length]? = some a := by simp
@[simp] theorem ap_set0 {m l : List β} {a v : β} : (m ++ a :: l).set m.length v = m ++ v :: l := by rw [List.set_append_right _ _ (Nat.le_refl _)]; simp
end
theorem q85 (s : List UInt8) (m : Mem) : callL T10 85 [.str s, .str [10]] m = some (AV.int IntKind.i64 (s.count 10 : Nat), m) := by
  apply callL_body (vf := c85) rfl rfl
  simp [c85]
theorem q86 (s : List UInt8) (c : UInt8) (m : Mem) : callL T10 86 [.str s, .str [c]] m = some (AV.int IntKind.i64 (idxI c s), m) := by
  have h := q87 s c []
  apply callL_body (vf := c86) rfl rfl
  simp [c86, h]
theorem upto_all {r : List UInt8} (h : ¬ (upto 10 r).length < r.length) : upto 10 r = r := by
  have e := upto_take 10 r
  rw [List.take_of_length_le (by omega)] at e
  exact e.symm
theorem flat_rep (n : Nat) : flat (List.replicate n (AV.str [])) = List.replicate n (.str []) := by
  induction n with
  | zero => rfl
  | succ n ih => rw [List.replicate_succ]; exact congrArg (AV.str [] :: ·) ih
theorem addMem_with (s : St) (o : LObj) : addMem s o = s.withMem (s.mem ++ [some o]) := rfl
abbrev lnO (P : List (List UInt8)) (k : Nat) : Option LObj := some (.cells false (P.map AV.str ++ List.replicate k (.str [])))
theorem cnt_le (s : List UInt8) : s.count 10 ≤ s.length := List.count_le_length
theorem q66 (s : List UInt8) (hl : s.length ≤ 1000000) (m : Mem) : callL T10 66 [.str s, .str [10], AV.int IntKind.i64 0, AV.int IntKind.i64 (-1)] m = some (.row (.mem m.length) 0 (sp10 s).length, m ++ [lnO (sp10 s) 0]) := by
  have h57 := q85 s []
  have hcl := cnt_le s
  have hsl := sp10_len s
  have w1 : W64 ((s.count 10 : Int) + 1) ((s.count 10 + 1 : Nat) : Int) := .mkI rfl (by omega) (by omega)
  have w2 : W64 ((s.length : Int) + 1) ((s.length + 1 : Nat) : Int) := .mkI rfl (by omega) (by omega)
  have hmin : ¬ ((s.length + 1 : Nat) : Int) < ((s.count 10 + 1 : Nat) : Int) := by omega
  have w3 : W64 (((s.count 10 + 1 : Nat) : Int) - 1) (s.count 10 : Int) := .mkI (by omega) (by omega) (by omega)
  apply callL_body (vf := c66) rfl rfl
  simp [c66, h57, w1.eq, w2.eq, w3.eq, hmin, -Int.natCast_add]
  refine ⟨by omega, wp_loop (fun n t => ∃ P r, n = r.count 10 ∧ t.get 0 = .str r ∧ t.get 1 = .str [10] ∧ t.get 2 = AV.int IntKind.i64 0 ∧ t.get 3 = AV.int IntKind.i64 (s.count 10 : Nat) ∧ t.get 9 = .row (.mem m.length) 0 (s.count 10 + 1) ∧ t.get 10 = AV.int IntKind.i64 (P.length : Nat) ∧ t.mem = m ++ [lnO P (r.count 10 + 1)] ∧ P.length + r.count 10 = s.count 10 ∧ r.length ≤ s.length ∧ P ++ sp10 r = sp10 s) ?_ (s.count 10) _ ?_⟩
  rotate_left
  · exact ⟨[], s, by simp [addMem_with, flat_rep]⟩
  rintro n t ⟨P, r, hn, e0, e1, e2, e3, e9, e10, hm, hP, hr, hE⟩
  by_cases h0 : 0 < r.count 10
  · have hlt := (cnt_upto r).mp h0
    have hnx := cnt_next hlt
    have h58 := q86 r 10 []
    rw [idxI, if_pos hlt] at h58
    have hpi : (P.length : Int) < (s.count 10 : Nat) := by omega
    have wi : W64 ((P.length : Int) + 1) ((P.length + 1 : Nat) : Int) := .mkI rfl (by omega) (by omega)
    have wj : W64 (((upto 10 r).length : Int) + 1) (((upto 10 r).length + 1 : Nat) : Int) := .mkI rfl (by omega) (by omega)
    have wk : W64 (((upto 10 r).length : Int)) (((upto 10 r).length : Nat) : Int) := .mkI rfl (by omega) (by omega)
    have hnn : ¬ (((upto 10 r).length : Nat) : Int) < 0 := by omega
    have htk : r.take (upto 10 r).length = upto 10 r := List.prefix_iff_eq_take.mp (List.takeWhile_prefix _) |>.symm
    simp [e0, e1, e2, e3, e9, e10, hm, h58, hpi, wi.eq, wj.eq, wk.eq, hnn, htk, -Int.natCast_add]
    refine ⟨by omega, by omega, by omega, (r.drop ((upto 10 r).length + 1)).count 10, by omega, P ++ [upto 10 r], _, rfl, rfl, by simp, ?_, by simp; omega, by simp; omega, ?_⟩
    · rw [hnx, ← hnx, List.replicate_succ]; simp
    · rw [← hE, sp10_eq r, if_pos hlt, List.append_assoc]; rfl
  · have hpi : ¬ (P.length : Int) < (s.count 10 : Nat) := by omega
    have wi : W64 ((P.length : Int) + 1) ((P.length + 1 : Nat) : Int) := .mkI rfl (by omega) (by omega)
    have hz : r.count 10 = 0 := by omega
    have hlt : ¬ (upto 10 r).length < r.length := fun h => h0 ((cnt_upto r).mpr h)
    have hup := upto_all hlt
    have hq : sp10 r = [r] := by rw [sp10_eq, if_neg hlt, hup]
    rw [hq] at hE
    simp [e0, e1, e3, e9, e10, hm, hpi, wi.eq, -Int.natCast_add]
    refine ⟨by omega, by omega, ?_⟩
    rw [← hE, hz]; simp
theorem q39 (s : List UInt8) (hl : s.length ≤ 1000000) (m : Mem) : callL T10 39 [.str s, .str [10]] m = some (.row (.mem m.length) 0 (sp10 s).length, m ++ [lnO (sp10 s) 0]) := by
  have h := q66 s hl m
  apply callL_body (vf := c39) rfl rfl
  simp [c39, h]
/-- lexer.Lines. -/
theorem q20a (s : List UInt8) (h1 : 65536 < s.length) (m : Mem) : callL T10 20 [.str s] m = some (.tup [.vec none false [], AV.int IntKind.i64 7], m) := by
  apply callL_body (vf := c20) rfl rfl
  have h1i : (65536 : Int) < s.length := by omega
  simp [c20, h1i]
theorem q20 (s : List UInt8) (h1 : ¬ 65536 < s.length) (m : Mem) : callL T10 20 [.str s] m = some (.tup [.row (.mem m.length) 0 (linesL s).length, AV.int IntKind.i64 0], m ++ [lnO (sp10 s) 0]) := by
  apply callL_body (vf := c20) rfl rfl
  have h1i : ¬ (65536 : Int) < s.length := by omega
  have h37 := q39 s (by omega) m
  obtain ⟨P, l, h2, h3⟩ := sp10_join s
  have hlen : (sp10 s).length = P.length + 1 := by rw [h2]; simp
  have hcl := cnt_le s
  have hsl := sp10_len s
  have w1 : W64 (((P.length + 1 : Nat) : Int) - 1) (P.length : Int) := .mkI (by omega) (by omega) (by omega)
  by_cases hlz : l = []
  · simp [c20, h1i, h37, h2, w1.eq, linesL, hlz, -Int.natCast_add]
  · simp [c20, h1i, h37, h2, w1.eq, linesL, hlz, -Int.natCast_add]
theorem linesL_nil : linesL [] = [] := by simp [linesL, sp10]
theorem linesL_cut {r : List UInt8} (h : (upto 10 r).length < r.length) : linesL r = upto 10 r :: linesL (r.drop ((upto 10 r).length + 1)) := by
  have hne := sp10_ne (r.drop ((upto 10 r).length + 1))
  have e := sp10_eq r
  rw [if_pos h] at e
  unfold linesL
  rw [e]
  generalize sp10 (r.drop ((upto 10 r).length + 1)) = X at hne ⊢
  cases X with
  | nil => exact absurd rfl hne
  | cons x X =>
    rw [List.getLast?_cons_cons, List.dropLast_cons_cons]
    split <;> rfl
theorem linesL_end {r : List UInt8} (h : ¬ (upto 10 r).length < r.length) (h0 : r ≠ []) : linesL r = [r] := by
  have e := sp10_eq r
  rw [if_neg h] at e
  have hup := upto_all h
  unfold linesL
  rw [e, hup, if_neg (by simp [h0])]
theorem upto_ix : ∀ (r : List UInt8) (k : Nat) (hk : k < r.length), k ≤ (upto 10 r).length → (r[k].toNat = 10 → k = (upto 10 r).length) ∧ (r[k].toNat ≠ 10 → k + 1 ≤ (upto 10 r).length)
  | [], k, hk, _ => by simp at hk
  | b :: r, k, hk, hu => by
    by_cases hb : b = 10
    · have e : upto 10 (b :: r) = [] := by simp [upto, hb]
      rw [e] at hu ⊢
      have : k = 0 := by simpa using hu
      subst this
      subst hb
      exact ⟨fun _ => rfl, fun h => absurd rfl h⟩
    · have hb' : (!(b == 10)) = true := by simp [hb]
      have e : upto 10 (b :: r) = b :: upto 10 r := by unfold upto; rw [List.takeWhile_cons, if_pos hb']
      rw [e] at hu ⊢
      cases k with
      | zero => exact ⟨fun h => absurd (UInt8.toNat_inj.mp h) hb, fun _ => by simp⟩
      | succ k =>
        simp only [List.length_cons] at hk hu ⊢
        have h := upto_ix r k (by omega) (by omega)
        simp only [List.getElem_cons_succ]
        exact ⟨fun h' => by have := h.1 h'; omega, fun h' => by have := h.2 h'; omega⟩
theorem upto_at {s : List UInt8} {j i : Nat} (hji : j ≤ i) (hi : i < s.length) (hu : i ≤ j + (upto 10 (s.drop j)).length) : (s[i].toNat = 10 → i = j + (upto 10 (s.drop j)).length) ∧ (s[i].toNat ≠ 10 → i + 1 ≤ j + (upto 10 (s.drop j)).length) := by
  obtain ⟨k, rfl⟩ : ∃ k, i = j + k := ⟨i - j, by omega⟩
  have hk : k < (s.drop j).length := by rw [List.length_drop]; omega
  have h := upto_ix (s.drop j) k hk (by omega)
  have e : s[j + k] = (s.drop j)[k] := by simp
  rw [e]
  exact ⟨fun h' => by have := h.1 h'; omega, fun h' => by have := h.2 h'; omega⟩
abbrev stE : List UInt8 → AV := AV.str
/-- A vector made by appending to an empty one that is not nil. -/
def lv (P : List (List UInt8)) : AV := .vec (some 1) true (P.map stE)
theorem lv_snoc {P : List (List UInt8)} {x : List UInt8} : AV.vec (some 1) true (P.map stE ++ [.str x]) = lv (P ++ [x]) := by simp [lv]
/-- ref.Lines. -/
theorem q32 (s : List UInt8) (h1 : ¬ 65536 < s.length) (m : Mem) : callL T10 32 [.str s] m = some (.tup [vv none true stE (linesL s), AV.int IntKind.i64 0], m) := by
  apply callL_body (vf := c32) rfl rfl
  have h1i : ¬ (65536 : Int) < s.length := by omega
  simp [c32, h1i]
  refine wp_loop (fun n t => ∃ i j P, n = s.length - i ∧ j ≤ i ∧ i ≤ s.length ∧ t.get 0 = .str s ∧ t.get 4 = lv P ∧ t.get 5 = AV.int IntKind.i64 (j : Nat) ∧ t.get 6 = AV.int IntKind.i64 (i : Nat) ∧ t.mem = m ∧ i ≤ j + (upto 10 (s.drop j)).length ∧ P ++ linesL (s.drop j) = linesL s ∧ P.length ≤ j) ?_ s.length _ ?_
  rotate_left
  · refine ⟨0, 0, [], rfl, Nat.le_refl _, Nat.zero_le _, ?_⟩
    simp [lv]
  rintro n t ⟨i, j, P, hn, hj, hi, e0, e4, e5, e6, hm, hu, hE, hPj⟩
  by_cases hlt : i < s.length
  · have hli : (i : Int) < s.length := by omega
    have hat := upto_at hj hlt hu
    have wi : W64 ((i : Int) + 1) ((i + 1 : Nat) : Int) := .mkI rfl (by omega) (by omega)
    by_cases hb : s[i].toNat = 10
    · have hbi : (s[i].toNat : Int) = 10 := by omega
      have hij := hat.1 hb
      have hll : (upto 10 (s.drop j)).length < (s.drop j).length := by rw [List.length_drop]; omega
      have hpc : (s.take i).drop j = upto 10 (s.drop j) := by rw [List.drop_take, ← upto_take 10 (s.drop j)]; congr 1; omega
      have hdd : s.drop (i + 1) = (s.drop j).drop ((upto 10 (s.drop j)).length + 1) := by rw [List.drop_drop]; congr 1; omega
      rw [linesL_cut hll, ← hdd, ← hpc] at hE
      simp [e0, e4, lv, e5, e6, hm, hlt, hli, hbi, wi.eq, -Int.natCast_add]
      exact ⟨by omega, by omega, s.length - (i + 1), by omega, i + 1, rfl, i + 1, by omega, by omega, P ++ [(s.take i).drop j], by simp, rfl, rfl, by omega, by rw [List.append_assoc]; exact hE, by simp; omega⟩
    · have hbi : ¬ (s[i].toNat : Int) = 10 := by omega
      have hij := hat.2 hb
      simp [e0, e4, e5, e6, hm, hlt, hli, hbi, wi.eq, -Int.natCast_add]
      exact ⟨s.length - (i + 1), by omega, i + 1, rfl, j, by omega, by omega, P, rfl, rfl, rfl, by omega, hE, hPj⟩
  · have hli : ¬ (i : Int) < s.length := by omega
    by_cases hjl : j < s.length
    · have hji : (j : Int) < s.length := by omega
      have hll : ¬ (upto 10 (s.drop j)).length < (s.drop j).length := by rw [List.length_drop]; omega
      rw [linesL_end hll (by intro h; have := congrArg List.length h; rw [List.length_drop] at this; simp at this; omega)] at hE
      rw [← hE]
      simp [e0, e4, lv, e5, e6, hm, hli, hji]
      exact ⟨by omega, by omega, by simp [vv, stE]⟩
    · have hji : ¬ (j : Int) < s.length := by omega
      rw [List.drop_eq_nil_of_le (by omega), linesL_nil, List.append_nil] at hE
      simp [e0, e4, lv, e5, e6, hm, hli, hji, hE, vv]
end Go.Vm.Ch10
