/- Chapter 12: what its functions compute. -/
import Derived.Test.YtmncbcgcahfdcaaDoorC12zr
import Derived.Test.YtmncbcgcahfdcaaDoorC12zj
namespace Go.Vm.Ch12
set_option maxRecDepth 10000
set_option maxHeartbeats 8000000
/-! ### a comment behind a line without quotes: faults too -/
theorem tw_ext {p : UInt8 → Bool} {z : List UInt8} (hz : ∀ c, z.head? = some c → p c = false) : ∀ l : List UInt8, (l ++ z).takeWhile p = l.takeWhile p
  | [] => by
    cases z with
    | nil => rfl
    | cons c r => rw [List.nil_append, List.takeWhile_cons, hz c rfl]; rfl
  | x :: r => by
    rw [List.cons_append, List.takeWhile_cons, List.takeWhile_cons, tw_ext hz r]
theorem num_all {c : UInt8} {r z : List UInt8} (hz : After z) : numE (c :: r ++ z) = numE (c :: r) ∧ nE (c :: r ++ z) = nE (c :: r) ∧ (c :: r ++ z).take (nE (c :: r ++ z)) = (c :: r).take (nE (c :: r)) := by
  obtain ⟨x, hx⟩ : ∃ x, c :: r = x := ⟨_, rfl⟩
  have hs : sgn (x ++ z) = sgn x := by subst hx; rfl
  rw [hx]
  have hsl := sgn_le x
  have hdr : (x ++ z).drop (sgn x) = x.drop (sgn x) ++ z := List.drop_append_of_le_length hsl
  have hnd : nd (x ++ z) = nd x := by
    unfold nd
    rw [hs, hdr]
    exact tw_ext (after_dg hz) _
  have hnE : nE (x ++ z) = nE x := by unfold nE; rw [hs, hnd]
  have hle := nE_le x
  have htk : (x ++ z).take (nE (x ++ z)) = x.take (nE x) := by rw [hnE, List.take_append_of_le_length hle]
  have hpa : partAt (x ++ z) (nE x) = partAt x (nE x) := by
    by_cases hlt : nE x < x.length
    · unfold partAt
      rw [List.getElem?_append_left hlt]
    · have e : nE x = x.length := by omega
      have h2 : partAt x (nE x) = false := by
        unfold partAt
        rw [List.getElem?_eq_none (by omega)]
      rw [h2, e]
      exact part_app (after_pd hz)
  have hhd : (decide (1 < (nd x).length) && decide (((x ++ z).drop (sgn (x ++ z))).head? = some 48)) = (decide (1 < (nd x).length) && decide ((x.drop (sgn x)).head? = some 48)) := by
    rw [hs, hdr]
    cases hq : x.drop (sgn x) with
    | nil =>
      have : (nd x).length = 0 := by unfold nd; rw [hq]; rfl
      simp [this]
    | cons => rfl
  have hbad : numBad (x ++ z) = numBad x := by
    unfold numBad
    rw [hnd, htk, hnE, hpa, hhd]
  refine ⟨?_, hnE, htk⟩
  unfold numE
  rw [hbad, htk]
theorem lexT_all {c : UInt8} {r z : List UInt8} (hz : After z) (hc : c.toNat ≠ 34) : lexT (c :: (r ++ z)) = lexT (c :: r) := by
  have e : c :: (r ++ z) = (c :: r) ++ z := rfl
  obtain ⟨n1, n2, n3⟩ := num_all (c := c) (r := r) hz
  simp only [lexT]
  rw [e, tw_ext (after_pd hz), n1, n3, n2, if_neg hc, if_neg hc]
def addC (cmt : List UInt8) : Res → Res
  | .ok T _ => .ok T cmt
  | .fault e c => .fault e c
theorem lexA_all (cmt : List UInt8) : ∀ (n : Nat) (x : List UInt8) (i : Nat) (acc : List Tk), x.length ≤ n → (∀ c ∈ x, c.toNat ≠ 35 ∧ c.toNat ≠ 34) → lexA (x ++ 32 :: 35 :: cmt) i acc = addC cmt (lexA x i acc) := by
  intro n
  induction n with
  | zero =>
    intro x i acc hl _
    have : x = [] := List.length_eq_zero_iff.1 (by omega)
    subst this
    rw [lexA_nil, List.nil_append, lexA_cons, if_pos (by decide), lexA_cons, if_neg (by decide), if_pos (by decide)]
    rfl
  | succ n ih =>
    intro x i acc hl hx
    cases x with
    | nil =>
      rw [lexA_nil, List.nil_append, lexA_cons, if_pos (by decide), lexA_cons, if_neg (by decide), if_pos (by decide)]
      rfl
    | cons c r =>
      simp only [List.length_cons] at hl
      have hc := hx c (by simp)
      rw [List.cons_append, lexA_cons, lexA_cons]
      by_cases h32 : c.toNat = 32
      · rw [if_pos h32, if_pos h32]
        exact ih r _ _ (by omega) fun c hc => hx c (by simp [hc])
      · rw [if_neg h32, if_neg h32, if_neg hc.1, if_neg hc.1]
        by_cases h64 : acc.length = 64
        · rw [if_pos h64, if_pos h64]; rfl
        · rw [if_neg h64, if_neg h64, lexT_all (c := c) (r := r) (z := 32 :: 35 :: cmt) (.inr ⟨_, rfl⟩) hc.2]
          by_cases he : (lexT (c :: r)).e = 0
          · have hp := lex_pos he
            rw [if_pos he, if_pos he]
            have hd : (c :: (r ++ 32 :: 35 :: cmt)).drop (lexT (c :: r)).l = (c :: r).drop (lexT (c :: r)).l ++ 32 :: 35 :: cmt := by
              show (c :: r ++ 32 :: 35 :: cmt).drop _ = _
              exact List.drop_append_of_le_length hp.2
            rw [hd]
            exact ih _ _ _ (by simp; omega) fun d hdm => hx d (List.mem_of_mem_drop hdm)
          · rw [if_neg he, if_neg he]; rfl
theorem blk_ext {b z : List UInt8} (h : blk b < b.length) : blk (b ++ z) = blk b := by
  have key : ∀ l : List UInt8, blk l < l.length → blk (l ++ z) = blk l := by
    intro l
    induction l with
    | nil => intro h; simp at h
    | cons x r ih =>
      intro h
      unfold blk at *
      rw [List.cons_append, List.takeWhile_cons, List.takeWhile_cons] at *
      by_cases hx : x.toNat = 32
      · simp only [hx, decide_true, if_true, List.length_cons] at h ⊢
        rw [ih (by omega)]
      · simp only [hx, decide_false, Bool.false_eq_true, if_false] at h ⊢
  exact key b h
theorem blk_all {b cmt : List UInt8} (h : blk b = b.length) : blk (b ++ 32 :: 35 :: cmt) = b.length + 1 := by
  have key : ∀ l : List UInt8, blk l = l.length → blk (l ++ 32 :: 35 :: cmt) = l.length + 1 := by
    intro l
    induction l with
    | nil => intro _; rfl
    | cons x r ih =>
      intro h
      have hr := blk_le r
      unfold blk at *
      rw [List.cons_append, List.takeWhile_cons]
      rw [List.takeWhile_cons] at h
      by_cases hx : x.toNat = 32
      · simp only [hx, decide_true, if_true, List.length_cons] at h ⊢
        rw [ih (by omega)]
      · simp only [hx, decide_false, Bool.false_eq_true, if_false, List.length_nil, List.length_cons] at h
        omega
  exact key b h
def addCS (cmt : List UInt8) : Scn → Scn
  | .ok ind T hd _ => .ok ind T hd cmt
  | .fault e c => .fault e c
theorem scan_all {b cmt : List UInt8} (hb : b.length ≤ 900) (hc : cmt.length ≤ 50) (hx : ∀ c ∈ b, c.toNat ≠ 35 ∧ c.toNat ≠ 34) : scanS (b ++ 32 :: 35 :: cmt) = addCS cmt (scanS b) := by
  have hle := blk_le b
  unfold scanS
  have hl1 : ¬ 1000 < (b ++ 32 :: 35 :: cmt).length := by simp; omega
  have hl2 : ¬ 1000 < b.length := by omega
  rw [if_neg hl1, if_neg hl2]
  by_cases hall : blk b = b.length
  · have hp1 : blk b = b.length ∨ (b[blk b]?).map UInt8.toNat = some 35 := .inl hall
    rw [if_pos hp1, blk_all hall]
    have hp2 : b.length + 1 = (b ++ 32 :: 35 :: cmt).length ∨ ((b ++ 32 :: 35 :: cmt)[b.length + 1]?).map UInt8.toNat = some 35 := by
      right
      rw [List.getElem?_append_right (by omega), show b.length + 1 - b.length = 1 by omega]
      rfl
    rw [if_pos hp2]
    · have e : (b ++ 32 :: 35 :: cmt).drop (b.length + 1 + 1) = cmt := by
        rw [List.drop_append, List.drop_eq_nil_of_le (by omega), List.nil_append, show b.length + 1 + 1 - b.length = 2 by omega]
        rfl
      rw [e]
      rfl
  · have hlt : blk b < b.length := by omega
    have hn35 : ¬ (blk b = b.length ∨ (b[blk b]?).map UInt8.toNat = some 35) := by
      rintro (h | h)
      · exact hall h
      · rw [List.getElem?_eq_getElem hlt] at h
        simp at h
        exact (hx _ (List.getElem_mem hlt)).1 h
    have hn35' : ¬ (blk b = (b ++ 32 :: 35 :: cmt).length ∨ ((b ++ 32 :: 35 :: cmt)[blk b]?).map UInt8.toNat = some 35) := by
      rintro (h | h)
      · simp at h; omega
      · rw [List.getElem?_append_left hlt, List.getElem?_eq_getElem hlt] at h
        simp at h
        exact (hx _ (List.getElem_mem hlt)).1 h
    rw [blk_ext hlt, if_neg hn35', if_neg hn35]
    by_cases h2 : blk b % 2 = 1
    · rw [if_pos h2, if_pos h2]; rfl
    rw [if_neg h2, if_neg h2]
    by_cases h12 : 12 < blk b
    · rw [if_pos h12, if_pos h12]; rfl
    rw [if_neg h12, if_neg h12, List.drop_append_of_le_length hle, lexA_all cmt _ _ _ _ (Nat.le_refl _) fun c hc => hx c (List.mem_of_mem_drop hc)]
    cases lexA (b.drop (blk b)) (blk b) [] with
    | fault e c => rfl
    | ok T cm =>
      simp only [addC]
      unfold finS
      split
      · split <;> rfl
      · rfl
end Go.Vm.Ch12
namespace Go.Vm.Ch12
set_option maxRecDepth 10000
set_option maxHeartbeats 8000000
/-! ### lines without tokens and comments change nothing but places -/
def zed (x : Nat × L0) : Nat × L0 := (x.1, ⟨x.2.toks, x.2.head, 0⟩)
/-- The second rows are the first ones with comments, and with rows without tokens between them. -/
inductive Ins : List (List UInt8) → List (List UInt8) → Prop where
  | nil : Ins [] []
  | row {a b : List UInt8} {R R' : List (List UInt8)} (h : ∃ cm, addCS cm (scanS b) = addCS cm (scanS a)) (t : Ins R R') : Ins (a :: R) (b :: R')
  | blank {b : List UInt8} {R R' : List (List UInt8)} (h : ∃ cm, scanS b = .ok 0 [] false cm) (t : Ins R R') : Ins R (b :: R')
def PRel : Par → Par → Prop
  | .fault e _ c, .fault e' _ c' => e = e' ∧ c = c'
  | .ok a, .ok a' => a.map zed = a'.map zed
  | _, _ => False
theorem most_zed (acc : List (Nat × L0)) : mostF (acc.map zed) = mostF acc := by
  unfold mostF
  rw [List.getLast?_map]
  cases acc.getLast? with
  | none => rfl
  | some x => rfl
theorem par_ins {R R' : List (List UInt8)} (h : Ins R R') : ∀ (i i' : Nat) (acc acc' : List (Nat × L0)), acc.map zed = acc'.map zed → PRel (parF R i acc) (parF R' i' acc') := by
  induction h with
  | nil => intro i i' acc acc' ha; exact ha
  | @blank b R R' hb t ih =>
    intro i i' acc acc' ha
    obtain ⟨cm, hb⟩ := hb
    have e : parF (b :: R') i' acc' = parF R' (i' + 1) acc' := by simp only [parF, hb]
    rw [e]
    exact ih i (i' + 1) acc acc' ha
  | @row a b R R' hab t ih =>
    intro i i' acc acc' ha
    obtain ⟨cm, hab⟩ := hab
    have hm : mostF acc' = mostF acc := by rw [← most_zed acc', ← ha, most_zed]
    simp only [parF]
    cases hsa : scanS a with
    | fault e c =>
      rw [hsa] at hab
      cases hsb : scanS b with
      | fault e' c' =>
        rw [hsb] at hab
        simp only [addCS, Scn.fault.injEq] at hab
        exact ⟨hab.1.symm, hab.2.symm⟩
      | ok ind T hd cm' => rw [hsb] at hab; cases hab
    | ok ind T hd cm1 =>
      rw [hsa] at hab
      cases hsb : scanS b with
      | fault e' c' => rw [hsb] at hab; cases hab
      | ok ind' T' hd' cm' =>
        rw [hsb] at hab
        simp only [addCS, Scn.ok.injEq] at hab
        obtain ⟨rfl, rfl, rfl, -⟩ := hab
        cases T' with
        | nil => exact ih (i + 1) (i' + 1) acc acc' ha
        | cons x T' =>
          simp only [hm]
          by_cases hc : (mostF acc : Int) < ind'
          · rw [if_pos hc, if_pos hc]
            exact ⟨rfl, rfl⟩
          · rw [if_neg hc, if_neg hc]
            exact ih _ _ _ _ (by rw [List.map_append, List.map_append, ha]; rfl)
mutual
def erL : List Ln → List Ln
  | [] => []
  | x :: r => erN x :: erL r
def erN : Ln → Ln
  | .mk T h K _ => .mk T h (erL K) 0
end
theorem erL_tree : ∀ (f b : Nat) (X : List (Nat × L0)), erL (treeF f b X) = treeF f b (X.map zed)
  | 0, _, _ => rfl
  | _ + 1, _, [] => rfl
  | f + 1, b, (d, l) :: r => by
    have e1 := erL_tree f (b + 1) (r.takeWhile fun x => decide (b < x.1))
    have e2 := erL_tree f b r
    have e3 : (r.map zed).takeWhile (fun x => decide (b < x.1)) = (r.takeWhile fun x => decide (b < x.1)).map zed := by
      rw [List.takeWhile_map]
      rfl
    simp only [List.map_cons, zed, treeF]
    by_cases hd : d = b
    · rw [if_pos hd, if_pos hd, erL, erN, e1, e2]
      rw [e3]
    · rw [if_neg hd, if_neg hd, e2]
mutual
theorem eq_erL : ∀ (K K' : List Ln), eqL false (erL K) (erL K') = eqL false K K'
  | [], [] => rfl
  | [], _ :: _ => rfl
  | _ :: _, [] => rfl
  | x :: r, y :: r' => by rw [erL, erL, eqL, eqL, eq_erL r r', eq_erN x y]
theorem eq_erN : ∀ (x y : Ln), eqN false (erN x) (erN y) = eqN false x y
  | .mk T h K a, .mk T' h' K' a' => by
    rw [erN, erN, eqN, eqN, eq_erL K K']
    simp
end
mutual
theorem mea_er : ∀ K : List Ln, cL (erL K) = cL K ∧ tL (erL K) = tL K ∧ dL (erL K) = dL K
  | [] => ⟨rfl, rfl, rfl⟩
  | x :: r => by
    obtain ⟨h1, h2, h3⟩ := mea_er r
    obtain ⟨g1, g2, g3⟩ := meaN_er x
    simp only [erL, cL, tL, dL]
    omega
theorem meaN_er : ∀ x : Ln, cN (erN x) = cN x ∧ tN (erN x) = tN x ∧ dN (erN x) = dN x
  | .mk T h K a => by
    obtain ⟨h1, h2, h3⟩ := mea_er K
    simp only [erN, cN, tN, dN]
    omega
end
/-- Trees of lines that differ in places alone are the same. -/
theorem tree_same {X Y : List (Nat × L0)} (h : X.map zed = Y.map zed) {f : Nat} : eqL false (treeF f 0 X) (treeF f 0 Y) = true ∧ cL (treeF f 0 X) = cL (treeF f 0 Y) ∧ tL (treeF f 0 X) = tL (treeF f 0 Y) ∧ dL (treeF f 0 X) = dL (treeF f 0 Y) := by
  have e : erL (treeF f 0 X) = erL (treeF f 0 Y) := by rw [erL_tree, erL_tree, h]
  obtain ⟨a1, a2, a3⟩ := mea_er (treeF f 0 X)
  obtain ⟨b1, b2, b3⟩ := mea_er (treeF f 0 Y)
  refine ⟨by rw [← eq_erL, e, eqL_refl], by rw [← a1, ← b1, e], by rw [← a2, ← b2, e], by rw [← a3, ← b3, e]⟩
end Go.Vm.Ch12
namespace Go.Vm.Ch12
set_option maxRecDepth 10000
set_option maxHeartbeats 8000000
/-! ### a source whose lines are given -/
theorem sp10_app : ∀ (x r : List UInt8), 10 ∉ x → sp10 (x ++ 10 :: r) = x :: sp10 r
  | [], r, _ => by simp [sp10]
  | b :: x, r, h => by
    have hb : ¬ b = 10 := fun e => h (by simp [e])
    have ih := sp10_app x r fun hx => h (List.mem_cons_of_mem _ hx)
    rw [List.cons_append, sp10, if_neg hb, ih]
theorem sp10_rows : ∀ (P : List (List UInt8)), (∀ x ∈ P, 10 ∉ x) → sp10 (joinN P) = P ++ [[]]
  | [], _ => by simp [joinN, sp10]
  | x :: P, h => by
    have e : joinN (x :: P) = x ++ 10 :: joinN P := by simp [joinN]
    rw [e, sp10_app x _ (h x (by simp)), sp10_rows P fun y hy => h y (List.mem_cons_of_mem _ hy)]
    rfl
theorem lines_joinN {P : List (List UInt8)} (h : ∀ x ∈ P, 10 ∉ x) : linesL (joinN P) = P := by
  unfold linesL
  rw [sp10_rows P h]
  simp
theorem sp10_no : ∀ (s : List UInt8), ∀ x ∈ sp10 s, 10 ∉ x
  | [], x, h => by simp [sp10] at h; subst h; simp
  | b :: r, x, h => by
    have ih := sp10_no r
    rw [sp10] at h
    split at h
    · rcases List.mem_cons.1 h with rfl | h
      · simp
      · exact ih x h
    · rename_i hb
      cases hq : sp10 r with
      | nil => rw [hq] at h; simp at h; subst h; simpa using fun e : 10 = b => hb e.symm
      | cons y t =>
        rw [hq] at h ih
        rcases List.mem_cons.1 h with rfl | h
        · intro hm
          rcases List.mem_cons.1 hm with e | hm
          · exact hb e.symm
          · exact ih y (by simp) hm
        · exact ih x (List.mem_cons_of_mem _ h)
theorem lines_no (s : List UInt8) : ∀ x ∈ linesL s, 10 ∉ x := by
  intro x hx
  unfold linesL at hx
  split at hx
  · exact sp10_no s x (List.dropLast_subset _ hx)
  · exact sp10_no s x hx
/-! ### the spoilt source -/
def cm1 : List UInt8 := [32, 32, 32, 35, 32, 110, 111, 116, 104, 105, 110, 103]
def cm2 : List UInt8 := [32, 97, 32, 99, 111, 109, 109, 101, 110, 116, 58, 32, 104, 101, 114, 101]
def spoilL (R : List (List UInt8)) (i : Nat) : List (List UInt8) := R.take i ++ (cm1 :: [] :: (R.getD i [] ++ 32 :: 35 :: cm2) :: R.drop (i + 1))
theorem ins_refl : ∀ R, Ins R R
  | [] => .nil
  | _ :: r => .row ⟨[], rfl⟩ (ins_refl r)
theorem addC2 (a b : List UInt8) (x : Scn) : addCS a (addCS b x) = addCS a x := by cases x <;> rfl
theorem ins_spoil : ∀ (R : List (List UInt8)) (i : Nat), i < R.length → (∀ x ∈ R, x.length ≤ 900 ∧ ∀ c ∈ x, c.toNat ≠ 35 ∧ c.toNat ≠ 34) → Ins R (spoilL R i)
  | [], i, h, _ => by simp at h
  | x :: r, 0, _, hr => by
    have hx := hr x (by simp)
    refine .blank ⟨_, rfl⟩ (.blank ⟨_, rfl⟩ (.row ⟨[], ?_⟩ (ins_refl r)))
    show addCS [] (scanS (x ++ 32 :: 35 :: cm2)) = addCS [] (scanS x)
    rw [scan_all hx.1 (by decide) hx.2, addC2]
  | x :: r, i + 1, h, hr => by
    have ih := ins_spoil r i (by simpa using h) fun y hy => hr y (List.mem_cons_of_mem _ hy)
    exact .row ⟨[], rfl⟩ ih
theorem blanks_law {s : List UInt8} (hs : s.length ≤ 1200) {i : Nat} (hi : i < (linesL s).length) (hr : ∀ x ∈ linesL s, x.length ≤ 900 ∧ ∀ c ∈ x, c.toNat ≠ 35 ∧ c.toNat ≠ 34)
    (hl : (joinN (spoilL (linesL s) i)).length ≤ 65536) : PRel (parR s) (parR (joinN (spoilL (linesL s) i))) := by
  have hno : ∀ x ∈ spoilL (linesL s) i, 10 ∉ x := by
    have h0 := lines_no s
    intro x hx
    unfold spoilL at hx
    rcases List.mem_append.1 hx with hx | hx
    · exact h0 x (List.mem_of_mem_take hx)
    · simp only [List.mem_cons] at hx
      rcases hx with rfl | rfl | rfl | hx
      · decide
      · simp
      · intro hm
        rcases List.mem_append.1 hm with hm | hm
        · have e : (linesL s).getD i [] = (linesL s)[i] := by simp [hi]
          rw [e] at hm
          exact h0 _ (List.getElem_mem hi) hm
        · revert hm; decide
      · exact h0 x (List.mem_of_mem_drop hx)
  unfold parR
  rw [if_neg (by omega), if_neg (by omega), lines_joinN hno]
  exact par_ins (ins_spoil _ i hi hr) 0 0 [] [] rfl
end Go.Vm.Ch12
