/- Chapter 09: what its functions compute. -/
import Derived.Test.YtijbapbijpdpiaaDoorC09v
namespace Go.Vm.Ch09
set_option maxRecDepth 10000
set_option maxHeartbeats 8000000
/-! ### columns and comments, without a program -/
def Cols (b : List UInt8) : Nat → List Tk → Prop
  | _, [] => True
  | e, p :: r => vaT p = true ∧ ∃ j : Nat, e ≤ j ∧ p.a = ((j + 1 : Nat) : Int) ∧ j + (spT p).length ≤ b.length ∧ (b.drop j).take (spT p).length = spT p ∧ Cols b (j + (spT p).length) r
theorem cols_take {b : List UInt8} : ∀ (D : List Tk) (e n : Nat), Cols b e D → Cols b e (D.take n)
  | [], _, _, h => by simpa using h
  | _ :: _, _, 0, _ => trivial
  | p :: r, e, n + 1, h => by
    obtain ⟨h1, j, h2, h3, h4, h5, h6⟩ := h
    exact ⟨h1, j, h2, h3, h4, h5, cols_take r _ n h6⟩
theorem lexL_cols (b : List UInt8) : ∀ (f : Nat) (x : List UInt8) (i : Nat) (acc T : List Tk) (cm : List UInt8), x = b.drop i → i ≤ b.length → lexL f x i acc = .ok T cm → ∃ D, T = acc ++ D ∧ ∀ e, e ≤ i → Cols b e D
  | 0, _, _, _, _, _, _, _, h => by simp [lexL] at h
  | f + 1, [], _, acc, T, cm, _, _, h => by
    simp only [lexL, Res.ok.injEq] at h
    exact ⟨[], by rw [← h.1]; simp, fun _ _ => trivial⟩
  | f + 1, c :: r, i, acc, T, cm, hx, hi, h => by
    have hlt : i < b.length := by
      refine Classical.byContradiction fun hn => ?_
      rw [List.drop_eq_nil_of_le (by omega)] at hx
      cases hx
    have hr : r = b.drop (i + 1) := by
      have : b.drop i = b[i] :: b.drop (i + 1) := by simp
      rw [this] at hx
      injection hx
    have hxl : (c :: r).length = b.length - i := by rw [hx]; simp
    simp only [lexL] at h
    split at h
    · obtain ⟨D, h1, h2⟩ := lexL_cols b f _ _ _ _ _ hr (by omega) h
      exact ⟨D, h1, fun e he => h2 e (by omega)⟩
    · split at h
      · simp only [Res.ok.injEq] at h
        exact ⟨[], by rw [← h.1]; simp, fun _ _ => trivial⟩
      · split at h
        · simp at h
        · split at h
          · rename_i he
            have hp := lex_pos he
            obtain ⟨v1, v2⟩ := lex_valid he
            have hsl : (spl (lexT (c :: r)).k (lexT (c :: r)).t (lexT (c :: r)).n).length = (lexT (c :: r)).l := by
              rw [← v2, List.length_take]; omega
            obtain ⟨D, h1, h2⟩ := lexL_cols b f _ _ _ _ _ (by rw [hx, List.drop_drop]) (by omega) h
            refine ⟨⟨(lexT (c :: r)).k, (lexT (c :: r)).t, (lexT (c :: r)).n, i + 1⟩ :: D, by rw [h1]; simp, fun e hle => ⟨v1, i, hle, rfl, ?_, ?_, ?_⟩⟩
            · show i + (spl _ _ _).length ≤ _
              rw [hsl]; omega
            · show (b.drop i).take (spl _ _ _).length = spl _ _ _
              rw [hsl, ← hx, v2]
            · show Cols b (i + (spl _ _ _).length) D
              rw [hsl]
              exact h2 _ (Nat.le_refl _)
          · simp at h
theorem scan_cols {b : List UInt8} {ind : Int} {T : List Tk} {hd : Bool} {cm : List UInt8} (h : scanS b = .ok ind T hd cm) : Cols b 0 T := by
  unfold scanS at h
  split at h
  · cases h
  · split at h
    · simp only [Scn.ok.injEq] at h; rw [← h.2.1]; trivial
    · split at h
      · cases h
      · split at h
        · cases h
        · split at h
          · cases h
          · rename_i T' cm' hT
            obtain ⟨D, h1, h2⟩ := lexL_cols b _ _ _ _ _ _ rfl (blk_le b) hT
            have hc := h2 0 (Nat.zero_le _)
            rw [List.nil_append] at h1
            subst h1
            unfold finS at h
            split at h
            · split at h
              · cases h
              · simp only [Scn.ok.injEq] at h
                rw [← h.2.1]
                exact cols_take _ _ _ hc
            · simp only [Scn.ok.injEq] at h
              rw [← h.2.1]; exact hc
theorem tw_ext {p : UInt8 → Bool} {z : List UInt8} (hz : ∀ c, z.head? = some c → p c = false) : ∀ l : List UInt8, (l ++ z).takeWhile p = l.takeWhile p
  | [] => by
    cases z with
    | nil => rfl
    | cons c r => rw [List.nil_append, List.takeWhile_cons, hz c rfl]; rfl
  | x :: r => by
    rw [List.cons_append, List.takeWhile_cons, List.takeWhile_cons, tw_ext hz r]
theorem num_ext {x z : List UInt8} (hz : After z) (h : numE x = 0) : numE (x ++ z) = 0 ∧ nE (x ++ z) = nE x ∧ (x ++ z).take (nE (x ++ z)) = x.take (nE x) := by
  obtain ⟨hb, he, g1, g2⟩ := numE_0 h
  have hb' := hb
  unfold numBad at hb'
  simp only [Bool.or_eq_false_iff, decide_eq_false_iff_not, Bool.and_eq_false_iff] at hb'
  obtain ⟨⟨⟨h1, h2⟩, h3⟩, h4⟩ := hb'
  have hxne : x ≠ [] := by rintro rfl; exact h1 rfl
  have hs : sgn (x ++ z) = sgn x := by
    cases x with
    | nil => exact absurd rfl hxne
    | cons => rfl
  have hsl := sgn_le x
  have hdr : (x ++ z).drop (sgn x) = x.drop (sgn x) ++ z := List.drop_append_of_le_length hsl
  have hnd : nd (x ++ z) = nd x := by
    unfold nd
    rw [hs, hdr]
    exact tw_ext (after_dg hz) _
  have hnE : nE (x ++ z) = nE x := by unfold nE; rw [hs, hnd]
  have hle := nE_le x
  have htk : (x ++ z).take (nE (x ++ z)) = x.take (nE x) := by rw [hnE, List.take_append_of_le_length hle]
  have hpa : partAt (x ++ z) (nE x) = false := by
    by_cases hlt : nE x < x.length
    · unfold partAt at h2 ⊢
      rw [List.getElem?_append_left hlt]; exact h2
    · have : nE x = x.length := by omega
      rw [this]
      exact part_app (after_pd hz)
  have hhd : ((x ++ z).drop (sgn (x ++ z))).head? = (x.drop (sgn x)).head? := by
    rw [hs, hdr]
    cases hq : x.drop (sgn x) with
    | nil => exact absurd (by unfold nd; rw [hq]; rfl) h1
    | cons => rfl
  have hbad : numBad (x ++ z) = false := by
    rw [← hb]
    unfold numBad
    rw [hnd, htk, hhd, hnE, hpa, h2]
  refine ⟨?_, hnE, htk⟩
  rw [← h]
  unfold numE
  rw [hbad, hb, htk]
theorem lexT_ext {c : UInt8} {r z : List UInt8} (hz : After z) (h : (lexT (c :: r)).e = 0) : lexT (c :: (r ++ z)) = lexT (c :: r) := by
  obtain ⟨X, hX⟩ : ∃ X, lexT (c :: r) = X := ⟨_, rfl⟩
  rw [hX] at h ⊢
  simp only [lexT] at hX ⊢
  have e : c :: (r ++ z) = (c :: r) ++ z := rfl
  by_cases hL : letterN c.toNat = true
  · rw [if_pos hL] at hX ⊢
    rw [e, tw_ext (after_pd hz)]
    exact hX
  rw [if_neg hL] at hX ⊢
  by_cases hN : dg c = true ∨ c.toNat = 45
  · rw [if_pos hN] at hX ⊢
    subst hX
    simp only at h
    obtain ⟨e1, e2, e3⟩ := num_ext hz h
    rw [e, e1, e3, e2, h]
  rw [if_neg hN] at hX ⊢
  by_cases hQ : c.toNat = 34
  · rw [if_pos hQ] at hX ⊢
    by_cases h1 : (upto 34 r).length < r.length
    · have hu : upto 34 (r ++ z) = upto 34 r := by
        have key : ∀ l : List UInt8, (upto 34 l).length < l.length → upto 34 (l ++ z) = upto 34 l := by
          intro l
          induction l with
          | nil => intro h; simp at h
          | cons x y ih =>
            intro h
            unfold upto at h ih ⊢
            by_cases hx : x = 34
            · simp [hx]
            · have hb : (!(x == 34)) = true := by simp [hx]
              rw [List.cons_append]
              simp only [List.takeWhile_cons, hb, if_true, List.length_cons] at h ⊢
              rw [ih (by omega)]
        exact key r h1
      rw [hu, if_pos (by simp; omega)]
      rw [if_pos h1] at hX
      exact hX
    · rw [if_neg h1] at hX; subst hX; cases h
  rw [if_neg hQ] at hX ⊢
  by_cases hS : sgB c = true
  · rw [if_pos hS] at hX ⊢; exact hX
  · rw [if_neg hS] at hX; subst hX; cases h
theorem lexA_ext (cmt : List UInt8) : ∀ (n : Nat) (x : List UInt8) (i : Nat) (acc T : List Tk) (cm : List UInt8), x.length ≤ n → (∀ c ∈ x, c.toNat ≠ 35) → lexA x i acc = .ok T cm → lexA (x ++ 32 :: 35 :: cmt) i acc = .ok T cmt := by
  intro n
  induction n with
  | zero =>
    intro x i acc T cm hl _ h
    have : x = [] := List.length_eq_zero_iff.1 (by omega)
    subst this
    rw [lexA_nil] at h
    simp only [Res.ok.injEq] at h
    rw [List.nil_append, lexA_cons, if_pos (by decide), lexA_cons, if_neg (by decide), if_pos (by decide), h.1]
  | succ n ih =>
    intro x i acc T cm hl hx h
    cases x with
    | nil =>
      rw [lexA_nil] at h
      simp only [Res.ok.injEq] at h
      rw [List.nil_append, lexA_cons, if_pos (by decide), lexA_cons, if_neg (by decide), if_pos (by decide), h.1]
    | cons c r =>
      simp only [List.length_cons] at hl
      rw [List.cons_append, lexA_cons]
      rw [lexA_cons] at h
      split at h
      · rename_i h32
        rw [if_pos h32]
        exact ih r _ _ _ _ (by omega) (fun c hc => hx c (by simp [hc])) h
      · rename_i h32
        rw [if_neg h32]
        have h35 := hx c (by simp)
        rw [if_neg h35] at h ⊢
        split at h
        · cases h
        · rename_i h64
          rw [if_neg h64]
          split at h
          · rename_i he
            have hp := lex_pos he
            have hext := lexT_ext (c := c) (r := r) (z := 32 :: 35 :: cmt) (.inr ⟨_, rfl⟩) he
            rw [hext, if_pos he]
            have hd : (c :: (r ++ 32 :: 35 :: cmt)).drop (lexT (c :: r)).l = (c :: r).drop (lexT (c :: r)).l ++ 32 :: 35 :: cmt := by
              show (c :: r ++ 32 :: 35 :: cmt).drop _ = _
              exact List.drop_append_of_le_length hp.2
            rw [hd]
            refine ih _ _ _ _ _ (by simp; omega) (fun d hdm => hx d (List.mem_of_mem_drop hdm)) h
          · cases h
theorem blk_ext {b z : List UInt8} (h : blk b < b.length) : blk (b ++ z) = blk b := by
  have key : ∀ l : List UInt8, blk l < l.length → blk (l ++ z) = blk l := by
    intro l
    induction l with
    | nil => intro h; simp at h
    | cons x r ih =>
      intro h
      unfold blk at *
      rw [List.cons_append, List.takeWhile_cons, List.takeWhile_cons] at *
      by_cases hx : x.toNat = 32
      · simp only [hx, decide_true, if_true, List.length_cons] at h ⊢
        rw [ih (by omega)]
      · simp only [hx, decide_false, Bool.false_eq_true, if_false] at h ⊢
  exact key b h
theorem blk_all {b cmt : List UInt8} (h : blk b = b.length) : blk (b ++ 32 :: 35 :: cmt) = b.length + 1 := by
  have key : ∀ l : List UInt8, blk l = l.length → blk (l ++ 32 :: 35 :: cmt) = l.length + 1 := by
    intro l
    induction l with
    | nil => intro _; rfl
    | cons x r ih =>
      intro h
      have hr := blk_le r
      unfold blk at *
      rw [List.cons_append, List.takeWhile_cons]
      rw [List.takeWhile_cons] at h
      by_cases hx : x.toNat = 32
      · simp only [hx, decide_true, if_true, List.length_cons] at h ⊢
        rw [ih (by omega)]
      · simp only [hx, decide_false, Bool.false_eq_true, if_false, List.length_nil, List.length_cons] at h
        omega
  exact key b h
/-- A comment behind a line changes nothing but the comment. -/
theorem scan_comment {b cmt : List UInt8} (hb : b.length ≤ 900) (hc : cmt.length ≤ 50) (hx : ∀ c ∈ b, c.toNat ≠ 35) {ind : Int} {T : List Tk} {hd : Bool} {cm : List UInt8} (h : scanS b = .ok ind T hd cm) :
    scanS (b ++ 32 :: 35 :: cmt) = .ok ind T hd cmt := by
  have hle := blk_le b
  unfold scanS at h ⊢
  rw [if_neg (by omega)] at h
  rw [if_neg (by simp; omega)]
  by_cases hall : blk b = b.length
  · rw [if_pos (.inl hall)] at h
    simp only [Scn.ok.injEq] at h
    obtain ⟨rfl, rfl, rfl, _⟩ := h
    rw [blk_all hall, if_pos]
    · congr 1
      rw [List.drop_append, List.drop_eq_nil_of_le (by omega), List.nil_append]
      rw [show b.length + 1 + 1 - b.length = 2 by omega]
      rfl
    · right
      rw [List.getElem?_append_right (by omega), show b.length + 1 - b.length = 1 by omega]
      rfl
  · have hlt : blk b < b.length := by omega
    have hn35 : ¬ (blk b = b.length ∨ (b[blk b]?).map UInt8.toNat = some 35) := by
      rintro (h | h)
      · exact hall h
      · rw [List.getElem?_eq_getElem hlt] at h
        simp at h
        exact hx _ (List.getElem_mem hlt) h
    rw [if_neg hn35] at h
    rw [blk_ext hlt, if_neg]
    rotate_left
    · rintro (h | h)
      · simp at h; omega
      · rw [List.getElem?_append_left hlt, List.getElem?_eq_getElem hlt] at h
        simp at h
        exact hx _ (List.getElem_mem hlt) h
    split at h
    · cases h
    · rename_i h2
      rw [if_neg h2]
      split at h
      · cases h
      · rename_i h12
        rw [if_neg h12, List.drop_append_of_le_length hle]
        split at h
        · cases h
        · rename_i T' cm' hT
          rw [lexA_ext cmt _ _ _ _ _ _ (Nat.le_refl _) (fun c hc => hx c (List.mem_of_mem_drop hc)) hT]
          simp only
          unfold finS at h ⊢
          split at h
          · rename_i hcol
            rw [if_pos hcol]
            split at h
            · cases h
            · rename_i h1
              rw [if_neg h1]
              simp only [Scn.ok.injEq] at h
              obtain ⟨rfl, rfl, rfl, _⟩ := h
              rfl
          · rename_i hcol
            rw [if_neg hcol]
            simp only [Scn.ok.injEq] at h
            obtain ⟨rfl, rfl, rfl, _⟩ := h
            rfl
end Go.Vm.Ch09
