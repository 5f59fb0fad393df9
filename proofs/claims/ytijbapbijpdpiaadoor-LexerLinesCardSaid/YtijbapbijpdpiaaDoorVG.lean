/- A small machine and its soundness, part VG. -/
import Derived.Test.YtijbapbijpdpiaaDoorVF
/- Stable sorting of lists by a strict weak order, in plain Lean. -/
namespace Go.Vm.Stable
variable {α : Type} (lt : α → α → Bool)

structure SWO : Prop where
  asym : ∀ x y, lt x y = true → lt y x = false
  ntr : ∀ x y z, lt y x = false → lt z y = false → lt z x = false

/-- In order, equals allowed. -/
def Srt (xs : List α) : Prop := xs.Pairwise fun x y => lt y x = false
def cl (x y : α) : Bool := !lt x y && !lt y x
def Same (A B : List α) : Prop := ∀ x, A.filter (cl lt x) = B.filter (cl lt x)
/-- B is A in order, equals in the order that they had. -/
def Stab (A B : List α) : Prop := Srt lt B ∧ Same lt A B ∧ A.length = B.length

variable {lt}
theorem irr (h : SWO lt) (x : α) : lt x x = false := by
  cases hx : lt x x
  · rfl
  · have := h.asym x x hx; rw [hx] at this; exact this
theorem cl_self (h : SWO lt) (x : α) : cl lt x x = true := by simp [cl, irr h]
theorem lt_ne_cl {x y : α} (h : lt x y = true) (z : α) (hw : SWO lt) : cl lt z x = false ∨ cl lt z y = false := by
  cases h1 : cl lt z x
  · exact .inl rfl
  · cases h2 : cl lt z y
    · exact .inr rfl
    · exfalso
      simp only [cl, Bool.and_eq_true, Bool.not_eq_true'] at h1 h2
      have := hw.ntr y z x h2.1 h1.2
      rw [h] at this; cases this
theorem Same.refl (A : List α) : Same lt A A := fun _ => rfl
theorem Same.trans {A B C : List α} (h : Same lt A B) (h2 : Same lt B C) : Same lt A C := fun x => (h x).trans (h2 x)
theorem Same.symm {A B : List α} (h : Same lt A B) : Same lt B A := fun x => (h x).symm
theorem Same.app {A B C D : List α} (h : Same lt A B) (h2 : Same lt C D) : Same lt (A ++ C) (B ++ D) := fun x => by
  rw [List.filter_append, List.filter_append, h x, h2 x]
theorem Same.mem {A B : List α} (hw : SWO lt) (h : Same lt A B) {y : α} : y ∈ A ↔ y ∈ B := by
  have e : ∀ L : List α, y ∈ L ↔ y ∈ L.filter (cl lt y) := fun L => by
    rw [List.mem_filter]; exact ⟨fun h => ⟨h, cl_self hw y⟩, fun h => h.1⟩
  rw [e A, e B, h y]
/-- Blocks of which the first is greater than the second, everywhere, may change places. -/
theorem Same.exch {A B : List α} (hw : SWO lt) (h : ∀ x ∈ A, ∀ y ∈ B, lt y x = true) : Same lt (A ++ B) (B ++ A) := fun z => by
  rw [List.filter_append, List.filter_append]
  by_cases hA : A.filter (cl lt z) = []
  · rw [hA]; simp
  · have hB : B.filter (cl lt z) = [] := by
      rw [List.filter_eq_nil_iff]
      intro y hy
      obtain ⟨x, hx⟩ := List.exists_mem_of_ne_nil _ hA
      rw [List.mem_filter] at hx
      rcases lt_ne_cl (h x hx.1 y hy) z hw with h1 | h1
      · simp [h1]
      · rw [hx.2] at h1; cases h1
    rw [hB]; simp
theorem Stab.unique (hw : SWO lt) : ∀ {A B C : List α}, Stab lt A B → Stab lt A C → B = C := by
  intro A B C hB hC
  have key : ∀ (B C : List α), Srt lt B → Srt lt C → Same lt B C → B.length = C.length → B = C := by
    intro B
    induction B with
    | nil => intro C _ _ _ hl; exact (List.length_eq_zero_iff.1 hl.symm).symm
    | cons b Bt ih =>
      intro C hB hC hs hl
      cases C with
      | nil => simp at hl
      | cons c Ct =>
        have hB' := List.pairwise_cons.1 hB
        have hC' := List.pairwise_cons.1 hC
        have hbC : b ∈ c :: Ct := (hs.mem hw).1 (by simp)
        have hcB : c ∈ b :: Bt := (hs.mem hw).2 (by simp)
        have h1 : lt b c = false := by
          rcases List.mem_cons.1 hbC with e | h
          · rw [e]; exact irr hw c
          · exact hC'.1 b h
        have h2 : lt c b = false := by
          rcases List.mem_cons.1 hcB with e | h
          · rw [e]; exact irr hw b
          · exact hB'.1 c h
        have hcl : cl lt b c = true := by simp [cl, h1, h2]
        have e := hs b
        rw [List.filter_cons_of_pos (cl_self hw b), List.filter_cons_of_pos hcl] at e
        have ebc : b = c := (List.cons.inj e).1
        subst ebc
        refine congrArg (b :: ·) (ih Ct hB'.2 hC'.2 (fun x => ?_) (by simpa using hl))
        have ex := hs x
        cases hx : cl lt x b
        · rw [List.filter_cons_of_neg (by simp [hx]), List.filter_cons_of_neg (by simp [hx])] at ex; exact ex
        · rw [List.filter_cons_of_pos hx, List.filter_cons_of_pos hx] at ex; exact (List.cons.inj ex).2
  exact key B C hB.1 hC.1 (hB.2.1.symm.trans hC.2.1) (hB.2.2.symm.trans hC.2.2)
theorem Srt.app {A B : List α} (hA : Srt lt A) (hB : Srt lt B) (h : ∀ x ∈ A, ∀ y ∈ B, lt y x = false) : Srt lt (A ++ B) :=
  List.pairwise_append.2 ⟨hA, hB, h⟩
theorem Srt.left {A B : List α} (h : Srt lt (A ++ B)) : Srt lt A := (List.pairwise_append.1 h).1
theorem Srt.right {A B : List α} (h : Srt lt (A ++ B)) : Srt lt B := (List.pairwise_append.1 h).2.1
theorem Srt.cross {A B : List α} (h : Srt lt (A ++ B)) : ∀ x ∈ A, ∀ y ∈ B, lt y x = false := (List.pairwise_append.1 h).2.2
theorem Srt.one (x : α) : Srt lt [x] := List.pairwise_singleton _ _
theorem Stab.refl {A : List α} (h : Srt lt A) : Stab lt A A := ⟨h, .refl A, rfl⟩

/-- A new element comes to stand behind those that are not greater. -/
theorem stab_insert (hw : SWO lt) {A B1 B2 : List α} {v : α} (h : Stab lt A (B1 ++ B2)) (h1 : ∀ x ∈ B1, lt v x = false) (h2 : ∀ x ∈ B2, lt v x = true) : Stab lt (A ++ [v]) (B1 ++ v :: B2) := by
  obtain ⟨hs, hsame, hl⟩ := h
  refine ⟨?_, ?_, by simp at hl ⊢; omega⟩
  · refine Srt.app hs.left (List.pairwise_cons.2 ⟨fun y hy => hw.asym _ _ (h2 y hy), hs.right⟩) fun x hx y hy => ?_
    rcases List.mem_cons.1 hy with rfl | h
    · exact h1 x hx
    · exact hs.cross x hx y h
  · refine (hsame.app (.refl [v])).trans ?_
    rw [List.append_assoc, show v :: B2 = [v] ++ B2 from rfl]
    refine Same.app (.refl B1) (Same.exch hw fun x hx y hy => ?_)
    rw [List.mem_singleton.1 hy]; exact h2 x hx

/-- The four blocks of a merge: the inner ones change places, then each half is merged. -/
theorem stab_four (hw : SWO lt) {A1 A2 B1 B2 R1 R2 : List α} (hA : Srt lt (A1 ++ A2)) (hB : Srt lt (B1 ++ B2)) (h1 : ∀ x ∈ A1, ∀ y ∈ B2, lt y x = false) (h2 : ∀ y ∈ B1, ∀ x ∈ A2, lt y x = true)
    (hR1 : Stab lt (A1 ++ B1) R1) (hR2 : Stab lt (A2 ++ B2) R2) : Stab lt ((A1 ++ A2) ++ (B1 ++ B2)) (R1 ++ R2) := by
  refine ⟨Srt.app hR1.1 hR2.1 fun x hx y hy => ?_, ?_, ?_⟩
  · have hx' := (hR1.2.1.mem hw).2 hx
    have hy' := (hR2.2.1.mem hw).2 hy
    rcases List.mem_append.1 hx' with hx | hx <;> rcases List.mem_append.1 hy' with hy | hy
    · exact hA.cross x hx y hy
    · exact h1 x hx y hy
    · exact hw.asym _ _ (h2 x hx y hy)
    · exact hB.cross x hx y hy
  · refine Same.trans ?_ (hR1.2.1.app hR2.2.1)
    have e1 : (A1 ++ A2) ++ (B1 ++ B2) = A1 ++ ((A2 ++ B1) ++ B2) := by simp
    have e2 : (A1 ++ B1) ++ (A2 ++ B2) = A1 ++ ((B1 ++ A2) ++ B2) := by simp
    rw [e1, e2]
    exact Same.app (.refl A1) ((Same.exch hw fun x hx y hy => h2 y hy x hx).app (.refl B2))
  · have e1 := hR1.2.2
    have e2 := hR2.2.2
    simp at e1 e2 ⊢
    omega
theorem Stab.app_trans {A B C D : List α} (h1 : Same lt A B) (hl : A.length = B.length) (h : Stab lt (B ++ C) D) : Stab lt (A ++ C) D :=
  ⟨h.1, (h1.app (.refl C)).trans h.2.1, by rw [← h.2.2]; simp [hl]⟩
end Go.Vm.Stable
/- Stable sorting in place, the walk: insertion, exchange of blocks, rotation, merging, for elements of n cells, whatever the functions' numbers are. The code's shapes were printed by a program. -/
namespace Go.Vm
def cInsertG (ag : Option Nat) (n : Nat) : VF := ⟨4, [], (.seq (.region [⟨(.some 10), (.move (.t 1)), .none⟩, ⟨(.some 11), (.bin .add (.t 10) (.k (.int .i64 1))), .none⟩, ⟨(.some 8), (.assign (.t 11)), .none⟩]) (.block 0 (.loop (.seq (.seq (.region [⟨(.some 12), (.move (.t 8)), .none⟩, ⟨(.some 13), (.move (.t 2)), .none⟩, ⟨(.some 14), (.bin .lss (.t 12) (.t 13)), .none⟩]) (.cond (.t 14) .skip (.exit 0))) (.seq (.block 1 (.seq (.region [⟨(.some 17), (.move (.t 8)), .none⟩, ⟨(.some 9), (.assign (.t 17)), .none⟩]) (.block 2 (.loop (.seq (.seq (.region [⟨(.some 18), (.move (.t 9)), .none⟩, ⟨(.some 19), (.move (.t 1)), .none⟩, ⟨(.some 20), (.bin .gtr (.t 18) (.t 19)), .none⟩, ⟨(.some 21), (.move (.t 20)), .none⟩, ⟨(.some 22), (.move (.t 3)), (.some (21, .true))⟩, ⟨(.some 23), (.move (.t 0)), (.some (21, .true))⟩, ⟨(.some 24), (.move (.t 9)), (.some (21, .true))⟩, ⟨(.some 25), (.iaddrSl n (.t 23) (.t 24)), (.some (21, .true))⟩, ⟨(.some 26), (.load ag (.t 25)), (.some (21, .true))⟩, ⟨(.some 27), (.move (.t 0)), (.some (21, .true))⟩, ⟨(.some 28), (.move (.t 9)), (.some (21, .true))⟩, ⟨(.some 29), (.bin .sub (.t 28) (.k (.int .i64 1))), (.some (21, .true))⟩, ⟨(.some 30), (.iaddrSl n (.t 27) (.t 29)), (.some (21, .true))⟩, ⟨(.some 31), (.load ag (.t 30)), (.some (21, .true))⟩, ⟨(.some 32), (.callP (.t 22) [(.t 26), (.t 31)]), (.some (21, .true))⟩, ⟨(.some 33), (.bin .lss (.t 32) (.k (.int .i64 0))), (.some (21, .true))⟩, ⟨(.some 34), (.pick (.t 21) (.t 33) (.k (.bool .false))), .none⟩]) (.cond (.t 34) .skip (.exit 2))) (.seq (.block 3 (.region [⟨(.some 37), (.move (.t 0)), .none⟩, ⟨(.some 38), (.move (.t 9)), .none⟩, ⟨(.some 39), (.move (.t 0)), .none⟩, ⟨(.some 40), (.move (.t 9)), .none⟩, ⟨(.some 41), (.bin .sub (.t 40) (.k (.int .i64 1))), .none⟩, ⟨(.some 42), (.move (.t 0)), .none⟩, ⟨(.some 43), (.move (.t 9)), .none⟩, ⟨(.some 44), (.bin .sub (.t 43) (.k (.int .i64 1))), .none⟩, ⟨(.some 45), (.iaddrSl n (.t 42) (.t 44)), .none⟩, ⟨(.some 46), (.load ag (.t 45)), .none⟩, ⟨(.some 47), (.move (.t 0)), .none⟩, ⟨(.some 48), (.move (.t 9)), .none⟩, ⟨(.some 49), (.iaddrSl n (.t 47) (.t 48)), .none⟩, ⟨(.some 50), (.load ag (.t 49)), .none⟩, ⟨(.some 51), (.iaddrSl n (.t 37) (.t 38)), .none⟩, ⟨.none, (.store n (.t 51) (.t 46)), .none⟩, ⟨(.some 52), (.iaddrSl n (.t 39) (.t 41)), .none⟩, ⟨.none, (.store n (.t 52) (.t 50)), .none⟩])) (.region [⟨(.some 35), (.move (.t 9)), .none⟩, ⟨(.some 36), (.bin .sub (.t 35) (.k (.int .i64 1))), .none⟩, ⟨(.some 9), (.assign (.t 36)), .none⟩]))))))) (.region [⟨(.some 15), (.move (.t 8)), .none⟩, ⟨(.some 16), (.bin .add (.t 15) (.k (.int .i64 1))), .none⟩, ⟨(.some 8), (.assign (.t 16)), .none⟩]))))))⟩
def cSwapRG (ag : Option Nat) (n : Nat) : VF := ⟨5, [], (.seq (.region [⟨(.some 10), (.assign (.k (.int .i64 0))), .none⟩]) (.block 0 (.loop (.seq (.seq (.region [⟨(.some 11), (.move (.t 10)), .none⟩, ⟨(.some 12), (.move (.t 3)), .none⟩, ⟨(.some 13), (.bin .lss (.t 11) (.t 12)), .none⟩]) (.cond (.t 13) .skip (.exit 0))) (.seq (.block 1 (.region [⟨(.some 16), (.move (.t 0)), .none⟩, ⟨(.some 17), (.move (.t 1)), .none⟩, ⟨(.some 18), (.move (.t 10)), .none⟩, ⟨(.some 19), (.bin .add (.t 17) (.t 18)), .none⟩, ⟨(.some 20), (.move (.t 0)), .none⟩, ⟨(.some 21), (.move (.t 2)), .none⟩, ⟨(.some 22), (.move (.t 10)), .none⟩, ⟨(.some 23), (.bin .add (.t 21) (.t 22)), .none⟩, ⟨(.some 24), (.move (.t 0)), .none⟩, ⟨(.some 25), (.move (.t 2)), .none⟩, ⟨(.some 26), (.move (.t 10)), .none⟩, ⟨(.some 27), (.bin .add (.t 25) (.t 26)), .none⟩, ⟨(.some 28), (.iaddrSl n (.t 24) (.t 27)), .none⟩, ⟨(.some 29), (.load ag (.t 28)), .none⟩, ⟨(.some 30), (.move (.t 0)), .none⟩, ⟨(.some 31), (.move (.t 1)), .none⟩, ⟨(.some 32), (.move (.t 10)), .none⟩, ⟨(.some 33), (.bin .add (.t 31) (.t 32)), .none⟩, ⟨(.some 34), (.iaddrSl n (.t 30) (.t 33)), .none⟩, ⟨(.some 35), (.load ag (.t 34)), .none⟩, ⟨(.some 36), (.iaddrSl n (.t 16) (.t 19)), .none⟩, ⟨.none, (.store n (.t 36) (.t 29)), .none⟩, ⟨(.some 37), (.iaddrSl n (.t 20) (.t 23)), .none⟩, ⟨.none, (.store n (.t 37) (.t 35)), .none⟩])) (.region [⟨(.some 14), (.move (.t 10)), .none⟩, ⟨(.some 15), (.bin .add (.t 14) (.k (.int .i64 1))), .none⟩, ⟨(.some 10), (.assign (.t 15)), .none⟩]))))))⟩
def cRotate (fw : FuncId) : VF := ⟨5, [], (.seq (.region [⟨(.some 12), (.move (.t 2)), .none⟩, ⟨(.some 13), (.move (.t 1)), .none⟩, ⟨(.some 14), (.bin .sub (.t 12) (.t 13)), .none⟩, ⟨(.some 10), (.assign (.t 14)), .none⟩]) (.seq (.region [⟨(.some 15), (.move (.t 3)), .none⟩, ⟨(.some 16), (.move (.t 2)), .none⟩, ⟨(.some 17), (.bin .sub (.t 15) (.t 16)), .none⟩, ⟨(.some 11), (.assign (.t 17)), .none⟩]) (.seq (.block 0 (.loop (.seq (.seq (.region [⟨(.some 18), (.move (.t 10)), .none⟩, ⟨(.some 19), (.move (.t 11)), .none⟩, ⟨(.some 20), (.bin .neq (.t 18) (.t 19)), .none⟩]) (.cond (.t 20) .skip (.exit 0))) (.block 1 (.seq (.region [⟨(.some 21), (.move (.t 10)), .none⟩, ⟨(.some 22), (.move (.t 11)), .none⟩, ⟨(.some 23), (.bin .gtr (.t 21) (.t 22)), .none⟩]) (.cond (.t 23) (.seq (.region [⟨(.some 24), (.move (.t 0)), .none⟩, ⟨(.some 25), (.move (.t 2)), .none⟩, ⟨(.some 26), (.move (.t 10)), .none⟩, ⟨(.some 27), (.bin .sub (.t 25) (.t 26)), .none⟩, ⟨(.some 28), (.move (.t 2)), .none⟩, ⟨(.some 29), (.move (.t 11)), .none⟩, ⟨(.some 30), (.move (.t 4)), .none⟩, ⟨(.some 31), (.call (.k (.fn (.func fw) [])) [(.t 24), (.t 27), (.t 28), (.t 29), (.t 30)]), .none⟩]) (.region [⟨(.some 32), (.move (.t 10)), .none⟩, ⟨(.some 33), (.move (.t 11)), .none⟩, ⟨(.some 34), (.bin .sub (.t 32) (.t 33)), .none⟩, ⟨(.some 10), (.assign (.t 34)), .none⟩])) (.seq (.region [⟨(.some 35), (.move (.t 0)), .none⟩, ⟨(.some 36), (.move (.t 2)), .none⟩, ⟨(.some 37), (.move (.t 10)), .none⟩, ⟨(.some 38), (.bin .sub (.t 36) (.t 37)), .none⟩, ⟨(.some 39), (.move (.t 2)), .none⟩, ⟨(.some 40), (.move (.t 11)), .none⟩, ⟨(.some 41), (.bin .add (.t 39) (.t 40)), .none⟩, ⟨(.some 42), (.move (.t 10)), .none⟩, ⟨(.some 43), (.bin .sub (.t 41) (.t 42)), .none⟩, ⟨(.some 44), (.move (.t 10)), .none⟩, ⟨(.some 45), (.move (.t 4)), .none⟩, ⟨(.some 46), (.call (.k (.fn (.func fw) [])) [(.t 35), (.t 38), (.t 43), (.t 44), (.t 45)]), .none⟩]) (.region [⟨(.some 47), (.move (.t 11)), .none⟩, ⟨(.some 48), (.move (.t 10)), .none⟩, ⟨(.some 49), (.bin .sub (.t 47) (.t 48)), .none⟩, ⟨(.some 11), (.assign (.t 49)), .none⟩])))))))) (.region [⟨(.some 50), (.move (.t 0)), .none⟩, ⟨(.some 51), (.move (.t 2)), .none⟩, ⟨(.some 52), (.move (.t 10)), .none⟩, ⟨(.some 53), (.bin .sub (.t 51) (.t 52)), .none⟩, ⟨(.some 54), (.move (.t 2)), .none⟩, ⟨(.some 55), (.move (.t 10)), .none⟩, ⟨(.some 56), (.move (.t 4)), .none⟩, ⟨(.some 57), (.call (.k (.fn (.func fw) [])) [(.t 50), (.t 53), (.t 54), (.t 55), (.t 56)]), .none⟩]))))⟩
def cMergeG (ag : Option Nat) (n : Nat) (fr fm : FuncId) : VF := ⟨5, [], (.seq (.seq (.region [⟨(.some 25), (.move (.t 2)), .none⟩, ⟨(.some 26), (.move (.t 1)), .none⟩, ⟨(.some 27), (.bin .sub (.t 25) (.t 26)), .none⟩, ⟨(.some 28), (.bin .eql (.t 27) (.k (.int .i64 1))), .none⟩]) (.cond (.t 28) (.seq (.region [⟨(.some 29), (.move (.t 2)), .none⟩, ⟨(.some 10), (.assign (.t 29)), .none⟩]) (.seq (.region [⟨(.some 30), (.move (.t 3)), .none⟩, ⟨(.some 11), (.assign (.t 30)), .none⟩]) (.seq (.block 0 (.loop (.seq (.seq (.region [⟨(.some 31), (.move (.t 10)), .none⟩, ⟨(.some 32), (.move (.t 11)), .none⟩, ⟨(.some 33), (.bin .lss (.t 31) (.t 32)), .none⟩]) (.cond (.t 33) .skip (.exit 0))) (.block 1 (.seq (.region [⟨(.some 34), (.move (.t 10)), .none⟩, ⟨(.some 35), (.move (.t 11)), .none⟩, ⟨(.some 36), (.bin .add (.t 34) (.t 35)), .none⟩, ⟨(.some 37), (.cint .u64 (.t 36)), .none⟩, ⟨(.some 38), (.bin .shr (.t 37) (.k (.int .u64 1))), .none⟩, ⟨(.some 39), (.cint .i64 (.t 38)), .none⟩, ⟨(.some 12), (.assign (.t 39)), .none⟩]) (.seq (.region [⟨(.some 40), (.move (.t 4)), .none⟩, ⟨(.some 41), (.move (.t 0)), .none⟩, ⟨(.some 42), (.move (.t 12)), .none⟩, ⟨(.some 43), (.iaddrSl n (.t 41) (.t 42)), .none⟩, ⟨(.some 44), (.load ag (.t 43)), .none⟩, ⟨(.some 45), (.move (.t 0)), .none⟩, ⟨(.some 46), (.move (.t 1)), .none⟩, ⟨(.some 47), (.iaddrSl n (.t 45) (.t 46)), .none⟩, ⟨(.some 48), (.load ag (.t 47)), .none⟩, ⟨(.some 49), (.callP (.t 40) [(.t 44), (.t 48)]), .none⟩, ⟨(.some 50), (.bin .lss (.t 49) (.k (.int .i64 0))), .none⟩]) (.cond (.t 50) (.region [⟨(.some 51), (.move (.t 12)), .none⟩, ⟨(.some 52), (.bin .add (.t 51) (.k (.int .i64 1))), .none⟩, ⟨(.some 10), (.assign (.t 52)), .none⟩]) (.region [⟨(.some 53), (.move (.t 12)), .none⟩, ⟨(.some 11), (.assign (.t 53)), .none⟩])))))))) (.seq (.seq (.region [⟨(.some 54), (.move (.t 1)), .none⟩, ⟨(.some 13), (.assign (.t 54)), .none⟩]) (.block 2 (.loop (.seq (.seq (.region [⟨(.some 55), (.move (.t 13)), .none⟩, ⟨(.some 56), (.move (.t 10)), .none⟩, ⟨(.some 57), (.bin .sub (.t 56) (.k (.int .i64 1))), .none⟩, ⟨(.some 58), (.bin .lss (.t 55) (.t 57)), .none⟩]) (.cond (.t 58) .skip (.exit 2))) (.seq (.block 3 (.region [⟨(.some 61), (.move (.t 0)), .none⟩, ⟨(.some 62), (.move (.t 13)), .none⟩, ⟨(.some 63), (.move (.t 0)), .none⟩, ⟨(.some 64), (.move (.t 13)), .none⟩, ⟨(.some 65), (.bin .add (.t 64) (.k (.int .i64 1))), .none⟩, ⟨(.some 66), (.move (.t 0)), .none⟩, ⟨(.some 67), (.move (.t 13)), .none⟩, ⟨(.some 68), (.bin .add (.t 67) (.k (.int .i64 1))), .none⟩, ⟨(.some 69), (.iaddrSl n (.t 66) (.t 68)), .none⟩, ⟨(.some 70), (.load ag (.t 69)), .none⟩, ⟨(.some 71), (.move (.t 0)), .none⟩, ⟨(.some 72), (.move (.t 13)), .none⟩, ⟨(.some 73), (.iaddrSl n (.t 71) (.t 72)), .none⟩, ⟨(.some 74), (.load ag (.t 73)), .none⟩, ⟨(.some 75), (.iaddrSl n (.t 61) (.t 62)), .none⟩, ⟨.none, (.store n (.t 75) (.t 70)), .none⟩, ⟨(.some 76), (.iaddrSl n (.t 63) (.t 65)), .none⟩, ⟨.none, (.store n (.t 76) (.t 74)), .none⟩])) (.region [⟨(.some 59), (.move (.t 13)), .none⟩, ⟨(.some 60), (.bin .add (.t 59) (.k (.int .i64 1))), .none⟩, ⟨(.some 13), (.assign (.t 60)), .none⟩])))))) .ret)))) .skip)) (.seq (.seq (.region [⟨(.some 77), (.move (.t 3)), .none⟩, ⟨(.some 78), (.move (.t 2)), .none⟩, ⟨(.some 79), (.bin .sub (.t 77) (.t 78)), .none⟩, ⟨(.some 80), (.bin .eql (.t 79) (.k (.int .i64 1))), .none⟩]) (.cond (.t 80) (.seq (.region [⟨(.some 81), (.move (.t 1)), .none⟩, ⟨(.some 14), (.assign (.t 81)), .none⟩]) (.seq (.region [⟨(.some 82), (.move (.t 2)), .none⟩, ⟨(.some 15), (.assign (.t 82)), .none⟩]) (.seq (.block 4 (.loop (.seq (.seq (.region [⟨(.some 83), (.move (.t 14)), .none⟩, ⟨(.some 84), (.move (.t 15)), .none⟩, ⟨(.some 85), (.bin .lss (.t 83) (.t 84)), .none⟩]) (.cond (.t 85) .skip (.exit 4))) (.block 5 (.seq (.region [⟨(.some 86), (.move (.t 14)), .none⟩, ⟨(.some 87), (.move (.t 15)), .none⟩, ⟨(.some 88), (.bin .add (.t 86) (.t 87)), .none⟩, ⟨(.some 89), (.cint .u64 (.t 88)), .none⟩, ⟨(.some 90), (.bin .shr (.t 89) (.k (.int .u64 1))), .none⟩, ⟨(.some 91), (.cint .i64 (.t 90)), .none⟩, ⟨(.some 16), (.assign (.t 91)), .none⟩]) (.seq (.region [⟨(.some 92), (.move (.t 4)), .none⟩, ⟨(.some 93), (.move (.t 0)), .none⟩, ⟨(.some 94), (.move (.t 2)), .none⟩, ⟨(.some 95), (.iaddrSl n (.t 93) (.t 94)), .none⟩, ⟨(.some 96), (.load ag (.t 95)), .none⟩, ⟨(.some 97), (.move (.t 0)), .none⟩, ⟨(.some 98), (.move (.t 16)), .none⟩, ⟨(.some 99), (.iaddrSl n (.t 97) (.t 98)), .none⟩, ⟨(.some 100), (.load ag (.t 99)), .none⟩, ⟨(.some 101), (.callP (.t 92) [(.t 96), (.t 100)]), .none⟩, ⟨(.some 102), (.bin .lss (.t 101) (.k (.int .i64 0))), .none⟩, ⟨(.some 103), (.un .not (.t 102)), .none⟩]) (.cond (.t 103) (.region [⟨(.some 104), (.move (.t 16)), .none⟩, ⟨(.some 105), (.bin .add (.t 104) (.k (.int .i64 1))), .none⟩, ⟨(.some 14), (.assign (.t 105)), .none⟩]) (.region [⟨(.some 106), (.move (.t 16)), .none⟩, ⟨(.some 15), (.assign (.t 106)), .none⟩])))))))) (.seq (.seq (.region [⟨(.some 107), (.move (.t 2)), .none⟩, ⟨(.some 17), (.assign (.t 107)), .none⟩]) (.block 6 (.loop (.seq (.seq (.region [⟨(.some 108), (.move (.t 17)), .none⟩, ⟨(.some 109), (.move (.t 14)), .none⟩, ⟨(.some 110), (.bin .gtr (.t 108) (.t 109)), .none⟩]) (.cond (.t 110) .skip (.exit 6))) (.seq (.block 7 (.region [⟨(.some 113), (.move (.t 0)), .none⟩, ⟨(.some 114), (.move (.t 17)), .none⟩, ⟨(.some 115), (.move (.t 0)), .none⟩, ⟨(.some 116), (.move (.t 17)), .none⟩, ⟨(.some 117), (.bin .sub (.t 116) (.k (.int .i64 1))), .none⟩, ⟨(.some 118), (.move (.t 0)), .none⟩, ⟨(.some 119), (.move (.t 17)), .none⟩, ⟨(.some 120), (.bin .sub (.t 119) (.k (.int .i64 1))), .none⟩, ⟨(.some 121), (.iaddrSl n (.t 118) (.t 120)), .none⟩, ⟨(.some 122), (.load ag (.t 121)), .none⟩, ⟨(.some 123), (.move (.t 0)), .none⟩, ⟨(.some 124), (.move (.t 17)), .none⟩, ⟨(.some 125), (.iaddrSl n (.t 123) (.t 124)), .none⟩, ⟨(.some 126), (.load ag (.t 125)), .none⟩, ⟨(.some 127), (.iaddrSl n (.t 113) (.t 114)), .none⟩, ⟨.none, (.store n (.t 127) (.t 122)), .none⟩, ⟨(.some 128), (.iaddrSl n (.t 115) (.t 117)), .none⟩, ⟨.none, (.store n (.t 128) (.t 126)), .none⟩])) (.region [⟨(.some 111), (.move (.t 17)), .none⟩, ⟨(.some 112), (.bin .sub (.t 111) (.k (.int .i64 1))), .none⟩, ⟨(.some 17), (.assign (.t 112)), .none⟩])))))) .ret)))) .skip)) (.seq (.region [⟨(.some 129), (.move (.t 1)), .none⟩, ⟨(.some 130), (.move (.t 3)), .none⟩, ⟨(.some 131), (.bin .add (.t 129) (.t 130)), .none⟩, ⟨(.some 132), (.cint .u64 (.t 131)), .none⟩, ⟨(.some 133), (.bin .shr (.t 132) (.k (.int .u64 1))), .none⟩, ⟨(.some 134), (.cint .i64 (.t 133)), .none⟩, ⟨(.some 18), (.assign (.t 134)), .none⟩]) (.seq (.region [⟨(.some 135), (.move (.t 18)), .none⟩, ⟨(.some 136), (.move (.t 2)), .none⟩, ⟨(.some 137), (.bin .add (.t 135) (.t 136)), .none⟩, ⟨(.some 19), (.assign (.t 137)), .none⟩]) (.seq (.region [⟨(.some 20), (.assign (.k (.int .i64 0))), .none⟩, ⟨(.some 21), (.assign (.k (.int .i64 0))), .none⟩]) (.seq (.seq (.region [⟨(.some 138), (.move (.t 2)), .none⟩, ⟨(.some 139), (.move (.t 18)), .none⟩, ⟨(.some 140), (.bin .gtr (.t 138) (.t 139)), .none⟩]) (.cond (.t 140) (.seq (.region [⟨(.some 141), (.move (.t 19)), .none⟩, ⟨(.some 142), (.move (.t 3)), .none⟩, ⟨(.some 143), (.bin .sub (.t 141) (.t 142)), .none⟩, ⟨(.some 20), (.assign (.t 143)), .none⟩]) (.region [⟨(.some 144), (.move (.t 18)), .none⟩, ⟨(.some 21), (.assign (.t 144)), .none⟩])) (.seq (.region [⟨(.some 145), (.move (.t 1)), .none⟩, ⟨(.some 20), (.assign (.t 145)), .none⟩]) (.region [⟨(.some 146), (.move (.t 2)), .none⟩, ⟨(.some 21), (.assign (.t 146)), .none⟩])))) (.seq (.region [⟨(.some 147), (.move (.t 19)), .none⟩, ⟨(.some 148), (.bin .sub (.t 147) (.k (.int .i64 1))), .none⟩, ⟨(.some 22), (.assign (.t 148)), .none⟩]) (.seq (.block 8 (.loop (.seq (.seq (.region [⟨(.some 149), (.move (.t 20)), .none⟩, ⟨(.some 150), (.move (.t 21)), .none⟩, ⟨(.some 151), (.bin .lss (.t 149) (.t 150)), .none⟩]) (.cond (.t 151) .skip (.exit 8))) (.block 9 (.seq (.region [⟨(.some 152), (.move (.t 20)), .none⟩, ⟨(.some 153), (.move (.t 21)), .none⟩, ⟨(.some 154), (.bin .add (.t 152) (.t 153)), .none⟩, ⟨(.some 155), (.cint .u64 (.t 154)), .none⟩, ⟨(.some 156), (.bin .shr (.t 155) (.k (.int .u64 1))), .none⟩, ⟨(.some 157), (.cint .i64 (.t 156)), .none⟩, ⟨(.some 23), (.assign (.t 157)), .none⟩]) (.seq (.region [⟨(.some 158), (.move (.t 4)), .none⟩, ⟨(.some 159), (.move (.t 0)), .none⟩, ⟨(.some 160), (.move (.t 22)), .none⟩, ⟨(.some 161), (.move (.t 23)), .none⟩, ⟨(.some 162), (.bin .sub (.t 160) (.t 161)), .none⟩, ⟨(.some 163), (.iaddrSl n (.t 159) (.t 162)), .none⟩, ⟨(.some 164), (.load ag (.t 163)), .none⟩, ⟨(.some 165), (.move (.t 0)), .none⟩, ⟨(.some 166), (.move (.t 23)), .none⟩, ⟨(.some 167), (.iaddrSl n (.t 165) (.t 166)), .none⟩, ⟨(.some 168), (.load ag (.t 167)), .none⟩, ⟨(.some 169), (.callP (.t 158) [(.t 164), (.t 168)]), .none⟩, ⟨(.some 170), (.bin .lss (.t 169) (.k (.int .i64 0))), .none⟩, ⟨(.some 171), (.un .not (.t 170)), .none⟩]) (.cond (.t 171) (.region [⟨(.some 172), (.move (.t 23)), .none⟩, ⟨(.some 173), (.bin .add (.t 172) (.k (.int .i64 1))), .none⟩, ⟨(.some 20), (.assign (.t 173)), .none⟩]) (.region [⟨(.some 174), (.move (.t 23)), .none⟩, ⟨(.some 21), (.assign (.t 174)), .none⟩])))))))) (.seq (.region [⟨(.some 175), (.move (.t 19)), .none⟩, ⟨(.some 176), (.move (.t 20)), .none⟩, ⟨(.some 177), (.bin .sub (.t 175) (.t 176)), .none⟩, ⟨(.some 24), (.assign (.t 177)), .none⟩]) (.seq (.seq (.region [⟨(.some 178), (.move (.t 20)), .none⟩, ⟨(.some 179), (.move (.t 2)), .none⟩, ⟨(.some 180), (.bin .lss (.t 178) (.t 179)), .none⟩, ⟨(.some 181), (.move (.t 180)), .none⟩, ⟨(.some 182), (.move (.t 2)), (.some (181, .true))⟩, ⟨(.some 183), (.move (.t 24)), (.some (181, .true))⟩, ⟨(.some 184), (.bin .lss (.t 182) (.t 183)), (.some (181, .true))⟩, ⟨(.some 185), (.pick (.t 181) (.t 184) (.k (.bool .false))), .none⟩]) (.cond (.t 185) (.region [⟨(.some 186), (.move (.t 0)), .none⟩, ⟨(.some 187), (.move (.t 20)), .none⟩, ⟨(.some 188), (.move (.t 2)), .none⟩, ⟨(.some 189), (.move (.t 24)), .none⟩, ⟨(.some 190), (.move (.t 4)), .none⟩, ⟨(.some 191), (.call (.k (.fn (.func fr) [])) [(.t 186), (.t 187), (.t 188), (.t 189), (.t 190)]), .none⟩]) .skip)) (.seq (.seq (.region [⟨(.some 192), (.move (.t 1)), .none⟩, ⟨(.some 193), (.move (.t 20)), .none⟩, ⟨(.some 194), (.bin .lss (.t 192) (.t 193)), .none⟩, ⟨(.some 195), (.move (.t 194)), .none⟩, ⟨(.some 196), (.move (.t 20)), (.some (195, .true))⟩, ⟨(.some 197), (.move (.t 18)), (.some (195, .true))⟩, ⟨(.some 198), (.bin .lss (.t 196) (.t 197)), (.some (195, .true))⟩, ⟨(.some 199), (.pick (.t 195) (.t 198) (.k (.bool .false))), .none⟩]) (.cond (.t 199) (.region [⟨(.some 200), (.move (.t 0)), .none⟩, ⟨(.some 201), (.move (.t 1)), .none⟩, ⟨(.some 202), (.move (.t 20)), .none⟩, ⟨(.some 203), (.move (.t 18)), .none⟩, ⟨(.some 204), (.move (.t 4)), .none⟩, ⟨(.some 205), (.call (.k (.fn (.func fm) [])) [(.t 200), (.t 201), (.t 202), (.t 203), (.t 204)]), .none⟩]) .skip)) (.seq (.region [⟨(.some 206), (.move (.t 18)), .none⟩, ⟨(.some 207), (.move (.t 24)), .none⟩, ⟨(.some 208), (.bin .lss (.t 206) (.t 207)), .none⟩, ⟨(.some 209), (.move (.t 208)), .none⟩, ⟨(.some 210), (.move (.t 24)), (.some (209, .true))⟩, ⟨(.some 211), (.move (.t 3)), (.some (209, .true))⟩, ⟨(.some 212), (.bin .lss (.t 210) (.t 211)), (.some (209, .true))⟩, ⟨(.some 213), (.pick (.t 209) (.t 212) (.k (.bool .false))), .none⟩]) (.cond (.t 213) (.region [⟨(.some 214), (.move (.t 0)), .none⟩, ⟨(.some 215), (.move (.t 18)), .none⟩, ⟨(.some 216), (.move (.t 24)), .none⟩, ⟨(.some 217), (.move (.t 3)), .none⟩, ⟨(.some 218), (.move (.t 4)), .none⟩, ⟨(.some 219), (.call (.k (.fn (.func fm) [])) [(.t 214), (.t 215), (.t 216), (.t 217), (.t 218)]), .none⟩]) .skip)))))))))))))⟩
def cStable (fi fm : FuncId) : VF := ⟨3, [], (.seq (.region [⟨(.some 6), (.assign (.k (.int .i64 20))), .none⟩]) (.seq (.region [⟨(.some 10), (.move (.t 6)), .none⟩, ⟨(.some 7), (.assign (.k (.int .i64 0))), .none⟩, ⟨(.some 8), (.assign (.t 10)), .none⟩]) (.seq (.block 0 (.loop (.seq (.seq (.region [⟨(.some 11), (.move (.t 8)), .none⟩, ⟨(.some 12), (.move (.t 1)), .none⟩, ⟨(.some 13), (.bin .leq (.t 11) (.t 12)), .none⟩]) (.cond (.t 13) .skip (.exit 0))) (.block 1 (.seq (.region [⟨(.some 14), (.move (.t 0)), .none⟩, ⟨(.some 15), (.move (.t 7)), .none⟩, ⟨(.some 16), (.move (.t 8)), .none⟩, ⟨(.some 17), (.move (.t 2)), .none⟩, ⟨(.some 18), (.call (.k (.fn (.func fi) [])) [(.t 14), (.t 15), (.t 16), (.t 17)]), .none⟩]) (.seq (.region [⟨(.some 19), (.move (.t 8)), .none⟩, ⟨(.some 7), (.assign (.t 19)), .none⟩]) (.region [⟨(.some 20), (.move (.t 8)), .none⟩, ⟨(.some 21), (.move (.t 6)), .none⟩, ⟨(.some 22), (.bin .add (.t 20) (.t 21)), .none⟩, ⟨(.some 8), (.assign (.t 22)), .none⟩]))))))) (.seq (.region [⟨(.some 23), (.move (.t 0)), .none⟩, ⟨(.some 24), (.move (.t 7)), .none⟩, ⟨(.some 25), (.move (.t 1)), .none⟩, ⟨(.some 26), (.move (.t 2)), .none⟩, ⟨(.some 27), (.call (.k (.fn (.func fi) [])) [(.t 23), (.t 24), (.t 25), (.t 26)]), .none⟩]) (.block 2 (.loop (.seq (.seq (.region [⟨(.some 28), (.move (.t 6)), .none⟩, ⟨(.some 29), (.move (.t 1)), .none⟩, ⟨(.some 30), (.bin .lss (.t 28) (.t 29)), .none⟩]) (.cond (.t 30) .skip (.exit 2))) (.block 3 (.seq (.region [⟨(.some 31), (.move (.t 6)), .none⟩, ⟨(.some 32), (.bin .mul (.k (.int .i64 2)) (.t 31)), .none⟩, ⟨(.some 7), (.assign (.k (.int .i64 0))), .none⟩, ⟨(.some 8), (.assign (.t 32)), .none⟩]) (.seq (.block 4 (.loop (.seq (.seq (.region [⟨(.some 33), (.move (.t 8)), .none⟩, ⟨(.some 34), (.move (.t 1)), .none⟩, ⟨(.some 35), (.bin .leq (.t 33) (.t 34)), .none⟩]) (.cond (.t 35) .skip (.exit 4))) (.block 5 (.seq (.region [⟨(.some 36), (.move (.t 0)), .none⟩, ⟨(.some 37), (.move (.t 7)), .none⟩, ⟨(.some 38), (.move (.t 7)), .none⟩, ⟨(.some 39), (.move (.t 6)), .none⟩, ⟨(.some 40), (.bin .add (.t 38) (.t 39)), .none⟩, ⟨(.some 41), (.move (.t 8)), .none⟩, ⟨(.some 42), (.move (.t 2)), .none⟩, ⟨(.some 43), (.call (.k (.fn (.func fm) [])) [(.t 36), (.t 37), (.t 40), (.t 41), (.t 42)]), .none⟩]) (.seq (.region [⟨(.some 44), (.move (.t 8)), .none⟩, ⟨(.some 7), (.assign (.t 44)), .none⟩]) (.region [⟨(.some 45), (.move (.t 8)), .none⟩, ⟨(.some 46), (.move (.t 6)), .none⟩, ⟨(.some 47), (.bin .mul (.k (.int .i64 2)) (.t 46)), .none⟩, ⟨(.some 48), (.bin .add (.t 45) (.t 47)), .none⟩, ⟨(.some 8), (.assign (.t 48)), .none⟩]))))))) (.seq (.seq (.region [⟨(.some 49), (.move (.t 7)), .none⟩, ⟨(.some 50), (.move (.t 6)), .none⟩, ⟨(.some 51), (.bin .add (.t 49) (.t 50)), .none⟩, ⟨(.some 9), (.assign (.t 51)), .none⟩]) (.seq (.region [⟨(.some 52), (.move (.t 9)), .none⟩, ⟨(.some 53), (.move (.t 1)), .none⟩, ⟨(.some 54), (.bin .lss (.t 52) (.t 53)), .none⟩]) (.cond (.t 54) (.region [⟨(.some 55), (.move (.t 0)), .none⟩, ⟨(.some 56), (.move (.t 7)), .none⟩, ⟨(.some 57), (.move (.t 9)), .none⟩, ⟨(.some 58), (.move (.t 1)), .none⟩, ⟨(.some 59), (.move (.t 2)), .none⟩, ⟨(.some 60), (.call (.k (.fn (.func fm) [])) [(.t 55), (.t 56), (.t 57), (.t 58), (.t 59)]), .none⟩]) .skip))) (.region [⟨(.some 61), (.move (.t 6)), .none⟩, ⟨(.some 62), (.bin .mul (.t 61) (.k (.int .i64 2))), .none⟩, ⟨(.some 6), (.assign (.t 62)), .none⟩]))))))))))))⟩
def cSortStable (ft : FuncId) : VF := ⟨2, [], (.region [⟨(.some 4), (.move (.t 0)), .none⟩, ⟨(.some 5), (.move (.t 0)), .none⟩, ⟨(.some 6), (.lenSl (.t 5)), .none⟩, ⟨(.some 7), (.move (.t 1)), .none⟩, ⟨(.some 8), (.call (.k (.fn (.func ft) [])) [(.t 4), (.t 6), (.t 7)]), .none⟩])⟩
def cInsert (n : Nat) : VF := cInsertG (some n) n
def cSwapR (n : Nat) : VF := cSwapRG (some n) n
def cMerge (n : Nat) (fr fm : FuncId) : VF := cMergeG (some n) n fr fm
end Go.Vm
/- Stable sorting in place: the contracts of the exchange of blocks and of the rotation. -/
namespace Go.Vm
section
variable {T : FuncId → Option VF} {α : Type}
set_option maxRecDepth 10000
set_option maxHeartbeats 4000000

/-- Elements that are runs of n plain cells. -/
structure Els (e : α → List AV) (n : Nat) : Prop where
  len : ∀ x, (e x).length = n
  view : ∀ x, (e x).map AV.view = e x
  one : ∀ x, (e x).all AV.one = true

/-- How such an element is read and written: as a whole, or as its one cell. -/
structure Elw (ag : Option Nat) (e : α → List AV) (wv : α → AV) (n : Nat) : Prop extends Els e n where
  vw : ∀ x, (wv x).view = wv x
  nl : ∀ x, (wv x).nl = true
  tk : ∀ s t x, takeV s t (wv x) = (wv x, s)
  get : ∀ (cs : List AV) (o : Nat) (x : α), o + n ≤ cs.length → (cs.drop o).take n = e x → part? ag cs o = some (wv x)
  put : ∀ (cs : List AV) (o : Nat) (x : α), o + n ≤ cs.length → stCells n o cs (wv x) = some (putCells cs o (e x))

theorem Els.agg {e : α → List AV} {n : Nat} (he : Els e n) : Elw (some n) e (fun x => .agg (e x)) n :=
  { he with
    vw := fun _ => rfl
    nl := fun _ => rfl
    tk := fun _ _ _ => rfl
    get := fun cs o x h h2 => by simp only [part?]; rw [if_pos h, h2]
    put := fun cs o x h => by rw [stCells_agg, if_pos ⟨he.len x, h, he.one x⟩, he.view] }

/-- The shared memory with a row of elements at place ix. -/
def mrow (e : α → List AV) (m : Mem) (ix : Nat) (xs : List α) : Mem := m.set ix (some (.cells false (rowc e xs)))
theorem mrow_self {e : α → List AV} {m : Mem} {ix : Nat} {xs : List α} (h : m[ix]? = some (some (.cells false (rowc e xs)))) : mrow e m ix xs = m := by
  obtain ⟨hl, he⟩ := List.getElem?_eq_some_iff.1 h
  unfold mrow
  rw [← he]; exact List.set_getElem_self hl
@[simp] theorem mrow_len {e : α → List AV} {m : Mem} {ix : Nat} {xs : List α} : (mrow e m ix xs).length = m.length := by simp [mrow]
theorem mrow_get {e : α → List AV} {m : Mem} {ix : Nat} {xs : List α} (h : ix < m.length) : (mrow e m ix xs)[ix]? = some (some (.cells false (rowc e xs))) := by simp [mrow, h]
@[simp] theorem mrow_set {e : α → List AV} {m : Mem} {ix : Nat} {xs ys : List α} : (mrow e m ix xs).set ix (some (.cells false (rowc e ys))) = mrow e m ix ys := by simp [mrow]
@[simp] theorem mrow_mrow {e : α → List AV} {m : Mem} {ix : Nat} {xs ys : List α} : mrow e (mrow e m ix xs) ix ys = mrow e m ix ys := by simp [mrow]

theorem part_row {ag : Option Nat} {wv : α → AV} {e : α → List AV} {n : Nat} (he : Elw ag e wv n) {xs : List α} {i : Nat} {v : α} (h : xs[i]? = some v) : part? ag (rowc e xs) (i * n) = some (wv v) := by
  obtain ⟨hl, hv⟩ := List.getElem?_eq_some_iff.1 h
  have h2 : i * n + n ≤ (rowc e xs).length := by
    rw [rowc_len he.len]
    have := Nat.mul_le_mul_right n (show i + 1 ≤ xs.length from hl)
    rw [Nat.succ_mul] at this; exact this
  exact he.get _ _ v h2 (by rw [rowc_get he.len hl, hv])
theorem st_row {ag : Option Nat} {wv : α → AV} {e : α → List AV} {n : Nat} (he : Elw ag e wv n) {xs : List α} {i : Nat} {v : α} (hl : i < xs.length) : stCells n (i * n) (rowc e xs) (wv v) = some (rowc e (xs.set i v)) := by
  have h2 : i * n + n ≤ (rowc e xs).length := by
    rw [rowc_len he.len]
    have := Nat.mul_le_mul_right n (show i + 1 ≤ xs.length from hl)
    rw [Nat.succ_mul] at this; exact this
  rw [he.put _ _ v h2, rowc_set he.len hl]

/-- Two elements change places. -/
def swp (d : List α) (i j : Nat) (x y : α) : List α := (d.set i y).set j x

theorem get_mid {A B : List α} {x : α} {i : Nat} (h : i = A.length) : (A ++ x :: B)[i]? = some x := by subst h; simp
theorem set_mid {A B : List α} {x y : α} {i : Nat} (h : i = A.length) : (A ++ x :: B).set i y = A ++ y :: B := by subst h; simp

theorem ct_swapR {ag : Option Nat} {wv : α → AV} {f ix : Nat} {n : Nat} (hT : T f = some (cSwapRG ag n)) {e : α → List AV} (he : Elw ag e wv n) {m : Mem} (hix : ix < m.length) (g : AV) {P A M B S : List α} (hl : A.length = B.length)
    {N a b : Nat} {d : List α} (hd : d = P ++ A ++ M ++ B ++ S) (hN : N = d.length) (hmax : N < 2305843009213693952) (ha : a = P.length) (hb : b = P.length + A.length + M.length) (k : Nat) (hk : k = A.length) :
    callL T f [.row (.mem ix) 0 N, .int .i64 a, .int .i64 b, .int .i64 k, g] (mrow e m ix d) = some (.tup [], mrow e m ix (P ++ B ++ M ++ A ++ S)) := by
  apply callL_body hT rfl
  simp [cSwapRG]
  refine wp_loop (fun w s => ∃ A1 A2 B1 B2 : List α, A = A1 ++ A2 ∧ B = B1 ++ B2 ∧ A1.length = B1.length ∧ w = A2.length ∧ s.get 0 = .row (.mem ix) 0 N ∧ s.get 1 = .int .i64 a ∧ s.get 2 = .int .i64 b ∧ s.get 3 = .int .i64 k ∧ s.get 10 = .int .i64 A1.length ∧ s.mem = mrow e m ix (P ++ B1 ++ A2 ++ M ++ A1 ++ B2 ++ S)) ?_ A.length _ ?_
  rotate_left
  · exact ⟨[], A, [], B, by simp, by simp, by simp, by simp, by simp, by simp, by simp, by simp, by simp, by simp [hd]⟩
  rintro w s ⟨A1, A2, B1, B2, hA, hB, hl1, hw, e0, e1, e2, e3, e10, hm⟩
  have hkl : k = A1.length + A2.length := by rw [hk, hA]; simp
  have hl2 : A2.length = B2.length := by
    have := hl; rw [hA, hB] at this; simp at this; omega
  have hNl : N = P.length + A.length + M.length + B.length + S.length := by rw [hN, hd]; simp; omega
  have hAl : A.length = A1.length + A2.length := by rw [hA]; simp
  have hBl : B.length = B1.length + B2.length := by rw [hB]; simp
  cases A2 with
  | nil =>
    have hB2 : B2 = [] := List.length_eq_zero_iff.1 (by simpa using hl2.symm)
    subst hB2
    have hno : ¬ (A1.length : Int) < k := by simp at hkl; omega
    simp [e0, e1, e2, e3, e10, hm, hno]
    simp at hA hB
    rw [hA, hB]
  | cons x A2 =>
    cases B2 with
    | nil => simp at hl2
    | cons y B2 =>
      simp at hkl hAl hBl
      have hlt : (A1.length : Int) < k := by omega
      have w1 : IntKind.wrap .i64 ((A1.length : Int) + 1) = (A1.length : Int) + 1 := wrap64 (by omega) (by omega)
      have w2 : IntKind.wrap .i64 ((a : Int) + A1.length) = ((P ++ B1).length : Nat) := by rw [wrap64 (by omega) (by omega)]; simp; omega
      have w3 : IntKind.wrap .i64 ((b : Int) + A1.length) = ((P ++ B1 ++ x :: A2 ++ M ++ A1).length : Nat) := by rw [wrap64 (by omega) (by omega)]; simp; omega
      generalize hi : (P ++ B1).length = i at w2
      generalize hj : (P ++ B1 ++ x :: A2 ++ M ++ A1).length = j at w3
      have p1 := part_row he (xs := P ++ B1 ++ x :: A2 ++ M ++ A1 ++ y :: B2 ++ S) (i := j) (v := y) (by
        rw [show P ++ B1 ++ x :: A2 ++ M ++ A1 ++ y :: B2 ++ S = (P ++ B1 ++ x :: A2 ++ M ++ A1) ++ y :: (B2 ++ S) by simp]
        exact get_mid hj.symm)
      have p2 := part_row he (xs := P ++ B1 ++ x :: A2 ++ M ++ A1 ++ y :: B2 ++ S) (i := i) (v := x) (by
        rw [show P ++ B1 ++ x :: A2 ++ M ++ A1 ++ y :: B2 ++ S = (P ++ B1) ++ x :: (A2 ++ M ++ A1 ++ y :: B2 ++ S) by simp]
        exact get_mid hi.symm)
      have q1 := st_row he (xs := P ++ B1 ++ x :: A2 ++ M ++ A1 ++ y :: B2 ++ S) (i := i) (v := y) (by simp at hi ⊢; omega)
      rw [show (P ++ B1 ++ x :: A2 ++ M ++ A1 ++ y :: B2 ++ S).set i y = P ++ B1 ++ y :: A2 ++ M ++ A1 ++ y :: B2 ++ S by
        rw [show P ++ B1 ++ x :: A2 ++ M ++ A1 ++ y :: B2 ++ S = (P ++ B1) ++ x :: (A2 ++ M ++ A1 ++ y :: B2 ++ S) by simp, set_mid hi.symm]; simp] at q1
      have q2 := st_row he (xs := P ++ B1 ++ y :: A2 ++ M ++ A1 ++ y :: B2 ++ S) (i := j) (v := x) (by simp at hj ⊢; omega)
      rw [show (P ++ B1 ++ y :: A2 ++ M ++ A1 ++ y :: B2 ++ S).set j x = P ++ (B1 ++ [y]) ++ A2 ++ M ++ (A1 ++ [x]) ++ B2 ++ S by
        rw [show P ++ B1 ++ y :: A2 ++ M ++ A1 ++ y :: B2 ++ S = (P ++ B1 ++ y :: A2 ++ M ++ A1) ++ y :: (B2 ++ S) by simp, set_mid (by simp at hj ⊢; omega)]; simp] at q2
      have hiN : (i : Int) < N := by simp at hi; omega
      have hjN : (j : Int) < N := by simp at hj; omega
      have g1 := mrow_get (e := e) (m := m) (ix := ix) (xs := P ++ B1 ++ x :: A2 ++ M ++ A1 ++ y :: B2 ++ S) hix
      have g2 := mrow_get (e := e) (m := m) (ix := ix) (xs := P ++ B1 ++ y :: A2 ++ M ++ A1 ++ y :: B2 ++ S) hix
      generalize hD : P ++ B1 ++ x :: A2 ++ M ++ A1 ++ y :: B2 ++ S = D at *
      generalize hD2 : P ++ B1 ++ y :: A2 ++ M ++ A1 ++ y :: B2 ++ S = D2 at *
      generalize hD3 : P ++ (B1 ++ [y]) ++ A2 ++ M ++ (A1 ++ [x]) ++ B2 ++ S = D3 at *
      simp [e0, e1, e2, e3, e10, hm, hlt, w1, w2, w3, hiN, hjN, g1, g2, p1, p2, he.tk, q1, q2, -part_some, -stCells_agg]
      exact ⟨A2.length, by simp at hw; omega, A1 ++ [x], A2, by simp [hA], B1 ++ [y], B2, by simp [hB], by simp [hl1], rfl, by simp, by rw [← hD3]; simp⟩

theorem ct_rotate {ag : Option Nat} {wv : α → AV} {f fw ix : Nat} {n : Nat} (hT : T f = some (cRotate fw)) (hTw : T fw = some (cSwapRG ag n)) {e : α → List AV} (he : Elw ag e wv n) {m : Mem} (hix : ix < m.length) (g : AV) (hg : g.nl = true) (hgv : g.view = g) {P A B S : List α} (hA0 : A ≠ []) (hB0 : B ≠ [])
    {N a mm b : Nat} {d : List α} (hd : d = P ++ A ++ B ++ S) (hN : N = d.length) (hmax : N < 2305843009213693952) (ha : a = P.length) (hmm : mm = P.length + A.length) (hb : b = P.length + A.length + B.length) :
    callL T f [.row (.mem ix) 0 N, .int .i64 a, .int .i64 mm, .int .i64 b, g] (mrow e m ix d) = some (.tup [], mrow e m ix (P ++ B ++ A ++ S)) := by
  have hAp := List.length_pos_iff.2 hA0
  have hBp := List.length_pos_iff.2 hB0
  have hNl : N = P.length + A.length + B.length + S.length := by rw [hN, hd]; simp; omega
  apply callL_body hT rfl
  have w1 : IntKind.wrap .i64 ((mm : Int) - a) = (A.length : Nat) := by rw [wrap64 (by omega) (by omega)]; omega
  have w2 : IntKind.wrap .i64 ((b : Int) - mm) = (B.length : Nat) := by rw [wrap64 (by omega) (by omega)]; omega
  simp [cRotate, w1, w2]
  refine wp_loop (fun w s => ∃ X U V Y : List α, w = U.length + V.length ∧ U ≠ [] ∧ V ≠ [] ∧ X.length + U.length = mm ∧ X.length + U.length + V.length + Y.length = N ∧ s.get 0 = .row (.mem ix) 0 N ∧ s.get 2 = .int .i64 mm ∧ s.get 4 = g ∧ s.get 10 = .int .i64 U.length ∧ s.get 11 = .int .i64 V.length ∧
    s.mem = mrow e m ix (X ++ U ++ V ++ Y) ∧ X ++ V ++ U ++ Y = P ++ B ++ A ++ S) ?_ (A.length + B.length) _ ?_
  rotate_left
  · exact ⟨P, A, B, S, rfl, hA0, hB0, by omega, by omega, by simp, by simp, by simp, by simp, by simp, by simp [hd], rfl⟩
  rintro w s ⟨X, U, V, Y, hw, hU, hV, hm1, hm2, e0, e2, e4, e10, e11, hm, htgt⟩
  have hUp := List.length_pos_iff.2 hU
  have hVp := List.length_pos_iff.2 hV
  have w3 : IntKind.wrap .i64 ((mm : Int) - U.length) = (X.length : Nat) := by rw [wrap64 (by omega) (by omega)]; omega
  by_cases h1 : U.length = V.length
  · have hc := ct_swapR hTw he hix g (P := X) (A := U) (M := []) (B := V) (S := Y) h1 (N := N) (a := X.length) (b := mm) (d := X ++ U ++ V ++ Y) (by simp) (by simp; omega) hmax rfl (by simp; omega) U.length rfl
    simp only [List.append_nil] at hc
    rw [htgt] at hc
    generalize X ++ U ++ V ++ Y = D at *
    simp [e0, e2, e4, e10, e11, hm, h1, hg, hgv]
    rw [h1] at w3 hc
    simp [w3, hc]
  by_cases h2 : V.length < U.length
  · obtain ⟨U1, U2, hU12, hU1⟩ : ∃ U1 U2, U = U1 ++ U2 ∧ U1.length = V.length := ⟨U.take V.length, U.drop V.length, by simp, by simp; omega⟩
    have hUl : U.length = U1.length + U2.length := by rw [hU12]; simp
    have hc := ct_swapR hTw he hix g (P := X) (A := U1) (M := U2) (B := V) (S := Y) hU1 (N := N) (a := X.length) (b := mm) (d := X ++ U ++ V ++ Y) (by rw [hU12]; simp) (by simp; omega) hmax rfl (by omega) V.length hU1.symm
    have w4 : IntKind.wrap .i64 ((U.length : Int) - V.length) = (U2.length : Nat) := by rw [wrap64 (by omega) (by omega)]; omega
    have hne : ¬ (U.length : Int) = V.length := by omega
    have hnx : ∃ X' U' V' Y' : List α, U'.length + V'.length < w ∧ U' ≠ [] ∧ V' ≠ [] ∧ X'.length + U'.length = mm ∧ X'.length + U'.length + V'.length + Y'.length = N ∧ U'.length = U2.length ∧ V'.length = V.length ∧ X' ++ U' ++ V' ++ Y' = X ++ V ++ U2 ++ U1 ++ Y ∧ X' ++ V' ++ U' ++ Y' = P ++ B ++ A ++ S := by
      refine ⟨X ++ V, U2, U1, Y, by omega, List.length_pos_iff.1 (by omega), List.length_pos_iff.1 (by omega), by simp; omega, by simp; omega, rfl, hU1, by simp, by rw [← htgt, hU12]; simp⟩
    obtain ⟨X', U', V', Y', n1, n2, n3, n4, n5, n6, n7, n8, n9⟩ := hnx
    rw [← n8] at hc
    generalize X ++ U ++ V ++ Y = D at *
    simp [e0, e2, e4, e10, e11, hm, h2, hne, w3, w4, hg, hgv, hc, -List.append_assoc]
    exact ⟨_, n1, X', U', V', rfl, n2, n3, n4, Y', n5, by omega, by omega, rfl, n9⟩
  · obtain ⟨V1, V2, hV12, hV2⟩ : ∃ V1 V2, V = V1 ++ V2 ∧ V2.length = U.length := ⟨V.take (V.length - U.length), V.drop (V.length - U.length), by simp, by simp; omega⟩
    have hVl : V.length = V1.length + V2.length := by rw [hV12]; simp
    have w5 : IntKind.wrap .i64 ((mm : Int) + V.length) = ((mm + V.length : Nat) : Int) := by rw [wrap64 (by omega) (by omega)]; omega
    have w6 : IntKind.wrap .i64 (((mm + V.length : Nat) : Int) - U.length) = ((X.length + U.length + V1.length : Nat) : Int) := by rw [wrap64 (by omega) (by omega)]; omega
    have hc := ct_swapR hTw he hix g (P := X) (A := U) (M := V1) (B := V2) (S := Y) hV2.symm (N := N) (a := X.length) (b := X.length + U.length + V1.length) (d := X ++ U ++ V ++ Y) (by rw [hV12]; simp) (by simp; omega) hmax rfl rfl U.length rfl
    have w4 : IntKind.wrap .i64 ((V.length : Int) - U.length) = (V1.length : Nat) := by rw [wrap64 (by omega) (by omega)]; omega
    have hne : ¬ (U.length : Int) = V.length := by omega
    have hnx : ∃ X' U' V' Y' : List α, U'.length + V'.length < w ∧ U' ≠ [] ∧ V' ≠ [] ∧ X'.length + U'.length = mm ∧ X'.length + U'.length + V'.length + Y'.length = N ∧ U'.length = U.length ∧ V'.length = V1.length ∧ X' ++ U' ++ V' ++ Y' = X ++ V2 ++ V1 ++ U ++ Y ∧ X' ++ V' ++ U' ++ Y' = P ++ B ++ A ++ S := by
      refine ⟨X, V2, V1, U ++ Y, by omega, List.length_pos_iff.1 (by omega), List.length_pos_iff.1 (by omega), by omega, by simp; omega, hV2, rfl, by simp, by rw [← htgt, hV12]; simp⟩
    obtain ⟨X', U', V', Y', n1, n2, n3, n4, n5, n6, n7, n8, n9⟩ := hnx
    rw [← n8] at hc
    generalize X ++ U ++ V ++ Y = D at *
    generalize hq : X.length + U.length + V1.length = q at *
    generalize hr : mm + V.length = r at *
    simp [e0, e2, e4, e10, e11, hm, h2, hne, w3, w4, w5, w6, hg, hgv, hc, -List.append_assoc]
    exact ⟨_, n1, X', U', V', rfl, n2, n3, n4, Y', n5, by omega, by omega, rfl, n9⟩
end
end Go.Vm
/- Sorting by insertion and by chunks, in plain Lean. -/
namespace Go.Vm.Stable
variable {α : Type} {lt : α → α → Bool}

theorem lt_le (hw : SWO lt) {v x y : α} (h : lt v x = true) (h2 : lt y x = false) : lt v y = true := by
  cases h3 : lt v y
  · have := hw.ntr x y v h2 h3
    rw [h] at this; cases this
  · rfl
theorem le_le (hw : SWO lt) {x y z : α} (h : lt y x = false) (h2 : lt z y = false) : lt z x = false := hw.ntr x y z h h2
theorem le_lt (hw : SWO lt) {v x y : α} (h : lt x v = false) (h2 : lt x y = true) : lt v y = true := by
  cases h3 : lt v y
  · have := hw.ntr y v x h3 h
    rw [h2] at this; cases this
  · rfl

def ins (lt : α → α → Bool) (B : List α) (v : α) : List α := B.takeWhile (fun x => !lt v x) ++ v :: B.dropWhile (fun x => !lt v x)
/-- The list in order. -/
def srt (lt : α → α → Bool) (A : List α) : List α := A.foldl (ins lt) []
theorem tw_mem {p : α → Bool} : ∀ {B : List α} {x : α}, x ∈ B.takeWhile p → p x = true
  | b :: B, x, h => by
    rw [List.takeWhile_cons] at h
    split at h
    · rcases List.mem_cons.1 h with rfl | h
      · assumption
      · exact tw_mem h
    · simp at h
theorem stab_ins (hw : SWO lt) {A B : List α} (h : Stab lt A B) (v : α) : Stab lt (A ++ [v]) (ins lt B v) := by
  have e : B.takeWhile (fun x => !lt v x) ++ B.dropWhile (fun x => !lt v x) = B := List.takeWhile_append_dropWhile
  refine stab_insert hw (by rw [e]; exact h) (fun x hx => by simpa using tw_mem hx) fun x hx => ?_
  have hs : Srt lt (B.dropWhile (fun x => !lt v x)) := Srt.right (A := B.takeWhile (fun x => !lt v x)) (by rw [e]; exact h.1)
  cases hd : B.dropWhile (fun x => !lt v x) with
  | nil => rw [hd] at hx; simp at hx
  | cons y C =>
    have hy : lt v y = true := by
      have := List.head_dropWhile_not (p := fun x => !lt v x) (l := B) (by rw [hd]; simp)
      simpa [hd] using this
    rw [hd] at hx hs
    rcases List.mem_cons.1 hx with rfl | hx
    · exact hy
    · exact lt_le hw hy ((List.pairwise_cons.1 hs).1 x hx)
theorem stab_srt (hw : SWO lt) (A : List α) : Stab lt A (srt lt A) := by
  have key : ∀ (A B C : List α), Stab lt C B → Stab lt (C ++ A) (A.foldl (ins lt) B) := by
    intro A
    induction A with
    | nil => intro B C h; simpa using h
    | cons v A ih =>
      intro B C h
      have := ih (ins lt B v) (C ++ [v]) (stab_ins hw h v)
      simpa using this
  have h := key A [] [] ⟨List.Pairwise.nil, .refl _, rfl⟩
  rw [List.nil_append] at h; exact h
theorem srt_eq (hw : SWO lt) {A B : List α} (h : Stab lt A B) : srt lt A = B := (stab_srt hw A).unique hw h
theorem srt_len (hw : SWO lt) (A : List α) : (srt lt A).length = A.length := (stab_srt hw A).2.2.symm
theorem srt_srt_app (hw : SWO lt) (X Y : List α) : srt lt (srt lt X ++ srt lt Y) = srt lt (X ++ Y) := by
  have hx := stab_srt hw X
  have hy := stab_srt hw Y
  have h := stab_srt hw (srt lt X ++ srt lt Y)
  refine (srt_eq hw ⟨h.1, (hx.2.1.app hy.2.1).trans h.2.1, ?_⟩).symm
  rw [← h.2.2]; simp [srt_len hw]

/-- Chunks of n elements, each in order. -/
def chs (lt : α → α → Bool) (n : Nat) (A : List α) : List α :=
  if _h : 0 < n ∧ 0 < A.length then srt lt (A.take n) ++ chs lt n (A.drop n) else []
  termination_by A.length
  decreasing_by simp; omega
theorem chs_nil (n : Nat) : chs lt n [] = [] := by rw [chs]; simp
theorem chs_app {n : Nat} {X A : List α} (hn : 0 < n) (h : X.length = n) : chs lt n (X ++ A) = srt lt X ++ chs lt n A := by
  rw [chs, dif_pos ⟨hn, by simp; omega⟩]
  subst h
  simp
theorem chs_last {n : Nat} {X : List α} (hn : 0 < n) (h : X.length ≤ n) : chs lt n X = srt lt X := by
  cases X with
  | nil => rw [chs_nil]; rfl
  | cons x X =>
    rw [chs, dif_pos ⟨hn, by simp⟩, List.take_of_length_le h, List.drop_of_length_le h, chs_nil, List.append_nil]
theorem chs_len (hw : SWO lt) {n : Nat} (hn : 0 < n) : ∀ (k : Nat) (A : List α), A.length = k → (chs lt n A).length = k := by
  intro k
  induction k using Nat.strongRecOn with
  | ind k ih =>
    intro A hk
    rw [chs]
    split
    · rw [List.length_append, srt_len hw, ih (A.drop n).length (by simp; omega) _ rfl]
      simp; omega
    · simp; omega
end Go.Vm.Stable
/- Stable sorting in place: the contract of the insertion sort. -/
namespace Go.Vm
open Stable
section
variable {T : FuncId → Option VF} {α : Type}
set_option maxRecDepth 10000
set_option maxHeartbeats 4000000

/-- The order that a comparison gives. -/
def ltc (cmp : α → α → Int) (x y : α) : Bool := decide (cmp x y < 0)
theorem snoc_cases {β : Type} (L : List β) : L = [] ∨ ∃ A x, L = A ++ [x] := by
  rcases List.eq_nil_or_concat L with h | ⟨A, x, h⟩
  · exact .inl h
  · exact .inr ⟨A, x, by simpa using h⟩

theorem ct_insert {ag : Option Nat} {wv : α → AV} {f ix gf : Nat} {n : Nat} {caps : List AV} (hT : T f = some (cInsertG ag n)) {e : α → List AV} (he : Elw ag e wv n) {cmp : α → α → Int} (hw : SWO (ltc cmp))
    (hcmp : ∀ x y, callL T gf (wv x :: wv y :: caps.map AV.view) [] = some (.int .i64 (cmp x y), [])) {m : Mem} (hix : ix < m.length) {P A S : List α}
    {N a b : Nat} {d : List α} (hd : d = P ++ A ++ S) (hN : N = d.length) (hmax : N < 2305843009213693952) (ha : a = P.length) (hb : b = P.length + A.length) :
    callL T f [.row (.mem ix) 0 N, .int .i64 a, .int .i64 b, .fn (.func gf) caps] (mrow e m ix d) = some (.tup [], mrow e m ix (P ++ srt (ltc cmp) A ++ S)) := by
  have hNl : N = P.length + A.length + S.length := by rw [hN, hd]; simp; omega
  apply callL_body hT rfl
  have w1 : IntKind.wrap .i64 ((a : Int) + 1) = ((a + 1 : Nat) : Int) := by rw [wrap64 (by omega) (by omega)]; omega
  by_cases hA : A = []
  · subst hA
    have hlt : ¬ (a + 1 < b) := by simp at hb; omega
    have hs : srt (ltc cmp) ([] : List α) = [] := rfl
    simp [cInsertG, w1, hd, hs, -Int.natCast_add]
    refine wp_loop (fun w s => s.get 8 = .int .i64 ((a + 1 : Nat) : Int) ∧ s.get 2 = .int .i64 b ∧ s.mem = mrow e m ix (P ++ S)) ?_ 0 _ ?_
    rotate_left
    · simp
    rintro w s ⟨e8, e2, hm⟩
    simp [e8, e2, hm, hlt, -Int.natCast_add]
  simp [cInsertG, w1, -Int.natCast_add]
  refine wp_loop (fun w s => ∃ A1 A2 B : List α, A = A1 ++ A2 ∧ A1 ≠ [] ∧ Stab (ltc cmp) A1 B ∧ w = A2.length ∧ s.get 0 = .row (.mem ix) 0 N ∧ s.get 1 = .int .i64 a ∧ s.get 2 = .int .i64 b ∧ s.get 3 = .fn (.func gf) caps ∧ s.get 8 = .int .i64 ((a + A1.length : Nat) : Int) ∧ s.mem = mrow e m ix (P ++ B ++ A2 ++ S)) ?_ (A.length - 1) _ ?_
  rotate_left
  · cases A with
    | nil => exact absurd rfl hA
    | cons v A' => exact ⟨[v], A', [v], rfl, by simp, .refl (Srt.one v), by simp, by simp, by simp, by simp, by simp, by simp, by simp [hd]⟩
  rintro w s ⟨A1, A2, B, hA12, hA1, hB, hwl, e0, e1, e2, e3, e8, hm⟩
  have hAl : A.length = A1.length + A2.length := by rw [hA12]; simp
  cases A2 with
  | nil =>
    have hno : ¬ (a + A1.length < b) := by simp at hAl; omega
    have hAA : A = A1 := by simpa using hA12
    have hs : srt (ltc cmp) A = B := srt_eq hw (by rw [hAA]; exact hB)
    simp [e2, e8, hm, hno, hs, -Int.natCast_add]
  | cons v A2 =>
    have hA2l : (v :: A2).length = A2.length + 1 := rfl
    have hyes : a + A1.length < b := by omega
    simp [e2, e8, hm, hyes, -Int.natCast_add]
    have hBl := hB.2.2
    refine wp_loop (fun w s => ∃ B1 B2 : List α, B = B1 ++ B2 ∧ (∀ x ∈ B2, ltc cmp v x = true) ∧ w = B1.length ∧ s.get 0 = .row (.mem ix) 0 N ∧ s.get 1 = .int .i64 a ∧ s.get 2 = .int .i64 b ∧ s.get 3 = .fn (.func gf) caps ∧ s.get 8 = .int .i64 ((a + A1.length : Nat) : Int) ∧ s.get 9 = .int .i64 ((a + B1.length : Nat) : Int) ∧ s.mem = mrow e m ix (P ++ B1 ++ v :: B2 ++ A2 ++ S)) ?_ B.length _ ?_
    rotate_left
    · exact ⟨B, [], by simp, by simp, rfl, by simp [e0], by simp [e1], by simp [e2], by simp [e3], by simp [e8], by simp [hBl], by simp [hm]⟩
    clear e0 e1 e2 e3 e8 hm
    rintro w2 s ⟨B1, B2, hB12, hB2, hwl2, e0, e1, e2, e3, e8, e9, hm⟩
    have hBl2 : B.length = B1.length + B2.length := by rw [hB12]; simp
    have w4 : IntKind.wrap .i64 (((a + A1.length : Nat) : Int) + 1) = ((a + A1.length + 1 : Nat) : Int) := by rw [wrap64 (by omega) (by omega)]; omega
    have hdone : (∀ x ∈ B1, ltc cmp v x = false) → ∃ n', n' < w ∧ ∃ A1_1 A2_1 : List α, A = A1_1 ++ A2_1 ∧ A1_1 ≠ [] ∧ ∃ B_1 : List α, Stab (ltc cmp) A1_1 B_1 ∧ n' = A2_1.length ∧ a + A1.length + 1 = a + A1_1.length ∧ P ++ B1 ++ v :: B2 ++ A2 ++ S = P ++ B_1 ++ A2_1 ++ S := by
      intro h1
      refine ⟨A2.length, by omega, A1 ++ [v], A2, by simp [hA12], by simp, B1 ++ v :: B2, stab_insert hw (by rw [← hB12]; exact hB) h1 hB2, rfl, by simp; omega, by simp⟩
    rcases snoc_cases B1 with rfl | ⟨B0, u, rfl⟩
    · obtain ⟨n', q1, A1_1, A2_1, q2, q3, B_1, q4, q5, q6, q7⟩ := hdone (by simp)
      simp only [List.append_nil] at q7
      simp [e0, e1, e2, e3, e8, e9, hm, w4, -Int.natCast_add, -List.append_assoc]
      refine ⟨n', q1, A1_1, A2_1, q2, q3, B_1, q4, q5, by rw [q6], by rw [q7]; simp⟩
    · have hl0 : (B0 ++ [u]).length = B0.length + 1 := by simp
      generalize hj : a + (B0 ++ [u]).length = j at e9
      generalize hk : (P ++ B0).length = k
      have hjk : j = k + 1 := by simp at hk; omega
      have hja : a < j := by omega
      have w3 : IntKind.wrap .i64 ((j : Int) - 1) = (k : Int) := by rw [wrap64 (by omega) (by omega)]; omega
      have hkN : k < N := by simp at hk; omega
      have hjN : j < N := by simp at hk; omega
      have hD : P ++ (B0 ++ [u]) ++ v :: B2 ++ A2 ++ S = (P ++ B0) ++ u :: v :: (B2 ++ A2 ++ S) := by simp
      rw [hD] at hm
      have p1 := part_row he (xs := (P ++ B0) ++ u :: v :: (B2 ++ A2 ++ S)) (i := k) (v := u) (get_mid hk.symm)
      have p2 := part_row he (xs := (P ++ B0) ++ u :: v :: (B2 ++ A2 ++ S)) (i := j) (v := v) (by
        rw [show (P ++ B0) ++ u :: v :: (B2 ++ A2 ++ S) = (P ++ B0 ++ [u]) ++ v :: (B2 ++ A2 ++ S) by simp]
        exact get_mid (by simp at hk ⊢; omega))
      have g1 := mrow_get (e := e) (m := m) (ix := ix) (xs := (P ++ B0) ++ u :: v :: (B2 ++ A2 ++ S)) hix
      have hcv := hcmp v u
      by_cases hlt : cmp v u < 0
      · have q1 := st_row he (xs := (P ++ B0) ++ u :: v :: (B2 ++ A2 ++ S)) (i := j) (v := u) (by simp at hk ⊢; omega)
        rw [show ((P ++ B0) ++ u :: v :: (B2 ++ A2 ++ S)).set j u = (P ++ B0) ++ u :: u :: (B2 ++ A2 ++ S) by
          rw [show (P ++ B0) ++ u :: v :: (B2 ++ A2 ++ S) = (P ++ B0 ++ [u]) ++ v :: (B2 ++ A2 ++ S) by simp, set_mid (by simp at hk ⊢; omega)]; simp] at q1
        have q2 := st_row he (xs := (P ++ B0) ++ u :: u :: (B2 ++ A2 ++ S)) (i := k) (v := v) (by simp at hk ⊢; omega)
        rw [show ((P ++ B0) ++ u :: u :: (B2 ++ A2 ++ S)).set k v = P ++ B0 ++ v :: u :: (B2 ++ A2 ++ S) by rw [set_mid hk.symm]] at q2
        have g2 := mrow_get (e := e) (m := m) (ix := ix) (xs := (P ++ B0) ++ u :: u :: (B2 ++ A2 ++ S)) hix
        have hnx : ∃ n', n' < w2 ∧ ∃ B1_1 B2_1 : List α, B = B1_1 ++ B2_1 ∧ (∀ x ∈ B2_1, ltc cmp v x = true) ∧ n' = B1_1.length ∧ k = a + B1_1.length ∧ P ++ B0 ++ v :: u :: (B2 ++ A2 ++ S) = P ++ B1_1 ++ v :: B2_1 ++ A2 ++ S := by
          refine ⟨B0.length, by omega, B0, u :: B2, by rw [hB12]; simp, fun x hx => ?_, rfl, by simp at hk; omega, by simp⟩
          rcases List.mem_cons.1 hx with rfl | h
          · simpa [ltc] using hlt
          · exact hB2 x h
        obtain ⟨n', z1, B1_1, B2_1, z2, z3, z4, z5, z6⟩ := hnx
        rw [z6] at q2
        generalize (P ++ B0) ++ u :: v :: (B2 ++ A2 ++ S) = D at *
        generalize (P ++ B0) ++ u :: u :: (B2 ++ A2 ++ S) = D2 at *
        simp [e0, e1, e2, e3, e8, e9, hm, hja, w3, hkN, hjN, g1, g2, p1, p2, he.vw, he.nl, he.tk, q1, q2, hcv, hlt, -part_some, -stCells_agg, -Int.natCast_add, -List.append_assoc]
        exact ⟨n', z1, B1_1, B2_1, z2, z3, z4, by omega, by simp⟩
      · have h1 : ∀ x ∈ B0 ++ [u], ltc cmp v x = false := by
          have hu : ltc cmp v u = false := by simpa [ltc] using hlt
          intro x hx
          rcases List.mem_append.1 hx with h | h
          · have hs : Srt (ltc cmp) (B0 ++ [u]) := Srt.left (B := B2) (by rw [← hB12]; exact hB.1)
            exact le_le hw (hs.cross x h u (by simp)) hu
          · rw [List.mem_singleton.1 h]; exact hu
        obtain ⟨n', z1, A1_1, A2_1, z2, z3, B_1, z4, z5, z6, z7⟩ := hdone h1
        rw [hD] at z7
        generalize (P ++ B0) ++ u :: v :: (B2 ++ A2 ++ S) = D at *
        simp [e0, e1, e2, e3, e8, e9, hm, hja, w3, w4, hkN, hjN, g1, p1, p2, he.vw, he.nl, he.tk, hcv, hlt, -part_some, -Int.natCast_add, -List.append_assoc]
        exact ⟨n', z1, A1_1, A2_1, z2, z3, B_1, z4, z5, by rw [z6], by rw [z7]; simp⟩
end
end Go.Vm
