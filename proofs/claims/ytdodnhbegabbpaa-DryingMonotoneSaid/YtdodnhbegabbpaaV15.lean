/- Slices of slices; append. -/
import Derived.Test.YtdodnhbegabbpaaV14
namespace Go.Vm

section
variable {P : Program} {ρ : Operand → Value} {G0 : Gh} {w0 : World} {G : Gh} {w : World} {s : St} {tv : Nat → Value} {d : Nat} {o : Oper}

theorem flat_append (xs ys : List AV) : flat (xs ++ ys) = flat xs ++ flat ys := by simp [flat]

theorem flat_drop {z : Nat} : ∀ {xs : List AV} (_ : ∀ x ∈ xs, x.cells.length = z) (l : Nat), l ≤ xs.length → ∀ j, (flat (xs.drop l))[j]? = (flat xs)[l * z + j]?
  | xs, h, 0, _, j => by simp
  | [], _, l + 1, hl, _ => by simp at hl
  | x :: xs, h, l + 1, hl, j => by
    have ih := flat_drop (z := z) (xs := xs) (fun y hy => h y (by simp [hy])) l (by simpa using hl) j
    have hx := h x (by simp)
    simp only [List.drop_succ_cons, ih]
    simp only [flat, List.flatMap_cons]
    rw [List.getElem?_append_right (by rw [Nat.add_mul]; omega), hx]
    congr 1
    rw [Nat.add_mul]; omega

theorem flat_take {xs : List AV} (n : Nat) : ∀ j, j < (flat (xs.take n)).length → (flat (xs.take n))[j]? = (flat xs)[j]? := by
  intro j hj
  have e : flat xs = flat (xs.take n) ++ flat (xs.drop n) := by rw [← flat_append, List.take_append_drop]
  rw [e, List.getElem?_append_left hj]

theorem flat_view_len (xs : List AV) : (flat (xs.map AV.view)).length = (flat xs).length := by
  induction xs with
  | nil => rfl
  | cons x xs ih =>
    simp only [flat, List.map_cons, List.flatMap_cons, List.length_append, view_cells] at ih ⊢
    rw [ih]

theorem cells_view_get (x : AV) (j : Nat) : x.view.cells[j]? = x.cells[j]? ∨ x.view.cells[j]? = x.cells[j]?.map AV.view := by
  cases x <;> first | exact .inl rfl | (right; cases j <;> simp [AV.cells, AV.view])

theorem flat_view_get : ∀ (xs : List AV) (j : Nat), (flat (xs.map AV.view))[j]? = (flat xs)[j]? ∨ (flat (xs.map AV.view))[j]? = (flat xs)[j]?.map AV.view
  | [], j => .inl rfl
  | x :: xs, j => by
    simp only [flat, List.map_cons, List.flatMap_cons]
    by_cases hj : j < x.cells.length
    · rw [List.getElem?_append_left (by rw [view_cells]; exact hj), List.getElem?_append_left hj]
      exact cells_view_get x j
    · rw [List.getElem?_append_right (by rw [view_cells]; omega), List.getElem?_append_right (by omega), view_cells]
      exact flat_view_get xs _

theorem flat_view_rep {xs : List AV} {j : Nat} {v : Value} (h1 : j < (flat (xs.map AV.view)).length) (h2 : j < (flat xs).length) (h : Rep G w (flat xs)[j] v) : Rep G w (flat (xs.map AV.view))[j] v := by
  rcases flat_view_get xs j with e | e
  · rw [List.getElem?_eq_getElem h1, List.getElem?_eq_getElem h2] at e
    simp only [Option.some.injEq] at e
    rw [e]; exact h
  · rw [List.getElem?_eq_getElem h1, List.getElem?_eq_getElem h2] at e
    simp only [Option.map_some, Option.some.injEq] at e
    rw [e]; exact h.view

theorem optV_run {lo : Option Operand} {lo' : Option VO} (hlo : trOpt lo = some lo') (he : OkEv G w s.ev ρ) {k : IntKind} {n dn : Int} {dk : IntKind} (e : optV s.ev lo' (.int dk dn) = .int k n) :
    (∃ k, lo.map ρ = some (.int k n)) ∨ (lo.map ρ = none ∧ n = dn) := by
  cases lo with
  | none =>
    simp [trOpt] at hlo; subst hlo
    simp only [optV, AV.int.injEq] at e
    exact .inr ⟨rfl, e.2.symm⟩
  | some y =>
    simp only [trOpt] at hlo
    split at hlo
    · rename_i y' hy
      simp only [Option.some.injEq] at hlo; subst hlo
      simp only [optV] at e
      have := he _ _ hy
      rw [e] at this
      exact .inl ⟨k, by simp [this.int_inv]⟩
    · simp at hlo

theorem sliceBounds_run (len cap : Nat) (lo hi mx : Option Value) (l h m : Nat) (h1 : l ≤ h) (h2 : h ≤ m) (h3 : m ≤ cap)
    (el : (∃ k, lo = some (.int k l)) ∨ (lo = none ∧ l = 0)) (eh : (∃ k, hi = some (.int k h)) ∨ (hi = none ∧ h = len)) (em : (∃ k, mx = some (.int k m)) ∨ (mx = none ∧ m = cap)) (hm : mx ≠ none → hi ≠ none) :
    (Instr.sliceBounds true len cap lo hi mx).run P w = .ok (l, h, m) w := by
  rcases em with ⟨km, rfl⟩ | ⟨rfl, rfl⟩
  · rcases eh with ⟨kh, rfl⟩ | ⟨rfl, rfl⟩
    · rcases el with ⟨kl, rfl⟩ | ⟨rfl, rfl⟩ <;> simp [Instr.sliceBounds, Instr.sliceBound, asIntOf, h1, h2, h3]
    · exact absurd rfl (hm (by simp))
  · rcases eh with ⟨kh, rfl⟩ | ⟨rfl, rfl⟩ <;> rcases el with ⟨kl, rfl⟩ | ⟨rfl, rfl⟩ <;> simp [Instr.sliceBounds, Instr.sliceBound, asIntOf, h1, h2]

theorem slice_run (t e : TypeId) (z : Nat) (ht : P.underlying t = some (.slice e)) (hz : szOf P e = some z) (a : Option Addr) (len cap : Nat) (lo hi mx : Option Value) (l h m : Nat) (h1 : l ≤ h) (h2 : h ≤ m) (h3 : m ≤ cap)
    (el : (∃ k, lo = some (.int k l)) ∨ (lo = none ∧ l = 0)) (eh : (∃ k, hi = some (.int k h)) ∨ (hi = none ∧ h = len)) (em : (∃ k, mx = some (.int k m)) ∨ (mx = none ∧ m = cap)) (hm : mx ≠ none → hi ≠ none) :
    (Instr.sliceAt t (.slice a len cap) lo hi mx).run P w = .ok (.slice (if m = l then a else a.map (·.add (l * z))) (h - l) (m - l)) w := by
  have hs : (sizeOf e).run P w = .ok z w := sizeOf_run hz
  simp [Instr.sliceAt, run_underlying ht, Instr.slice, sliceBounds_run (P := P) (w := w) len cap lo hi mx l h m h1 h2 h3 el eh em hm, hs]

theorem does_slSl {t e : TypeId} {z : Nat} {x : Operand} {x' : VO} {lo hi mx : Option Operand} {lo' hi' mx' : Option VO} {a : AV} {s' : St} (hI : Inv G0 w0 G w s tv) (ho : o.op = .slice t x lo hi mx) (ht : P.underlying t = some (.slice e))
    (hz : szOf P e = some z) (hxx : trO x = some x') (hlo : trOpt lo = some lo') (hhi : trOpt hi = some hi') (hmx : trOpt mx = some mx') (hmh : mx ≠ none → hi ≠ none) (he : OkEv G w s.ev ρ)
    (hx : exec d (.slSl z x' lo' hi' mx') s = some (a, s')) : Does P ρ o G0 w0 w tv d a s' := by
  have hr := he _ _ hxx
  have fin : ∀ v, (Instr.sliceAt t (ρ x) (lo.map ρ) (hi.map ρ) (mx.map ρ)).run P w = .ok v w → RepT G w a v → OwnAt G w (.slot d) a v → s' = s → Does P ρ o G0 w0 w tv d a s' := by
    intro v e1 e2 e3 e4
    subst e4
    refine ⟨v, w, G, .inl ?_, hI, e2, e3⟩
    simp only [execOp, ho, Sem.run_bind, e1, Result.andThen_ok, Sem.run_pure]
  have hmh' : mx.map ρ ≠ none → hi.map ρ ≠ none := by simpa using hmh
  simp only [exec] at hx
  split at hx
  · rename_i own nn xs hv
    rw [hv] at hr
    split at hx
    · rename_i r0 hsl
      simp only [Option.some.injEq, Prod.mk.injEq] at hx
      obtain ⟨rfl, rfl⟩ := hx
      -- one conclusion for both forms
      have main : ∀ (l h m : Nat) (r : AV) (ow : Option Nat), (∀ x ∈ xs, x.cells.length = z) → l ≤ h → h ≤ xs.length → r = .vec ow nn ((xs.take h).drop l) →
          ((∃ k, lo.map ρ = some (.int k l)) ∨ (lo.map ρ = none ∧ l = 0)) → ((∃ k, hi.map ρ = some (.int k h)) ∨ (hi.map ρ = none ∧ h = xs.length)) →
          (mx.map ρ = none ∧ ow = none) ∨ ((∃ k, mx.map ρ = some (.int k m)) ∧ h = m ∧ ow = some z) → r0 = r → Does P ρ o G0 w0 w tv d r0 s := by
        intro l h m r ow hst h1 h2 hr' el eh em ea
        subst hr'; subst ea
        have hst' : ∀ x ∈ (xs.take h).drop l, x.cells.length = z := fun x hx => hst x (List.mem_of_mem_take (List.mem_of_mem_drop hx))
        have hlen : ((xs.take h).drop l).length = h - l := by simp; omega
        rcases hr.vec_inv with ⟨rfl, rfl, e1⟩ | ⟨b, off, cap, st, vals, rfl, e1, hcap, _, hc, hrep⟩
        · have hh : h = 0 ∧ l = 0 := by simp at h2; omega
          obtain ⟨rfl, rfl⟩ := hh
          rcases em with ⟨em, rfl⟩ | ⟨⟨k, em⟩, rfl, rfl⟩
          · have := slice_run (P := P) (w := w) t e z ht hz none 0 0 (lo.map ρ) (hi.map ρ) (mx.map ρ) 0 0 0 (Nat.le_refl _) (Nat.le_refl _) (Nat.le_refl _) el (by simpa using eh) (.inr ⟨em, rfl⟩) hmh'
            refine fin (.slice none 0 0) (by rw [e1]; simpa using this) (.of (by simpa using Rep.nilvec _)) (OwnAt.of_notOwn trivial) rfl
          · have := slice_run (P := P) (w := w) t e z ht hz none 0 0 (lo.map ρ) (hi.map ρ) (mx.map ρ) 0 0 0 (Nat.le_refl _) (Nat.le_refl _) (Nat.le_refl _) el (by simpa using eh) (.inl ⟨k, em⟩) hmh'
            refine fin (.slice none 0 0) (by rw [e1]; simpa using this) (.of (by simpa using Rep.nilvec _)) ?_ rfl
            intro z' nn' xs' e5
            simp at e5
            obtain ⟨rfl, rfl, rfl⟩ := e5
            exact ⟨by simp, fun b off len cap e6 => by simp at e6⟩
        · have repv : ∀ (cap' : Nat), h - l ≤ cap' → ∀ o', Rep G w (.vec o' true ((xs.take h).drop l)) (.slice (some ⟨b, off + l * z, none⟩) (h - l) cap') := by
            intro cap' hcap' o'
            have hfl : (flat ((xs.take h).drop l)).length = (h - l) * z := by rw [flat_length hst', hlen]
            have hget : ∀ j, j < (flat ((xs.take h).drop l)).length → (flat ((xs.take h).drop l))[j]? = (flat xs)[l * z + j]? ∧ l * z + j < (flat xs).length := by
              intro j hj
              rw [hfl] at hj
              have hle : (h - l) * z + l * z = h * z := by rw [← Nat.add_mul]; congr 1; omega
              have hle2 : h * z ≤ xs.length * z := Nat.mul_le_mul_right z h2
              have hft : (flat (xs.take h)).length = h * z := by rw [flat_length (fun x hx => hst x (List.mem_of_mem_take hx))]; simp only [List.length_take]; rw [Nat.min_eq_left h2]
              refine ⟨?_, by rw [flat_length hst]; omega⟩
              rw [flat_drop (fun x hx => hst x (List.mem_of_mem_take hx)) l (by simp; omega), flat_take h _ (by rw [hft]; omega)]
            have := Rep.vec (G := G) (w := w) o' ((xs.take h).drop l) b (off + l * z) cap' z (fun j => vals (l * z + j)) (by omega) hst'
              (fun j hj => by rw [Nat.add_assoc]; exact hc _ (hget j hj).2)
              (fun j hj => by
                have e5 := (hget j hj).1
                have e6 := hrep _ (hget j hj).2
                rw [List.getElem?_eq_getElem hj] at e5
                obtain ⟨_, e7⟩ := List.getElem?_eq_some_iff.1 e5.symm
                rw [e7] at e6
                exact e6)
            rw [hlen] at this
            exact this
          have repe : ∀ (cap' : Nat) o', h = l → Rep G w (.vec o' true ((xs.take h).drop l)) (.slice (some ⟨b, off, none⟩) (h - l) cap') := by
            intro cap' o' hh
            subst hh
            have hnil : (xs.take h).drop h = [] := by rw [List.drop_eq_nil_iff]; simp; omega
            rw [hnil]
            have := Rep.vec (G := G) (w := w) o' [] b off cap' 0 (fun _ => undef) (by simp) (by simp) (fun j hj => by simp [flat] at hj) (fun j hj => by simp [flat] at hj)
            simpa using this
          rcases em with ⟨em, rfl⟩ | ⟨⟨k, em⟩, rfl, rfl⟩
          · have := slice_run (P := P) (w := w) t e z ht hz (some ⟨b, off, none⟩) xs.length cap (lo.map ρ) (hi.map ρ) (mx.map ρ) l h cap h1 (by omega) (Nat.le_refl _) el eh (.inr ⟨em, rfl⟩) hmh'
            rw [← e1] at this
            by_cases hcl : cap = l
            · rw [if_pos hcl] at this
              exact fin _ this (.of (repe _ _ (by omega))) (OwnAt.of_notOwn trivial) rfl
            · rw [if_neg hcl] at this
              simp only [Option.map_some, add_off] at this
              exact fin _ this (.of (repv _ (by omega) _)) (OwnAt.of_notOwn trivial) rfl
          · have := slice_run (P := P) (w := w) t e z ht hz (some ⟨b, off, none⟩) xs.length cap (lo.map ρ) (hi.map ρ) (mx.map ρ) l h h h1 (Nat.le_refl _) (by omega) el eh (.inl ⟨k, em⟩) hmh'
            rw [← e1] at this
            have own : ∀ a', OwnAt G w (.slot d) (.vec (some z) true ((xs.take h).drop l)) (.slice a' (h - l) (h - l)) := by
              intro a' z' nn' xs' e5
              simp only [AV.vec.injEq, Option.some.injEq] at e5
              obtain ⟨rfl, rfl, rfl⟩ := e5
              exact ⟨hst', fun b off len cap e6 => by simp at e6; left; omega⟩
            by_cases hcl : h = l
            · rw [if_pos hcl] at this
              exact fin _ this (.of (repe _ _ hcl)) (own _) rfl
            · rw [if_neg hcl] at this
              simp only [Option.map_some, add_off] at this
              exact fin _ this (.of (repv _ (Nat.le_refl _) _)) (own _) rfl
      unfold slVec at hsl
      split at hsl
      · rename_i k1 l k2 h e2 e3 e4
        split at hsl
        · rename_i hc
          simp only [Option.some.injEq] at hsl
          have hm0 : mx.map ρ = none := by
            cases mx with
            | none => rfl
            | some q =>
              simp only [trOpt] at hmx
              split at hmx
              · simp only [Option.some.injEq] at hmx; subst hmx; simp at e4
              · simp at hmx
          have el := optV_run hlo he e2
          have eh := optV_run hhi he e3
          have hl0 : ((l.toNat : Nat) : Int) = l := by omega
          have hh0 : ((h.toNat : Nat) : Int) = h := by omega
          refine main l.toNat h.toNat 0 r0 none (by simpa using hc.2.2.2) (by omega) (by omega) hsl.symm ?_ ?_ (.inl ⟨hm0, rfl⟩) rfl
          · rcases el with ⟨k, el⟩ | ⟨el, en⟩
            · exact .inl ⟨k, by rw [hl0]; exact el⟩
            · exact .inr ⟨el, by omega⟩
          · rcases eh with ⟨k, eh⟩ | ⟨eh, en⟩
            · exact .inl ⟨k, by rw [hh0]; exact eh⟩
            · exact .inr ⟨eh, by omega⟩
        · simp at hsl
      · rename_i k1 l k2 h k3 m e2 e3 e4
        split at hsl
        · rename_i hc
          simp only [Option.some.injEq] at hsl
          have hm1 : ∃ k, mx.map ρ = some (.int k m) := by
            cases mx with
            | none => simp [trOpt] at hmx; subst hmx; simp at e4
            | some q =>
              simp only [trOpt] at hmx
              split at hmx
              · rename_i q' hq
                simp only [Option.some.injEq] at hmx; subst hmx
                simp only [Option.map_some, Option.some.injEq] at e4
                have := he _ _ hq
                rw [e4] at this
                exact ⟨_, by simp [this.int_inv]; rfl⟩
              · simp at hmx
          have el := optV_run hlo he e2
          have eh := optV_run hhi he e3
          have hl0 : ((l.toNat : Nat) : Int) = l := by omega
          have hh0 : ((h.toNat : Nat) : Int) = h := by omega
          have hm0 : ((m.toNat : Nat) : Int) = m := by omega
          refine main l.toNat h.toNat m.toNat r0 (some z) (by simpa using hc.2.2.2.2) (by omega) (by omega) hsl.symm ?_ ?_ (.inr ⟨by rw [hm0]; exact hm1, by omega, rfl⟩) rfl
          · rcases el with ⟨k, el⟩ | ⟨el, en⟩
            · exact .inl ⟨k, by rw [hl0]; exact el⟩
            · exact .inr ⟨el, by omega⟩
          · rcases eh with ⟨k, eh⟩ | ⟨eh, en⟩
            · exact .inl ⟨k, by rw [hh0]; exact eh⟩
            · exact .inr ⟨eh, by omega⟩
        · simp at hsl
      · simp at hsl
    · simp at hx
  · rename_i ix off len hv
    rw [hv] at hr
    obtain ⟨b, cap, hb, e1, hcap⟩ := hr.row_inv
    split at hx
    · rename_i k1 l k2 h e2 e3
      split at hx
      · rename_i hc
        simp only [Option.some.injEq, Prod.mk.injEq] at hx
        obtain ⟨rfl, rfl⟩ := hx
        have hm0 : mx.map ρ = none := by
          cases mx with
          | none => rfl
          | some q =>
            simp only [trOpt] at hmx
            split at hmx
            · simp at hmx
            · simp at hmx
        have el := optV_run hlo he e2
        have eh := optV_run hhi he e3
        have hl0 : ((l.toNat : Nat) : Int) = l := by omega
        have hh0 : ((h.toNat : Nat) : Int) = h := by omega
        have := slice_run (P := P) (w := w) t e z ht hz (some ⟨b, off, none⟩) len cap (lo.map ρ) (hi.map ρ) (mx.map ρ) l.toNat h.toNat cap (by omega) (by omega) (Nat.le_refl _)
          (by rcases el with ⟨k, el⟩ | ⟨el, en⟩
              · exact .inl ⟨k, by rw [hl0]; exact el⟩
              · exact .inr ⟨el, by omega⟩)
          (by rcases eh with ⟨k, eh⟩ | ⟨eh, en⟩
              · exact .inl ⟨k, by rw [hh0]; exact eh⟩
              · exact .inr ⟨eh, by omega⟩) (.inr ⟨hm0, rfl⟩) hmh'
        rw [← e1] at this
        have hv' : (if cap = l.toNat then some (⟨b, off, none⟩ : Addr) else (some (⟨b, off, none⟩ : Addr)).map (·.add (l.toNat * z))) = some ⟨b, off + l.toNat * z, none⟩ := by
          split
          · rename_i hcl
            have : l.toNat = 0 := by omega
            simp [this]
          · simp [add_off]
        rw [hv'] at this
        exact fin _ this (RepT.row_mk hb (by omega)) (OwnAt.of_notOwn trivial) rfl
      · simp at hx
    · simp at hx
  · simp at hx

end
end Go.Vm
