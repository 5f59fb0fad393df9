/- A small machine and its soundness, part VK. -/
import Derived.Test.YtgmhcmmdfejcmaaDoorVE
import Derived.Lib.LaidTab
/- The tables of a seat: from the row's condition. -/
namespace Go.Vm
section
variable {P : Program} {w : World}
theorem laid_reads {P : Program} {w : World} : ∀ {l : List (String × DataW Unit)} {ps : List MemPlace}, DataW.LaidVars P w l ps → ∀ n d, (n, d) ∈ l →
    ∃ g t cs fuel p, P.globalNamed n = some g ∧ (P.globals[g]?).map (·.type) = some t ∧ w.var? P n = some cs ∧ DataW.trod (fun _ => ()) P w 0 (fun _ => true) false fuel t cs.toList = some (d, p)
  | [], _, _, _, _, hm => by cases hm
  | (n', d') :: r, ps, h, n, d, hm => by
    obtain ⟨g, t, cs, fuel, p, q, h1, h2, h3, h4, h5, _⟩ := h
    rcases List.mem_cons.1 hm with e | e
    · cases e
      exact ⟨g, t, cs, fuel, p, h1, h2, h3, h4⟩
    · exact laid_reads h5 n d e
def tabGood (P : Program) (g : Nat) : Bool := match P.globals[g]? with
  | some gl => match tabZ gl.name with
    | some (k, _) => P.globalNamed gl.name == some g && (match P.underlying gl.type with
      | some (.array n e) => (match P.underlying e with
        | some (.int k') => decide (k' = k)
        | _ => false) && P.cellsOf e == 1 && P.cellsOf gl.type == n
      | _ => false)
    | none => true
  | none => true
theorem globOK_mk {l : List (String × DataW Unit)} (hall : (List.range P.globals.size).all (tabGood P) = true)
    (hl : ∀ n k zs, tabZ n = some (k, zs) → (P.globalNamed n).isSome = true → (n, Lib.tabData k zs) ∈ l) (h : laidMet P l w) : GlobOK P w := by
  intro g cs hg
  unfold GT at hg
  split at hg
  · rename_i gl hgl
    unfold tabOf at hg
    split at hg
    · rename_i k zs hz
      simp only [Option.some.injEq] at hg
      subst hg
      have hlt : g < P.globals.size := (Array.getElem?_eq_some_iff.1 hgl).1
      have hb := List.all_eq_true.1 hall g (List.mem_range.2 hlt)
      unfold tabGood at hb
      simp only [hgl, hz, Bool.and_eq_true, beq_iff_eq] at hb
      obtain ⟨hn, hb⟩ := hb
      split at hb
      · rename_i n e ht
        simp only [Bool.and_eq_true, beq_iff_eq] at hb
        obtain ⟨⟨hb1, hce⟩, hct⟩ := hb
        split at hb1
        · rename_i k' he
          have hk : k' = k := of_decide_eq_true hb1
          subst hk
          obtain ⟨ps, hv, _⟩ := h
          obtain ⟨g', t', cs, fuel, p, h1, h2, h3, h4⟩ := laid_reads hv gl.name _ (hl _ _ _ hz (by rw [hn]; rfl))
          rw [hn] at h1
          simp only [Option.some.injEq] at h1
          subst h1
          rw [hgl] at h2
          simp only [Option.map_some, Option.some.injEq] at h2
          subst h2
          have hcs := Lib.cells_of_tab ht he hce hct h4
          have hT : Lib.TabIs P w gl.name k' zs := by unfold Lib.TabIs; rw [h3, ← hcs]
          have := Rep.vptr (G := allExt) (w := w) (zs.map (AV.int k')) 0 g 0 (fun j => Value.int k' (zs.getD j 0)) (fun j hj => by
            refine ⟨trivial, ?_⟩
            rw [Nat.zero_add]
            exact Lib.TabIs.cell hT hn j (by simpa using hj)) (fun j hj => by
            have hj' : j < zs.length := by simpa using hj
            simp [List.getD, hj']
            exact .int _ _)
          simpa using this
        · simp at hb1
      · simp at hb
    · simp at hg
  · simp at hg
theorem tabs_in {l : List (String × DataW Unit)} (i j : Nat) (h1 : l[i]? = (tabZ "math/bits.deBruijn64tab").map fun x => ("math/bits.deBruijn64tab", Lib.tabData x.1 x.2))
    (h2 : l[j]? = (tabZ "internal/strconv.uint64pow10").map fun x => ("internal/strconv.uint64pow10", Lib.tabData x.1 x.2)) (n : String) (k : IntKind) (zs : List Int) (hz : tabZ n = some (k, zs)) (_ : (P.globalNamed n).isSome = true) :
    (n, Lib.tabData k zs) ∈ l := by
  by_cases e1 : n = "math/bits.deBruijn64tab"
  · subst e1; rw [hz] at h1; exact List.mem_of_getElem? h1
  · by_cases e2 : n = "internal/strconv.uint64pow10"
    · subst e2; rw [hz] at h2; exact List.mem_of_getElem? h2
    · unfold tabZ at hz
      rw [if_neg e1, if_neg e2] at hz
      cases hz
theorem laidMetH_plain {l : List (String × DataW Unit)} (h : (l.filter fun x => x.2.handleName?.isSome) = []) (hm : laidMetH P l w) : laidMet P l w := by
  unfold laidMetH at hm
  rw [h] at hm
  exact hm
end
end Go.Vm
