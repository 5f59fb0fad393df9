/- A small machine and its soundness, part VK. -/
import Derived.Test.YtmlfcgmiaapffaaGreatDoorVE
import Derived.Lib.LaidTab
/- The tables of a seat: from the row's condition. -/
namespace Go.Vm
section
variable {P : Program} {w : World}
theorem laid_reads {P : Program} {w : World} : ∀ {l : List (String × DataW Unit)} {ps : List MemPlace}, DataW.LaidVars P w l ps → ∀ n d, (n, d) ∈ l →
    ∃ g t cs fuel p, P.globalNamed n = some g ∧ (P.globals[g]?).map (·.type) = some t ∧ w.var? P n = some cs ∧ DataW.trod (fun _ => ()) P w 0 (fun _ => true) false fuel t cs.toList = some (d, p)
  | [], _, _, _, _, hm => by cases hm
  | (n', d') :: r, ps, h, n, d, hm => by
    obtain ⟨g, t, cs, fuel, p, q, h1, h2, h3, h4, h5, _⟩ := h
    rcases List.mem_cons.1 hm with e | e
    · cases e
      exact ⟨g, t, cs, fuel, p, h1, h2, h3, h4⟩
    · exact laid_reads h5 n d e
def tabGood (P : Program) (g : Nat) : Bool := match P.globals[g]? with
  | some gl => match tabZ gl.name with
    | some (k, _) => P.globalNamed gl.name == some g && (match P.underlying gl.type with
      | some (.array n e) => (match P.underlying e with
        | some (.int k') => decide (k' = k)
        | _ => false) && P.cellsOf e == 1 && P.cellsOf gl.type == n
      | _ => false)
    | none => true
  | none => true
theorem trod_iface {fuel : Nat} {t : TypeId} {ms : Array (String × TypeId)} {cs : List Value} {n : String} {d : DataW Unit} {p : List MemPlace} (ht : P.underlying t = some (.interface ms))
    (h : DataW.trod (fun _ => ()) P w 0 (fun _ => true) false fuel t cs = some (.iface n d, p)) : ∃ u v, cs = [.iface u v] ∧ P.typeName? 3 u = some n := by
  cases fuel with
  | zero => simp [DataW.trod] at h
  | succ fuel =>
    unfold DataW.trod at h
    rw [ht] at h
    split at h <;> simp_all
    split at h <;> simp_all
theorem globTab {l : List (String × DataW Unit)} (hall : (List.range P.globals.size).all (tabGood P) = true)
    (hl : ∀ n k zs, tabZ n = some (k, zs) → (P.globalNamed n).isSome = true → (n, Lib.tabData k zs) ∈ l) (h : laidMet P l w) : ∀ g cs, GT P g = some cs → Rep allExt w (.vptr cs 0) (.pointer (some ⟨g, 0, none⟩)) := by
  intro g cs hg
  unfold GT at hg
  split at hg
  · rename_i gl hgl
    unfold tabOf at hg
    split at hg
    · rename_i k zs hz
      simp only [Option.some.injEq] at hg
      subst hg
      have hlt : g < P.globals.size := (Array.getElem?_eq_some_iff.1 hgl).1
      have hb := List.all_eq_true.1 hall g (List.mem_range.2 hlt)
      unfold tabGood at hb
      simp only [hgl, hz, Bool.and_eq_true, beq_iff_eq] at hb
      obtain ⟨hn, hb⟩ := hb
      split at hb
      · rename_i n e ht
        simp only [Bool.and_eq_true, beq_iff_eq] at hb
        obtain ⟨⟨hb1, hce⟩, hct⟩ := hb
        split at hb1
        · rename_i k' he
          have hk : k' = k := of_decide_eq_true hb1
          subst hk
          obtain ⟨ps, hv, _⟩ := h
          obtain ⟨g', t', cs, fuel, p, h1, h2, h3, h4⟩ := laid_reads hv gl.name _ (hl _ _ _ hz (by rw [hn]; rfl))
          rw [hn] at h1
          simp only [Option.some.injEq] at h1
          subst h1
          rw [hgl] at h2
          simp only [Option.map_some, Option.some.injEq] at h2
          subst h2
          have hcs := Lib.cells_of_tab ht he hce hct h4
          have hT : Lib.TabIs P w gl.name k' zs := by unfold Lib.TabIs; rw [h3, ← hcs]
          have := Rep.vptr (G := allExt) (w := w) (zs.map (AV.int k')) 0 g 0 (fun j => Value.int k' (zs.getD j 0)) (fun j hj => by
            refine ⟨trivial, ?_⟩
            rw [Nat.zero_add]
            exact Lib.TabIs.cell hT hn j (by simpa using hj)) (fun j hj => by
            have hj' : j < zs.length := by simpa using hj
            simp [List.getD, hj']
            exact .int _ _)
          simpa using this
        · simp at hb1
      · simp at hb
    · simp at hg
  · simp at hg
theorem var?_lt {n : String} {g : Nat} {cs : Array Value} (hg : P.globalNamed n = some g) (h : w.var? P n = some cs) : g < w.heap.size := by
  unfold World.var? at h
  rw [hg] at h
  simp only [Option.bind_some] at h
  refine Classical.byContradiction fun hn => ?_
  rw [Array.getElem?_eq_none (by omega)] at h
  simp at h
/-- The types of the variables are right, too. -/
def powGood (P : Program) (t : TypeId) : Bool := match P.underlying t with
  | some (.array n e) => (match P.underlying e with
    | some (.int k') => decide (k' = IntKind.u64)
    | _ => false) && P.cellsOf e == 1 && P.cellsOf t == n
  | _ => false
def ifcGood (P : Program) (t : TypeId) : Bool := match P.underlying t with
  | some (.interface _) => true
  | _ => false
def namedGood (P : Program) (n : String) (good : TypeId → Bool) : Bool := match P.globalNamed n with
  | some g => match P.globals[g]? with
    | some gl => good gl.type
    | none => false
  | none => true
def gxGood (P : Program) : Bool := namedGood P "internal/strconv.uint64pow10" (powGood P) && (namedGood P "strconv.ErrRange" (ifcGood P) && namedGood P "strconv.ErrSyntax" (ifcGood P))
theorem namedGood_inv {n : String} {good : TypeId → Bool} {g : Nat} {t : TypeId} (h : namedGood P n good = true) (hg : P.globalNamed n = some g) (ht : (P.globals[g]?).map (·.type) = some t) : good t = true := by
  unfold namedGood at h
  rw [hg] at h
  obtain ⟨gl, hgl, rfl⟩ := Option.map_eq_some_iff.1 ht
  simp only [hgl] at h
  exact h
theorem globOK_mk {l : List (String × DataW Unit)} (hall : (List.range P.globals.size).all (tabGood P) = true) (hgx : gxGood P = true)
    (hl : ∀ n k zs, tabZ n = some (k, zs) → (P.globalNamed n).isSome = true → (n, Lib.tabData k zs) ∈ l)
    (hl2 : ∀ n, errVar n = true → (P.globalNamed n).isSome = true → ∃ d, (n, .iface "*errors.errorString" d) ∈ l) (h : laidMet P l w) : GlobOK P w := by
  have htab := globTab hall hl h
  have hz : tabZ "internal/strconv.uint64pow10" = some (.u64, Lib.pow10Tab) := by decide
  obtain ⟨ps, hv, hr⟩ := h
  unfold gxGood at hgx
  simp only [Bool.and_eq_true] at hgx
  obtain ⟨g1, g2, g3⟩ := hgx
  have hpow : ∀ g, P.globalNamed "internal/strconv.uint64pow10" = some g → Lib.TabIs P w "internal/strconv.uint64pow10" .u64 Lib.pow10Tab ∧ g < w.heap.size := by
    intro g hg
    obtain ⟨g', t', cs, fuel, p, h1, h2, h3, h4⟩ := laid_reads hv _ _ (hl _ _ _ hz (by rw [hg]; rfl))
    rw [hg] at h1
    simp only [Option.some.injEq] at h1
    subst h1
    have hgood := namedGood_inv g1 hg h2
    unfold powGood at hgood
    split at hgood
    · rename_i n e ht
      simp only [Bool.and_eq_true, beq_iff_eq] at hgood
      obtain ⟨⟨hb1, hce⟩, hct⟩ := hgood
      split at hb1
      · rename_i k' he
        have hk : k' = .u64 := of_decide_eq_true hb1
        subst hk
        have hcs := Lib.cells_of_tab ht he hce hct h4
        exact ⟨by unfold Lib.TabIs; rw [h3, ← hcs], var?_lt hg h3⟩
      · simp at hb1
    · simp at hgood
  have herr : ∀ n, errVar n = true → ∀ g, P.globalNamed n = some g → (∃ u v, w.cell? ⟨g, 0, none⟩ = some (.iface u v)) ∧ g < w.heap.size := by
    intro n hn g hg
    obtain ⟨d, hd⟩ := hl2 n hn (by rw [hg]; rfl)
    obtain ⟨g', t', cs, fuel, p, h1, h2, h3, h4⟩ := laid_reads hv _ _ hd
    rw [hg] at h1
    simp only [Option.some.injEq] at h1
    subst h1
    have hgood : ifcGood P t' = true := by
      have hn' := hn
      unfold errVar at hn'
      simp only [Bool.or_eq_true, decide_eq_true_eq] at hn'
      rcases hn' with rfl | rfl
      · exact namedGood_inv g2 hg h2
      · exact namedGood_inv g3 hg h2
    unfold ifcGood at hgood
    split at hgood
    · rename_i ms ht
      obtain ⟨u, v, hc, _⟩ := trod_iface ht h4
      have hcell := World.var?_cell hg h3 0
      have : cs[0]? = some (.iface u v) := by
        have : cs.toList[0]? = some (.iface u v) := by rw [hc]; rfl
        simpa using this
      rw [this] at hcell
      exact ⟨⟨u, v, hcell⟩, var?_lt hg h3⟩
    · simp at hgood
  refine ⟨htab, fun n g hn hg => ⟨rfl, ?_⟩, fun g hg => (hpow g hg).1, fun n hn g hg => (herr n hn g hg).1⟩
  unfold gxName at hn
  rw [Bool.or_eq_true] at hn
  rcases hn with hn | hn
  · have := of_decide_eq_true hn
    subst this
    exact (hpow g hg).2
  · exact (herr n hn g hg).2
theorem tabs_in {l : List (String × DataW Unit)} (i j : Nat) (h1 : l[i]? = (tabZ "math/bits.deBruijn64tab").map fun x => ("math/bits.deBruijn64tab", Lib.tabData x.1 x.2))
    (h2 : l[j]? = (tabZ "internal/strconv.uint64pow10").map fun x => ("internal/strconv.uint64pow10", Lib.tabData x.1 x.2)) (n : String) (k : IntKind) (zs : List Int) (hz : tabZ n = some (k, zs)) (_ : (P.globalNamed n).isSome = true) :
    (n, Lib.tabData k zs) ∈ l := by
  by_cases e1 : n = "math/bits.deBruijn64tab"
  · subst e1; rw [hz] at h1; exact List.mem_of_getElem? h1
  · by_cases e2 : n = "internal/strconv.uint64pow10"
    · subst e2; rw [hz] at h2; exact List.mem_of_getElem? h2
    · unfold tabZ at hz
      rw [if_neg e1, if_neg e2] at hz
      cases hz
def errB : DataW Unit → DataW Unit
  | .iface _ d => d
  | d => d
theorem errs_in {l : List (String × DataW Unit)} (i j : Nat) (b1 b2 : DataW Unit) (h1 : l[i]? = some ("strconv.ErrRange", .iface "*errors.errorString" b1)) (h2 : l[j]? = some ("strconv.ErrSyntax", .iface "*errors.errorString" b2))
    (n : String) (hn : errVar n = true) (_ : (P.globalNamed n).isSome = true) : ∃ d, (n, .iface "*errors.errorString" d) ∈ l := by
  unfold errVar at hn
  simp only [Bool.or_eq_true, decide_eq_true_eq] at hn
  rcases hn with rfl | rfl
  · exact ⟨b1, List.mem_of_getElem? h1⟩
  · exact ⟨b2, List.mem_of_getElem? h2⟩
theorem laidMetH_plain {l : List (String × DataW Unit)} (h : (l.filter fun x => x.2.handleName?.isSome) = []) (hm : laidMetH P l w) : laidMet P l w := by
  unfold laidMetH at hm
  rw [h] at hm
  exact hm
end
end Go.Vm
