/- New slices, slices of strings. -/
import Derived.Test.YtdodnhbegabbpaaV7
namespace Go.Vm

section
variable {P : Program} {ρ : Operand → Value} {G : Gh} {w : World} {ev : VO → AV} {d : Nat}

theorem flat_length {z : Nat} : ∀ {xs : List AV}, (∀ x ∈ xs, x.cells.length = z) → (flat xs).length = xs.length * z
  | [], _ => by simp [flat]
  | x :: xs, h => by
    have ih := flat_length (z := z) (xs := xs) (fun y hy => h y (by simp [hy]))
    have hx := h x (by simp)
    simp only [flat, List.flatMap_cons, List.length_append] at ih ⊢
    rw [ih, hx, List.length_cons, Nat.add_mul]; omega

theorem flat_set {z : Nat} : ∀ {xs : List AV} (_ : ∀ x ∈ xs, x.cells.length = z) (i : Nat) (v : AV), v.cells.length = z → i < xs.length →
    ∀ k, (flat (xs.set i v))[k]? = if i * z ≤ k ∧ k < i * z + z then v.cells[k - i * z]? else (flat xs)[k]?
  | [], _, i, v, _, hi => by simp at hi
  | x :: xs, h, i, v, hv, hi => by
    intro k
    have hx := h x (by simp)
    cases i with
    | zero =>
      simp only [List.set_cons_zero, flat, List.flatMap_cons, Nat.zero_mul, Nat.zero_le, Nat.zero_add, true_and, Nat.sub_zero]
      by_cases hk : k < z
      · rw [if_pos hk, List.getElem?_append_left (by omega)]
      · rw [if_neg hk, List.getElem?_append_right (by omega), List.getElem?_append_right (by omega), hv, hx]
    | succ i =>
      have ih := flat_set (z := z) (xs := xs) (fun y hy => h y (by simp [hy])) i v hv (by simpa using hi) (k - z)
      simp only [List.set_cons_succ, flat, List.flatMap_cons] at ih ⊢
      have e1 : (i + 1) * z = i * z + z := by rw [Nat.add_mul]; omega
      by_cases hk : k < z
      · rw [if_neg (by omega), List.getElem?_append_left (by omega), List.getElem?_append_left (by omega)]
      · rw [List.getElem?_append_right (by omega), List.getElem?_append_right (by omega), hx, ih]
        by_cases h2 : i * z ≤ k - z ∧ k - z < i * z + z
        · rw [if_pos h2, if_pos (by omega)]; congr 1; omega
        · rw [if_neg h2, if_neg (by omega)]

theorem view_cells (a : AV) : a.view.cells.length = a.cells.length := by
  cases a <;> rfl

theorem view_cells_rep {a : AV} {vs : List Value} (h : RepL G w a.cells vs) : RepL G w a.view.cells vs := by
  cases a <;> first | exact h | exact h.view

theorem overEls_len {z : Nat} : ∀ (ps : List (Nat × AV)) (xs xs' : List AV), overEls z xs ps = some xs' → (∀ x ∈ xs, x.cells.length = z) → xs'.length = xs.length ∧ ∀ x ∈ xs', x.cells.length = z
  | [], xs, xs', h, hz => by simp [overEls] at h; subst h; exact ⟨rfl, hz⟩
  | (i, v) :: rest, xs, xs', h, hz => by
    simp only [overEls] at h
    split at h
    · rename_i hc
      obtain ⟨h1, h2⟩ := overEls_len rest _ xs' h (by
        intro x hx
        rcases List.mem_or_eq_of_mem_set hx with hx | rfl
        · exact hz x hx
        · rw [view_cells]; exact hc.1)
      exact ⟨by rw [h1]; simp, h2⟩
    · simp at h

theorem fillEls_ok (he : OkEv G w ev ρ) {z : Nat} : ∀ (parts : List (Nat × Operand)) (aps : List (Nat × VO)) (xs xs' : List AV) (arr : Array Value), partsEls parts = some aps →
      (∀ x ∈ xs, x.cells.length = z) → RepL G w (flat xs) arr.toList →
      overEls z xs (aps.map fun p => (p.1, ev p.2)) = some xs' → (∀ p ∈ aps, (ev p.2).good = true) →
      ∃ arr', Instr.fill (fun i => some (i * z, z)) arr (parts.map fun p => (p.1, ρ p.2)) = some arr' ∧ RepL G w (flat xs') arr'.toList
  | [], aps, xs, xs', arr, h, hz, hr, ho, _ => by
    simp [partsEls] at h; subst h
    simp [overEls] at ho; subst ho
    exact ⟨arr, by simp [Instr.fill], hr⟩
  | (i, x) :: rest, aps, xs, xs', arr, h, hz, hr, ho, hall => by
    simp only [partsEls] at h
    split at h
    · rename_i x' r' hx hrest
      simp only [Option.some.injEq] at h; subst h
      simp only [List.map_cons, overEls] at ho
      split at ho
      · rename_i hc
        have hok := good_inv (hall (i, x') (by simp))
        have hrep := (he _ _ hx).nl hok.1
        have hcl := RepL.cells hrep hok.2
        have hsz : (ρ x).cells.size = z := by have := hcl.1; simp at this; omega
        have hl : arr.size = xs.length * z := by have := hr.1; rw [flat_length hz] at this; simpa using this.symm
        have hb : i * z + z ≤ xs.length * z := by have := Nat.mul_le_mul_right z (show i + 1 ≤ xs.length by omega); rw [Nat.add_mul] at this; omega
        obtain ⟨r, hr1, hr2, hr3⟩ := fill_step (i * z) (ρ x) arr (by omega)
        have hz' : ∀ y ∈ xs.set i (ev x').view, y.cells.length = z := by
          intro y hy
          rcases List.mem_or_eq_of_mem_set hy with hy | rfl
          · exact hz y hy
          · rw [view_cells]; exact hc.1
        obtain ⟨arr', h1, h2⟩ := fillEls_ok he rest r' (xs.set i (ev x').view) xs' r hrest hz' (by
            refine ⟨by rw [flat_length hz']; simp [hr2, hl], fun k a v ha hv => ?_⟩
            rw [flat_set hz i _ (by rw [view_cells]; exact hc.1) hc.2] at ha
            have hv' : r[k]? = some v := by simpa using hv
            rw [hr3 k, hsz] at hv'
            split at ha
            · rename_i hk
              rw [if_pos hk] at hv'
              exact (view_cells_rep hcl).2 (k - i * z) a v ha (by simpa using hv')
            · rename_i hk
              rw [if_neg hk] at hv'
              exact hr.2 k a v ha (by simpa using hv')) ho (fun p hp => hall p (by simp [hp]))
        refine ⟨arr', ?_, h2⟩
        simp only [List.map_cons, Instr.fill]
        rw [if_neg (by simp [hsz]; omega), hr1]
        exact h1
      · simp at ho
    · simp at h

theorem flat_replicate {z : Nat} (x : AV) (hx : x.cells.length = z) : ∀ (n k : Nat), k < n * z → (flat (List.replicate n x))[k]? = x.cells[k % z]?
  | 0, k, h => by simp at h
  | n + 1, k, h => by
    have hz : 0 < z := Nat.pos_of_ne_zero (by rintro rfl; simp at h)
    simp only [List.replicate_succ, flat, List.flatMap_cons]
    by_cases hk : k < z
    · rw [List.getElem?_append_left (by omega), Nat.mod_eq_of_lt hk]
    · rw [List.getElem?_append_right (by omega), hx]
      have ih := flat_replicate x hx n (k - z) (by rw [Nat.add_mul] at h; omega)
      simp only [flat] at ih
      rw [ih, ← Nat.mod_eq_sub_mod (by omega)]

theorem range_map_get (f : Nat → Value) (n k : Nat) (h : k < n) : ((Array.range n).map f)[k]? = some (f k) := by
  simp [h]

/-- The zero cells of n elements. -/
theorem zero_row {za : AV} {zv : Value} {z : Nat} (hz : RepL G w za.cells zv.cells.toList) (hzl : za.cells.length = z) (n : Nat) :
    RepL G w (flat (List.replicate n za)) ((Array.range (n * z)).map (zv.cells[· % zv.cells.size]!)).toList := by
  have hzs : zv.cells.size = z := by have := hz.1; simp at this; omega
  have hall : ∀ x ∈ List.replicate n za, x.cells.length = z := by intro x hx; rw [List.mem_replicate] at hx; rw [hx.2]; exact hzl
  refine ⟨by rw [flat_length hall]; simp, fun k a v ha hv => ?_⟩
  obtain ⟨k1, _⟩ := List.getElem?_eq_some_iff.1 ha
  rw [flat_length hall, List.length_replicate] at k1
  rw [flat_replicate za hzl n k k1] at ha
  have hv' : ((Array.range (n * z)).map (zv.cells[· % zv.cells.size]!))[k]? = some v := by rw [← Array.getElem?_toList]; exact hv
  rw [range_map_get _ _ _ k1] at hv'
  have hpos : 0 < z := Nat.pos_of_ne_zero (by rintro rfl; simp at k1)
  have hm : k % z < zv.cells.size := by rw [hzs]; exact Nat.mod_lt _ hpos
  refine hz.2 (k % z) a v ha ?_
  rw [hzs] at hv'
  simp only [Option.some.injEq] at hv'
  rw [← hv']
  simp [hm]

theorem pure_buildSl {o : Oper} {t e : TypeId} {n z : Nat} {parts : Array (Nat × Operand)} {aps : List (Nat × VO)} {zv : Value} {za r : AV}
    (ho : o.op = .buildSlice t n parts) (ht : P.underlying t = some (.slice e)) (hs : szOf P e = some z) (hz : zeroOf P e = some zv) (hza : AV.ofValue zv = some za) (hzu : za ≠ .undef)
    (hsmall : n * z ≤ 2 ^ 24) (ha : partsEls parts.toList = some aps) (hv : pval ev (.buildSl z za n aps) = some r) (he : OkEv G w ev ρ) : Yields P ρ o G w d r := by
  simp only [pval] at hv
  split at hv
  · rename_i hzl
    split at hv
    · rename_i xs hxs
      split at hv
      · rename_i hall
        simp only [Option.some.injEq] at hv; subst hv
        have hzr : RepL G w za.cells zv.cells.toList := RepL.cells (Rep.ofValue G w hza) hzu
        have hrep0 : ∀ x ∈ List.replicate n za, x.cells.length = z := by intro x hx; rw [List.mem_replicate] at hx; rw [hx.2]; exact hzl
        obtain ⟨hl, hst⟩ := overEls_len _ _ _ hxs hrep0
        rw [List.length_replicate] at hl
        obtain ⟨arr', h1, h2⟩ := fillEls_ok he parts.toList aps _ xs _ ha hrep0 (zero_row hzr hzl n) hxs (fun p hp => by simpa using List.all_eq_true.1 hall p hp)
        have hsz : arr'.size = n * z := by have := h2.1; rw [flat_length hst, hl] at this; simpa using this.symm
        have hsr : (sizeOf e).run P w = .ok z w := sizeOf_run hs
        have hzz : (zeroValue e).run P w = .ok zv w := by
          unfold zeroOf at hz
          cases hi : P.info? e with
          | none => simp [hi] at hz
          | some it => simp [hi] at hz; simp [zeroValue, typeInfo, hi, hz]
        have h1' : Instr.fill (fun i => some (i * z, z)) ((Array.range (n * z)).map (zv.cells[· % zv.cells.size]!)) (parts.map fun (i, x) => (i, ρ x)).toList = some arr' := by
          have e1 : (parts.map fun (i, x) => (i, ρ x)).toList = parts.toList.map fun p => (p.1, ρ p.2) := by simp
          rw [e1]; exact h1
        have hrun : (execOp ρ o).run P w = .ok (.value (.slice (some ⟨w.heap.size, 0, none⟩) n n)) (w.alloc (.cells arr' e)) := by
          simp only [execOp, ho, Instr.buildSlice, Sem.run_bind, run_underlying ht, Result.andThen_ok, hsr]
          rw [if_neg (by omega)]
          by_cases hn0 : n * z = 0
          · have e0 : ((Array.range (n * z)).map ((#[] : Array Value)[· % (#[] : Array Value).size]!)) = ((Array.range (n * z)).map (zv.cells[· % zv.cells.size]!)) := by rw [hn0, Array.range_zero']; simp
            rw [if_pos hn0]
            simp only [Sem.run_pure, Result.andThen_ok, Sem.run_bind]
            rw [e0, h1']
            simp [newRow]
          · rw [if_neg hn0]
            simp only [Sem.run_bind, hzz, Result.andThen_ok, Sem.run_pure]
            rw [h1']
            simp [newRow]
        have hrep := new_vec (G := G) (Drawn.refl w) (some z) xs arr' e (0, 0) n z (.slot d, some (flat xs).length) (by omega) hst (.inr rfl) (by rw [flat_length hst, hl, hsz]; exact Nat.le_refl _)
          (fun j j1 j2 => h2.to_array.2 j j1 j2)
        have hown := new_own (G := G) (Drawn.refl w) d z xs arr' e n hst (by rw [hsz]; exact Nat.le_refl _)
        rw [hl] at hrep hown
        exact ⟨_, _, _, hrun, alloc_grow G (Drawn.refl w) _ _, .of hrep, hown⟩
      · simp at hv
    · simp at hv
  · simp at hv

theorem pure_mksl {o : Oper} {t e : TypeId} {z bytes : Nat} {l c : Operand} {l' c' : VO} {it : TypeInfo} {zv : Value} {za r : AV}
    (ho : o.op = .makeSlice t l c) (ht : P.underlying t = some (.slice e)) (hi : P.info? e = some it) (hs : it.size = z) (hb : it.bytes = bytes) (hz : it.zero = some zv)
    (hza : AV.ofValue zv = some za) (hzu : za ≠ .undef) (hl : trO l = some l') (hc : trO c = some c') (hv : pval ev (.mksl false z bytes za l' c') = some r) (he : OkEv G w ev ρ) : Yields P ρ o G w d r := by
  simp only [pval] at hv
  have hl := he _ _ hl
  have hc := he _ _ hc
  split at hv
  · rename_i ln cn hlv hcv
    rw [hlv] at hl; rw [hcv] at hc
    have el := hl.int_inv; have ec := hc.int_inv
    split at hv
    · rename_i hh
      obtain ⟨h0, hlc, hbt, h63, hzl⟩ := hh
      simp only [Option.some.injEq] at hv; subst hv
      have hzr : RepL G w za.cells zv.cells.toList := RepL.cells (Rep.ofValue G w hza) hzu
      have hrun := run_make (P := P) w t e it zv ht hi hz .i64 .i64 ln cn h0 hlc (by rw [hb]; omega) (by omega)
      rw [← el, ← ec, hs] at hrun
      have hzs : zv.cells.size = z := by have := hzr.1; simp at this; omega
      have harr : madeCells zv.cells (cn.toNat * z) = (Array.range (cn.toNat * z)).map (zv.cells[· % zv.cells.size]!) := rfl
      have hrow := zero_row hzr hzl cn.toNat
      have hst : ∀ x ∈ List.replicate ln.toNat za, x.cells.length = z := by intro x hx; rw [List.mem_replicate] at hx; rw [hx.2]; exact hzl
      have hst' : ∀ x ∈ List.replicate cn.toNat za, x.cells.length = z := by intro x hx; rw [List.mem_replicate] at hx; rw [hx.2]; exact hzl
      have hle : ln.toNat * z ≤ cn.toNat * z := Nat.mul_le_mul_right z (by omega)
      have hsz : (madeCells zv.cells (cn.toNat * z)).size = cn.toNat * z := by rw [harr]; simp
      have hrep := new_vec (G := G) (Drawn.refl w) (some z) (List.replicate ln.toNat za) (madeCells zv.cells (cn.toNat * z)) e (0, 0) cn.toNat z
        (.slot d, some (flat (List.replicate ln.toNat za)).length) (by simp; omega) hst (.inr rfl) (by rw [flat_length hst, List.length_replicate, hsz]; exact hle)
        (by
          intro j j1 j2
          have h1 : j < ln.toNat * z := by rw [flat_length hst, List.length_replicate] at j1; exact j1
          refine hrow.2 j _ _ ?_ ?_
          · rw [flat_replicate za hzl cn.toNat j (by omega), ← flat_replicate za hzl ln.toNat j h1, List.getElem?_eq_getElem j1]
          · rw [← harr]; simp [j2])
      have hown := new_own (G := G) (Drawn.refl w) d z (List.replicate ln.toNat za) (madeCells zv.cells (cn.toNat * z)) e cn.toNat hst (by rw [hsz]; exact Nat.le_refl _)
      rw [List.length_replicate] at hrep hown
      refine ⟨_, _, _, ?_, alloc_grow G (Drawn.refl w) _ _, .of hrep, hown⟩
      simp only [execOp, ho, Sem.run_bind, hrun, Result.andThen_ok, Sem.run_pure]
    · simp at hv
  · simp at hv

theorem slice_string_run (s : ByteArray) (t : TypeId) (ht : P.underlying t = some .string) (lo hi : Option Value) (l h : Nat) (hh : h ≤ s.size) (hl : l ≤ h)
    (e1 : (∃ k, lo = some (.int k l)) ∨ (lo = none ∧ l = 0)) (e2 : (∃ k, hi = some (.int k h)) ∨ (hi = none ∧ h = s.size)) :
    (Instr.sliceAt t (.string s) lo hi none).run P w = .ok (.string (s.extract l h)) w := by
  have c1 : ((0 : Int) ≤ (h : Int) ∧ (h : Int) ≤ (s.size : Int)) := by omega
  have c2 : ((0 : Int) ≤ (l : Int) ∧ (l : Int) ≤ (h : Int)) := by omega
  have c3 : ((h : Nat) ≤ s.size) := hh
  rcases e1 with ⟨k, rfl⟩ | ⟨rfl, rfl⟩ <;> rcases e2 with ⟨k', rfl⟩ | ⟨rfl, rfl⟩ <;>
    simp [Instr.sliceAt, run_underlying ht, Instr.slice, Instr.sliceBounds, Instr.sliceBound, asIntOf, hh, hl]

theorem extract_list (s : ByteArray) (l h : Nat) : (s.extract l h).data.toList = (s.data.toList.take h).drop l := by
  simp
  rw [List.drop_take]

theorem pure_slStr {o : Oper} {t : TypeId} {x : Operand} {x' : VO} {lo hi : Option Operand} {lo' hi' : Option VO} {r : AV} (ho : o.op = .slice t x lo hi none) (ht : P.underlying t = some .string)
    (hx : trO x = some x') (hlo : trOpt lo = some lo') (hhi : trOpt hi = some hi') (hp : pval ev (.slStr x' lo' hi') = some r) (he : OkEv G w ev ρ) : Yields P ρ o G w d r := by
  simp only [pval] at hp
  have hx := he _ _ hx
  split at hp
  · rename_i sl hv
    rw [hv] at hx
    obtain ⟨s, e1, rfl⟩ := hx.str_inv
    have hlen : s.data.toList.length = s.size := Array.length_toList
    have key : ∀ (l h : Nat), ((∃ k, lo.map ρ = some (.int k l)) ∨ (lo.map ρ = none ∧ l = 0)) → ((∃ k, hi.map ρ = some (.int k h)) ∨ (hi.map ρ = none ∧ h = s.size)) → l ≤ h → h ≤ s.size →
        r = .str ((s.data.toList.take h).drop l) → Yields P ρ o G w d r := by
      intro l h k1 k2 h1 h2 hr
      subst hr
      refine .same (v := .string (s.extract l h)) ?_ (.of ?_) trivial
      · have := slice_string_run (P := P) (w := w) s t ht (lo.map ρ) (hi.map ρ) l h h2 h1 k1 k2
        simp only [execOp, ho, Option.map_none, e1, Sem.run_bind, this, Result.andThen_ok, Sem.run_pure]
      · rw [← extract_list]; exact .str _
    have hL : ∀ k n, optV ev lo' (.int .i64 0) = AV.int k n → 0 ≤ n → (∃ k, lo.map ρ = some (.int k n.toNat)) ∨ (lo.map ρ = none ∧ n.toNat = 0) := by
      intro k n e hn
      cases lo with
      | none => simp [trOpt] at hlo; subst hlo; simp [optV] at e; exact .inr ⟨rfl, by omega⟩
      | some y =>
        simp only [trOpt] at hlo
        split at hlo
        · rename_i y' hy
          simp only [Option.some.injEq] at hlo; subst hlo
          simp only [optV] at e
          have := he _ _ hy
          rw [e] at this
          exact .inl ⟨k, by simp [this.int_inv]; omega⟩
        · simp at hlo
    have hH : ∀ k n, optV ev hi' (.int .i64 s.data.toList.length) = AV.int k n → 0 ≤ n → (∃ k, hi.map ρ = some (.int k n.toNat)) ∨ (hi.map ρ = none ∧ n.toNat = s.size) := by
      intro k n e hn
      cases hi with
      | none => simp [trOpt] at hhi; subst hhi; simp only [optV, AV.int.injEq] at e; exact .inr ⟨rfl, by omega⟩
      | some y =>
        simp only [trOpt] at hhi
        split at hhi
        · rename_i y' hy
          simp only [Option.some.injEq] at hhi; subst hhi
          simp only [optV] at e
          have := he _ _ hy
          rw [e] at this
          exact .inl ⟨k, by simp [this.int_inv]; omega⟩
        · simp at hhi
    split at hp
    · rename_i k1 l k2 h e2 e3
      split at hp
      · rename_i hc
        simp only [Option.some.injEq] at hp
        exact key l.toNat h.toNat (hL _ _ e2 hc.1) (hH _ _ e3 (by omega)) (by omega) (by omega) hp.symm
      · simp at hp
    · simp at hp
  · simp at hp

end
end Go.Vm
