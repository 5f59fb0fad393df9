/- append. -/
import Derived.Test.YtdodnhbegabbpaaV15
namespace Go.Vm

section
variable {P : Program} {ρ : Operand → Value} {G0 : Gh} {w0 : World} {G : Gh} {w : World} {s : St} {tv : Nat → Value} {d : Nat} {o : Oper}

theorem heap_setCells (b : Nat) : ∀ (vs : List Value) (o : Nat) (w : World), (w.setCells b o vs).heap.size = w.heap.size ∧ (∀ b', b' ≠ b → (w.setCells b o vs).heap[b']? = w.heap[b']?) ∧
    (w.setCells b o vs).os = w.os ∧ (w.setCells b o vs).tape = w.tape ∧ (w.setCells b o vs).output = w.output
  | [], _, _ => ⟨rfl, fun _ _ => rfl, rfl, rfl, rfl⟩
  | v :: r, o, w => by
    obtain ⟨h1, h2, h3, h4, h5⟩ := heap_setCells b r (o + 1) (w.setCell ⟨b, o, none⟩ v)
    refine ⟨by rw [World.setCells, h1]; simp, fun b' hb' => ?_, h3, h4, h5⟩
    rw [World.setCells, h2 b' hb']
    simp only [World.setCell, Array.getElem?_modify]
    rw [if_neg (Ne.symm hb')]

/-- Cells behind a vector in flight are written. -/
theorem Inv.writeAir (h : Inv G0 w0 G w s tv) {b tip n : Nat} {ow : Owner} {vs : List Value} (hr : G.role b = (.air, some tip)) (hn : n = vs.length) :
    Inv G0 w0 (G.newRole b (ow, some (tip + n))) (w.setCells b tip vs) s tv ∧ Le G w (G.newRole b (ow, some (tip + n))) (w.setCells b tip vs) := by
  subst hn
  obtain ⟨h1, h2, h3, h4, h5⟩ := heap_setCells b vs tip w
  have hle : Le G w (G.newRole b (ow, some (tip + vs.length))) (w.setCells b tip vs) := by
    refine ⟨fun b' k u hs hc => ?_, fun _ _ e => e⟩
    by_cases e : b' = b
    · subst e
      have hk : k < tip := by unfold stable at hs; rw [hr] at hs; exact hs
      refine ⟨by unfold stable; rw [newRole_at]; show k < tip + vs.length; omega, ?_⟩
      rw [World.cell?_setCells_out b' vs tip w _ (fun _ _ => .inl hk)]
      exact hc
    · exact ⟨stable_of_role (newRole_ne _ _ e) hs, by rw [cell?_of_heap (h2 b' e)]; exact hc⟩
  refine ⟨?_, hle⟩
  have hne : ∀ b', (G.role b').1 ≠ .air → b' ≠ b := fun b' e eb => by subst eb; exact e (by rw [hr])
  have hcf : ∀ b', b' ≠ b → ∀ k, (∃ u, w.cell? ⟨b', k, none⟩ = some u) → w.frozen? ⟨b', k, none⟩ = false → (∃ u, (w.setCells b tip vs).cell? ⟨b', k, none⟩ = some u) ∧ (w.setCells b tip vs).frozen? ⟨b', k, none⟩ = false :=
    fun b' e k k1 k2 => ⟨by rw [cell?_of_heap (h2 b' e)]; exact k1, by rw [frozen?_of_heap (h2 b' e)]; exact k2⟩
  refine { os := h3.trans h.os, tape := h4.trans h.tape, output := h5.trans h.output, size := by rw [h1]; exact h.size, tmp := fun t => (h.tmp t).mono hle (fun _ _ _ e => e), own := fun t => ?_, obj := fun y lo e => ?_, ext := fun b' hb' e => ?_, le := h.le.trans hle, mlen := h.mlen, llen := h.llen }
  · exact (h.own t).keep (by rw [h1]; exact Nat.le_refl _) fun b' c => by
      have := hne b' (by rw [(h.own t).role c]; simp)
      exact ⟨newRole_ne _ _ this, hcf b' this⟩
  · obtain ⟨bx, k1, k2, k3⟩ := h.obj y lo e
    exact ⟨bx, k1, by rw [h1]; exact k2, k3.keep hle (by rw [h1]; exact Nat.le_refl _) (fun e => by
        have hb := hne bx (by rw [e]; simp)
        exact ⟨newRole_ne _ _ hb, h2 bx hb⟩) fun j a v b' ho c => by
      have := hne b' (by rw [ho.role c]; simp)
      exact ⟨newRole_ne _ _ this, hcf b' this⟩⟩
  · obtain ⟨k1, k2⟩ := h.ext b' hb' e
    have hb : b' ≠ b := hne b' (by rw [k2, e]; simp)
    exact ⟨(h2 b' hb).trans k1, (newRole_ne _ _ hb).trans k2⟩

/-- A row of values in memory that stands for elements. -/
theorem elems_vals {esz : Nat} {x : AV} {v : Value} {ys : List AV} (hr : RepT G w x v) (hy : elems? esz x = some ys) :
    (∀ y ∈ ys, y.cells.length = esz) ∧ (ys = [] ∨ ∃ (b off cap : Nat) (news : List Value), v = .slice (some ⟨b, off, none⟩) ys.length cap ∧ news.length = ys.length * esz ∧
      (∀ j u, news[j]? = some u → w.cell? (Addr.add ⟨b, off, none⟩ j) = some u) ∧ RepL G w (flat ys) news ∧ ∀ u ∈ news, u.oneCell' = true) ∧
    ((∃ c, v = .slice none 0 c ∧ ys = []) ∨ ∃ a c, v = .slice (some a) ys.length c) := by
  unfold elems? at hy
  split at hy
  · rename_i o nn xs
    split at hy
    · rename_i hall
      simp only [Option.some.injEq] at hy
      subst hy
      have hsz : ∀ y ∈ xs, y.cells.length = esz := by
        intro y hy
        have := List.all_eq_true.1 hall y hy
        simp at this
        exact this.1
      have hone : ∀ a ∈ flat xs, a.one = true := by
        intro a ha
        obtain ⟨y, hy, hay⟩ := List.mem_flatMap.1 ha
        have := List.all_eq_true.1 hall y hy
        simp at this
        exact this.2 a hay
      rcases hr.vec_inv with ⟨_, rfl, rfl⟩ | ⟨b, off, cap, st, vals, _, rfl, hcap, _, hc, hrep⟩
      · exact ⟨hsz, .inl rfl, .inl ⟨0, rfl, rfl⟩⟩
      · refine ⟨hsz, .inr ⟨b, off, cap, (List.range (xs.length * esz)).map vals, rfl, by simp, ?_, ?_, ?_⟩, .inr ⟨_, _, rfl⟩⟩
        · intro j u hj
          simp only [List.getElem?_map, Option.map_eq_some_iff] at hj
          obtain ⟨i, hi, rfl⟩ := hj
          have hlt : j < xs.length * esz := by
            rcases Nat.lt_or_ge j (xs.length * esz) with h' | h'
            · exact h'
            · rw [List.getElem?_eq_none (by simpa using h')] at hi; simp at hi
          rw [List.getElem?_range hlt] at hi
          simp only [Option.some.injEq] at hi
          subst hi
          rw [add_off]
          exact (hc j (by rw [flat_length hsz]; exact hlt)).2
        · refine ⟨by rw [flat_length hsz]; simp, fun i a u ha hu => ?_⟩
          obtain ⟨h1, rfl⟩ := List.getElem?_eq_some_iff.1 ha
          simp only [List.getElem?_map, Option.map_eq_some_iff] at hu
          obtain ⟨k, hk, rfl⟩ := hu
          rw [List.getElem?_range (by rw [flat_length hsz] at h1; exact h1)] at hk
          simp only [Option.some.injEq] at hk
          subst hk
          exact hrep i h1
        · intro u hu
          obtain ⟨k, hk, rfl⟩ := List.mem_map.1 hu
          have hk' : k < (flat xs).length := by rw [flat_length hsz]; simpa using hk
          exact oneCell_of (hrep k hk') (hone _ (List.getElem_mem hk'))
    · simp at hy
  · simp at hy

theorem builtin_append_run {c : Call} {a x : Operand} {t : TypeId} {v : Value} {w' : World} (ho : o.op = .call c) (h1 : c.callee = .builtin .append) (h2 : c.args = #[a, x]) (h3 : c.argTypes = #[t, t])
    (h : (Builtin.append_ #[t, t] o.type #[ρ a, ρ x]).run P w = .ok v w') : (execOp ρ o).run P w = .ok (.value v) w' := by
  simp [execOp, ho, resolve, h1, h2, h3, invoke, builtin, h]

/-- Nothing is appended. -/
theorem append_none_run {t e : TypeId} {it : TypeInfo} (ty : TypeId) (ht : P.underlying t = some (.slice e)) (hi : P.info? e = some it) (base : Option Addr) (len cap : Nat) (hcap : len ≤ cap) (v : Value)
    (hv : (∃ c, v = .slice none 0 c) ∨ ∃ a c, v = .slice (some a) 0 c) : (Builtin.append_ #[t, t] ty #[.slice base len cap, v]).run P w = .ok (.slice base len cap) w := by
  rcases hv with ⟨c, rfl⟩ | ⟨a, c, rfl⟩ <;> cases base <;>
    simp [Builtin.append_, run_underlying ht, sizeOf, typeInfo, hi, Builtin.lenOf, hcap, Builtin.firstCells, loadCells, loadCellsFrom, storeCells]

/-- There is room. -/
theorem append_fits_run {t e : TypeId} {it : TypeInfo} (ty : TypeId) (ht : P.underlying t = some (.slice e)) (hi : P.info? e = some it) (b off len cap : Nat) (a : Addr) (n c : Nat) (news : List Value) (hl : news.length = n * it.size)
    (hnews : ∀ j v, news[j]? = some v → w.cell? (a.add j) = some v) (hroom : len + n ≤ cap) (hcell : ∀ j, j < news.length → (w.cell? ⟨b, off + len * it.size + j, none⟩).isSome = true)
    (hfr : ∀ j, j < news.length → w.frozen? ⟨b, off + len * it.size + j, none⟩ = false) (hone : ∀ v ∈ news, v.oneCell' = true) :
    (Builtin.append_ #[t, t] ty #[.slice (some ⟨b, off, none⟩) len cap, .slice (some a) n c]).run P w = .ok (.slice (some ⟨b, off, none⟩) (len + n) cap) (w.setCells b (off + len * it.size) news) := by
  have hf := run_firstCells_some (P := P) w it.size n a n c news hl hnews
  have hst := run_storeCells_cells (P := P) b (off + len * it.size) news 0 w (by simpa using hcell) (by simpa using hfr) hone
  simp only [Nat.add_zero] at hst
  simp [Builtin.append_, run_underlying ht, sizeOf, typeInfo, hi, Builtin.lenOf, hroom, hf, add_off, hst]

end
end Go.Vm
