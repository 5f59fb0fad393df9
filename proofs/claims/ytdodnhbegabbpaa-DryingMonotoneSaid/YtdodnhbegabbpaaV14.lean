/- Taking out of a cell, what a closure takes along, slices of slices. -/
import Derived.Test.YtdodnhbegabbpaaV13
namespace Go.Vm

section
variable {P : Program} {ρ : Operand → Value} {G0 : Gh} {w0 : World} {G : Gh} {w : World} {s : St} {tv : Nat → Value} {d : Nat} {o : Oper}

theorem wrote_self {b : Nat} {ob : Obj} (h : w.heap[b]? = some ob) : Wrote b ob w w := ⟨rfl, rfl, rfl, rfl, h, fun _ _ => rfl⟩

/-- A cell gives its value away, with the right to append. -/
theorem Inv.takeCell (h : Inv G0 w0 G w s tv) {ix : Ix} {cs : List AV} {off z : Nat} {nn : Bool} {xs : List AV} {b : Nat} {arr : Array Value} {T : TypeId} (hobj : s.obj ix = some (.cells false cs)) (hb : G.at ix = some b)
    (hh : w.heap[b]? = some (.cells arr T (0, 0))) (hv : cs[off]? = some (.vec (some z) nn xs)) (hoff : off < arr.size) (ow : Owner) :
    ∃ G', Inv G0 w0 G' w (s.setObj ix (.cells false (cs.set off (.vec none nn xs)))) tv ∧ RepT G' w (.vec (some z) nn xs) arr[off] ∧ OwnAt G' w ow (.vec (some z) nn xs) arr[off] := by
  obtain ⟨b', hb', hlt, hat⟩ := h.obj _ _ hobj
  rw [hb] at hb'
  simp only [Option.some.injEq] at hb'
  subst hb'
  obtain ⟨hrole, arr', T', hh', hl, hcell⟩ := objAt_inv hat
  rw [hh] at hh'
  simp only [Option.some.injEq, Obj.cells.injEq, and_true] at hh'
  obtain ⟨rfl, rfl⟩ := hh'
  obtain ⟨k1, e1⟩ := List.getElem?_eq_some_iff.1 hv
  have hc := hcell off k1 hoff
  rw [e1] at hc
  have hdrop : Inv G0 w0 G w (s.setObj ix (.cells false (cs.set off (.vec none nn xs)))) tv := by
    refine h.wrote hobj hb hrole (wrote_self hh) fun _ => ⟨hrole, arr, T, hh, by simp [hl], fun j j1 j2 => ?_⟩
    simp only [List.length_set] at j1
    by_cases hj : j = off
    · subst hj
      simp only [List.getElem_set_self]
      exact ⟨hc.1.view, OwnAt.of_notOwn trivial⟩
    · simp only [List.getElem_set_ne (Ne.symm hj)]
      exact hcell j j1 j2
  by_cases hcl : ∃ b, Claims (.vec (some z) nn xs) arr[off] b
  · obtain ⟨bb, hcl⟩ := hcl
    have hro := hc.2.role hcl
    obtain ⟨z', nn', xs', off', len, cap, e2, e3, hne⟩ := hcl
    simp only [AV.vec.injEq, Option.some.injEq] at e2
    obtain ⟨rfl, rfl, rfl⟩ := e2
    rcases (hc.2 z nn xs rfl).2 bb off' len cap e3 with h1 | ⟨h1, h2, h3⟩
    · exact absurd h1 hne
    · have hst : ∀ o, stable G.role bb o → stable (G.newRole bb (ow, some (off' + (flat xs).length))).role bb o := by
        intro o ho
        unfold stable at ho ⊢
        rw [h2] at ho
        rw [newRole_at]
        exact ho
      refine ⟨G.newRole bb (ow, some (off' + (flat xs).length)), hdrop.recl hro ⟨by simp, by simp⟩ hst (fun t' et => by simp at et) (fun x j bx cs' arr' T' ex ey eat ehp j1 j2 => ?_), .of (hc.1.mono (.newRole hst)), ?_⟩
      · simp only [Owner.cell.injEq] at ex
        obtain ⟨rfl, rfl⟩ := ex
        rw [obj_setObj hobj] at ey
        simp only [Option.some.injEq, LObj.cells.injEq, true_and] at ey
        subst ey
        rintro ⟨z'', nn'', xs'', _, _, _, e4, _⟩
        simp at e4
      · intro z'' nn'' xs'' e4
        simp only [AV.vec.injEq, Option.some.injEq] at e4
        obtain ⟨rfl, rfl, rfl⟩ := e4
        refine ⟨(hc.2 z nn xs rfl).1, fun b' off'' len' cap' e5 => ?_⟩
        rw [e3] at e5
        simp only [Value.slice.injEq, Option.some.injEq, Addr.mk.injEq, and_true] at e5
        obtain ⟨⟨rfl, rfl⟩, rfl, rfl⟩ := e5
        exact .inr ⟨h1, newRole_at _ _ _, h3⟩
  · refine ⟨G, hdrop, .of hc.1, ?_⟩
    intro z' nn' xs' e3
    refine ⟨(hc.2 z' nn' xs' e3).1, fun b' off' len cap e4 => .inl ?_⟩
    refine Classical.byContradiction fun hne => hcl ⟨b', z', nn', xs', off', len, cap, e3, e4, hne⟩

theorem does_loadTake {t : TypeId} {x : Operand} {x' : VO} {a : AV} {s' : St} (hI : Inv G0 w0 G w s tv) (ho : o.op = .load t x) (hxx : trO x = some x') (ha : aggOf P t = some none) (he : OkEv G w s.ev ρ)
    (hx : exec d (.loadTake x') s = some (a, s')) : Does P ρ o G0 w0 w tv d a s' := by
  have hr := he _ _ hxx
  have hagg : (isAgg t).run P w = .ok false w := by
    unfold aggOf at ha
    cases hu : P.underlying t with
    | none => simp [hu] at ha
    | some d => cases d <;> simp only [hu] at ha <;> first | (split at ha <;> simp at ha; done) | simp [isAgg, run_underlying hu]
  simp only [exec] at hx
  split at hx
  · rename_i ix off hv
    rw [hv] at hr
    obtain ⟨b, hb, e1⟩ := hr.ptr_inv
    split at hx
    · rename_i cs hcs
      unfold objCells at hcs
      split at hcs
      · rename_i fz cs' hobj
        simp at hcs
        obtain ⟨rfl, rfl⟩ := hcs
        obtain ⟨b', hb', hlt, hat⟩ := hI.obj _ _ hobj
        rw [hb] at hb'
        simp only [Option.some.injEq] at hb'
        subst hb'
        obtain ⟨hrole, arr, T, hh, hl, hcell⟩ := objAt_inv hat
        have hrun : ∀ (h : off < arr.size), (execOp ρ o).run P w = .ok (.value arr[off]) w := by
          intro h
          have : w.cell? ⟨b, off, none⟩ = some arr[off] := by simp [World.cell?, hh, h]
          simp [execOp, ho, Instr.loadAt, e1, Instr.sureAddr, loadVar, hagg, this]
        split at hx
        · rename_i z nn xs hcv
          simp only [Option.some.injEq, Prod.mk.injEq] at hx
          obtain ⟨rfl, rfl⟩ := hx
          obtain ⟨k1, _⟩ := List.getElem?_eq_some_iff.1 hcv
          have hoff : off < arr.size := by omega
          obtain ⟨G', i1, r1, o1⟩ := hI.takeCell hobj hb hh hcv hoff (.slot d)
          exact ⟨_, w, G', .inl (hrun hoff), i1, r1, o1⟩
        · rename_i v hnv hcv
          simp only [Option.some.injEq, Prod.mk.injEq] at hx
          obtain ⟨rfl, rfl⟩ := hx
          obtain ⟨k1, e2⟩ := List.getElem?_eq_some_iff.1 hcv
          have hoff : off < arr.size := by omega
          have hc := hcell off k1 hoff
          rw [e2] at hc
          exact ⟨_, w, G, .inl (hrun hoff), hI, .of hc.1, OwnAt.of_not fun z nn xs e => hnv z nn xs (by rw [e] )⟩
        · simp at hx
      · simp at hcs
    · simp at hx
  · simp at hx

/-- An object is written no more. -/
theorem Inv.freeze (h : Inv G0 w0 G w s tv) {x : Ix} {fz : Bool} {cs : List AV} {b : Nat} (hobj : s.obj x = some (.cells fz cs)) (hb : G.at x = some b) :
    ∃ G', Inv G0 w0 G' w (s.setObj x (.cells true (cs.map AV.view))) tv ∧ Rep G' w (.vptr (cs.map AV.view) 0) (.pointer (some ⟨b, 0, none⟩)) ∧ Le G w G' w ∧ G'.mb = G.mb ∧ G'.lb = G.lb := by
  obtain ⟨b', hb', hlt, hat⟩ := h.obj _ _ hobj
  rw [hb] at hb'
  simp only [Option.some.injEq] at hb'
  subst hb'
  have vp : ∀ (G' : Gh) (vals : Nat → Value), (∀ (j : Nat) (h : j < cs.length), stable G'.role b j ∧ w.cell? ⟨b, j, none⟩ = some (vals j) ∧ Rep G' w cs[j] (vals j)) →
      Rep G' w (.vptr (cs.map AV.view) 0) (.pointer (some ⟨b, 0, none⟩)) ∧ ObjAt G' w x b (.cells true (cs.map AV.view)) := by
    intro G' vals hc
    have := Rep.vptr (G := G') (w := w) (cs.map AV.view) 0 b 0 vals (fun j hj => by
      simp only [List.length_map] at hj
      rw [Nat.zero_add]
      exact ⟨(hc j hj).1, (hc j hj).2.1⟩) (fun j hj => by
      simp only [List.length_map] at hj
      simpa using (hc j hj).2.2.view)
    refine ⟨by simpa using this, vals, fun j hj => ?_⟩
    simp only [List.length_map] at hj
    exact ⟨(hc j hj).1, (hc j hj).2.1, by simpa using (hc j hj).2.2.view⟩
  cases fz with
  | true =>
    obtain ⟨vals, hc⟩ := hat
    obtain ⟨v1, v2⟩ := vp G vals hc
    refine ⟨G, ?_, v1, .refl G w, rfl, rfl⟩
    refine { h with tmp := by rw [(setObj_lens s x _).2.2]; exact h.tmp, own := by rw [(setObj_lens s x _).2.2]; exact h.own, obj := fun y lo e => ?_, mlen := fun i hi => h.mlen i (by rw [← (setObj_lens s x (.cells true (cs.map AV.view))).2.1]; exact hi), llen := fun t k hk => h.llen t k (by rw [← (setObj_lens s x (.cells true (cs.map AV.view))).1 t]; exact hk) }
    by_cases hy : y = x
    · subst hy
      rw [obj_setObj hobj] at e
      simp only [Option.some.injEq] at e
      subst e
      exact ⟨b, hb, hlt, v2⟩
    · rw [obj_setObj_ne hy] at e
      exact h.obj y lo e
  | false =>
    obtain ⟨hr, arr, T, hh, hl, hc⟩ := objAt_inv hat
    have hst : ∀ o, stable G.role b o → stable (G.newRole b (.ext, none)).role b o := fun o _ => by simp [stable, newRole_at]
    have hle : Le G w (G.newRole b (.ext, none)) w := .newRole hst
    obtain ⟨v1, v2⟩ := vp (G.newRole b (.ext, none)) (fun j => arr.getD j undef) (fun j hj => by
      have h2 : j < arr.size := by omega
      have := (hc j hj h2).1.mono hle
      exact ⟨by simp [stable, newRole_at], by simp [World.cell?, hh, h2], by simpa [h2] using this⟩)
    refine ⟨G.newRole b (.ext, none), ?_, v1, hle, rfl, rfl⟩
    have hne : ∀ b', (G.role b').1 ≠ .obj x → b' ≠ b := fun b' e eb => by subst eb; exact e (by rw [hr])
    refine { os := h.os, tape := h.tape, output := h.output, size := h.size, tmp := fun t => ?_, own := fun t => ?_, obj := fun y lo e => ?_, ext := fun b' hb' e => ?_, le := h.le.trans hle,
             mlen := fun i hi => h.mlen i (by rw [← (setObj_lens s x (.cells true (cs.map AV.view))).2.1]; exact hi), llen := fun t k hk => h.llen t k (by rw [← (setObj_lens s x (.cells true (cs.map AV.view))).1 t]; exact hk) }
    · rw [(setObj_lens s x _).2.2]; exact (h.tmp t).mono hle (fun _ _ _ e => e)
    · rw [(setObj_lens s x _).2.2]
      exact (h.own t).keep (Nat.le_refl _) fun b' c => ⟨newRole_ne _ _ (hne b' (by rw [(h.own t).role c]; simp)), fun k h1 h2 => ⟨h1, h2⟩⟩
    · by_cases hy : y = x
      · subst hy
        rw [obj_setObj hobj] at e
        simp only [Option.some.injEq] at e
        subst e
        exact ⟨b, hb, hlt, v2⟩
      · rw [obj_setObj_ne hy] at e
        obtain ⟨by_, h1, h2, h3⟩ := h.obj y lo e
        exact ⟨by_, h1, h2, h3.keep hle (Nat.le_refl _) (fun e => ⟨newRole_ne _ _ (hne by_ (by rw [e]; simpa using hy)), rfl⟩) fun j a v b' ho c => ⟨newRole_ne _ _ (hne b' (by rw [ho.role c]; simp)), fun k h1 h2 => ⟨h1, h2⟩⟩⟩
    · obtain ⟨k1, k2⟩ := h.ext b' hb' e
      exact ⟨k1, (newRole_ne _ _ (hne b' (by rw [k2, e]; simp))).trans k2⟩

theorem capture_ok : ∀ (as : List AV) (vals : List Value) (G : Gh) (s s' : St) (vs : List AV), Inv G0 w0 G w s tv → capture as s = some (vs, s') → as.length = vals.length →
      (∀ (i : Nat) (h1 : i < as.length) (h2 : i < vals.length), RepT G w as[i] vals[i]) →
      ∃ G', Inv G0 w0 G' w s' tv ∧ RepL G' w vs vals ∧ Le G w G' w ∧ G'.lb = G.lb
  | [], vals, G, s, s', vs, hI, hc, hl, _ => by
    simp [capture] at hc
    obtain ⟨rfl, rfl⟩ := hc
    have : vals = [] := by cases vals <;> simp_all
    subst this
    exact ⟨G, hI, ⟨rfl, fun i a v ha => by simp at ha⟩, .refl G w, rfl⟩
  | a :: rest, vals, G, s, s', vs, hI, hc, hl, hr => by
    cases vals with
    | nil => simp at hl
    | cons v vals =>
      have h0 := hr 0 (by simp) (by simp)
      simp only [List.getElem_cons_zero] at h0
      have cons : ∀ (G' : Gh) (x : AV) (xs : List AV), Rep G' w x v → RepL G' w xs vals → RepL G' w (x :: xs) (v :: vals) := by
        intro G' x xs hx hxs
        refine ⟨by simp [hxs.1], fun i a' v' ha hv => ?_⟩
        cases i with
        | zero => simp at ha hv; subst ha; subst hv; exact hx
        | succ i => exact hxs.2 i a' v' (by simpa using ha) (by simpa using hv)
      simp only [capture] at hc
      split at hc
      · rename_i t k
        split at hc
        · rename_i cs hcs
          split at hc
          · rename_i vs1 s1 hrest
            simp only [Option.some.injEq, Prod.mk.injEq] at hc
            obtain ⟨rfl, rfl⟩ := hc
            obtain ⟨b, hb, e1⟩ := h0.ptr_inv
            unfold objCells at hcs
            split at hcs
            · rename_i fz cs' hobj
              simp at hcs; subst hcs
              obtain ⟨G1, i1, r1, l1, m1, m2⟩ := hI.freeze hobj hb
              obtain ⟨G2, i2, r2, l2, m3⟩ := capture_ok rest vals G1 _ s1 vs1 i1 hrest (by simpa using hl) (fun i j1 j2 => by
                have := hr (i + 1) (by simp; omega) (by simp; omega)
                simp only [List.getElem_cons_succ] at this
                exact this.mono l1 (fun t k b e => by rw [m2]; exact e))
              refine ⟨G2, i2, cons G2 _ _ ?_ r2, l1.trans l2, m3.trans m2⟩
              rw [e1]; exact r1.mono l2
            · simp at hcs
          · simp at hc
        · simp at hc
      · rename_i hnp
        split at hc
        · rename_i hn
          split at hc
          · rename_i vs1 s1 hrest
            simp only [Option.some.injEq, Prod.mk.injEq] at hc
            obtain ⟨rfl, rfl⟩ := hc
            obtain ⟨G2, i2, r2, l2, m3⟩ := capture_ok rest vals G s s1 vs1 hI hrest (by simpa using hl) (fun i j1 j2 => by
              have := hr (i + 1) (by simp; omega) (by simp; omega)
              simpa using this)
            exact ⟨G2, i2, cons G2 _ _ (((h0.nl hn).view).mono l2) r2, l2, m3⟩
          · simp at hc
        · simp at hc

theorem does_mkfn {f : Fn} {caps : Array Operand} {caps' : List VO} {a : AV} {s' : St} (hI : Inv G0 w0 G w s tv) (ho : o.op = .makeFunc f #[] caps) (hc : trList caps.toList = some caps') (he : OkEv G w s.ev ρ)
    (hx : exec d (.mkfn f caps') s = some (a, s')) : Does P ρ o G0 w0 w tv d a s' := by
  simp only [exec] at hx
  split at hx
  · rename_i vs s1 hcap
    simp only [Option.some.injEq, Prod.mk.injEq] at hx
    obtain ⟨rfl, rfl⟩ := hx
    obtain ⟨hl, hr⟩ := trList_ok he hc
    obtain ⟨G1, i1, r1, l1, m1⟩ := capture_ok (G0 := G0) (w0 := w0) (w := w) (tv := tv) (caps'.map s.ev) (caps.toList.map ρ) G s s1 vs hI hcap (by simpa using hl) (fun i j1 j2 => by
      simp only [List.length_map] at j1 j2
      simpa using hr i j1 j2)
    refine ⟨.func f #[] (caps.map ρ), w, G1, .inl ?_, i1, .of ?_, OwnAt.of_notOwn trivial⟩
    · simp [execOp, ho, Instr.makeFunc]
    · have e : (caps.map ρ).toList = caps.toList.map ρ := by simp
      rw [← e] at r1
      have := r1.to_array
      exact .fn f vs _ this.1 this.2
  · simp at hx

end
end Go.Vm
