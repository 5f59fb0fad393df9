/- append, as a whole. -/
import Derived.Test.YtdodnhbegabbpaaV16
namespace Go.Vm

section
variable {P : Program} {ρ : Operand → Value} {G0 : Gh} {w0 : World} {G : Gh} {w : World} {s : St} {tv : Nat → Value} {d : Nat} {o : Oper}

theorem RepL.append {cs ds : List AV} {us vs : List Value} (h : RepL G w cs us) (k : RepL G w ds vs) : RepL G w (cs ++ ds) (us ++ vs) := by
  refine ⟨by simp [h.1, k.1], fun i a v ha hv => ?_⟩
  by_cases hi : i < cs.length
  · rw [List.getElem?_append_left hi] at ha
    rw [List.getElem?_append_left (by rw [← h.1]; exact hi)] at hv
    exact h.2 i a v ha hv
  · rw [List.getElem?_append_right (by omega)] at ha
    rw [List.getElem?_append_right (by rw [← h.1]; omega), ← h.1] at hv
    exact k.2 _ a v ha hv

theorem RepL.flatView {ys : List AV} {vs : List Value} (h : RepL G w (flat ys) vs) : RepL G w (flat (ys.map AV.view)) vs := by
  refine ⟨by rw [flat_view_len]; exact h.1, fun i a v ha hv => ?_⟩
  obtain ⟨h1, rfl⟩ := List.getElem?_eq_some_iff.1 ha
  have h2 : i < (flat ys).length := by rw [← flat_view_len]; exact h1
  exact flat_view_rep h1 h2 (h.2 i _ v (List.getElem?_eq_getElem h2) hv)

theorem RepL.get {cs : List AV} {vs : List Value} (h : RepL G w cs vs) (i : Nat) (h1 : i < cs.length) (h2 : i < vs.length) : Rep G w cs[i] vs[i] :=
  h.2 i _ _ (List.getElem?_eq_getElem h1) (List.getElem?_eq_getElem h2)

/-- A value in flight, appended to. -/
theorem append_air {c : Call} {a x : Operand} {t e : TypeId} {it : TypeInfo} {zv : Value} {xs ys : List AV} {nn : Bool} {yv : AV} (hI : Inv G0 w0 G w s tv) (ho : o.op = .call c) (hc1 : c.callee = .builtin .append) (hc2 : c.args = #[a, x]) (hc3 : c.argTypes = #[t, t])
    (ht : P.underlying t = some (.slice e)) (hi : P.info? e = some it) (hz : it.zero = some zv) (hzs : zv.cells.size = it.size)
    (hra : RepT G w (.vec (some it.size) nn xs) (ρ a)) (hoa : OwnAt G w .air (.vec (some it.size) nn xs) (ρ a)) (hrx : RepT G w yv (ρ x)) (hy : elems? it.size yv = some ys)
    (hb0 : 0 < it.bytes) (hb : (xs.length + ys.length) * it.bytes ≤ 140737488355328) :
    Does P ρ o G0 w0 w tv d (.vec (some it.size) (nn || !ys.isEmpty) (xs ++ ys.map AV.view)) s := by
  obtain ⟨hysz, hyv, hyf⟩ := elems_vals hrx hy
  have hxsz : ∀ x ∈ xs, x.cells.length = it.size := (hoa _ _ _ rfl).1
  have hvsz : ∀ x ∈ ys.map AV.view, x.cells.length = it.size := by
    intro x hx
    obtain ⟨y, hy, rfl⟩ := List.mem_map.1 hx
    rw [view_cells]; exact hysz y hy
  have hall : ∀ x ∈ xs ++ ys.map AV.view, x.cells.length = it.size := by
    intro x hx
    rcases List.mem_append.1 hx with h | h
    · exact hxsz x h
    · exact hvsz x h
  rcases hyv with hynil | ⟨b2, off2, cap2, news, ey, hnl, hncell, hnrep, hnone⟩
  · -- nothing to append
    subst hynil
    obtain ⟨G2, i2, r2, o2, _⟩ := hI.land hra hoa (.slot d)
    have hres : (.vec (some it.size) (nn || !([] : List AV).isEmpty) (xs ++ ([] : List AV).map AV.view) : AV) = .vec (some it.size) nn xs := by simp
    rw [hres]
    have hlc : ∃ base len cap, ρ a = .slice base len cap ∧ len ≤ cap := by
      rcases hra.vec_inv with ⟨_, rfl, e1⟩ | ⟨b, off, cap, st, vals, _, e1, hcap, _⟩
      · exact ⟨_, _, _, e1, Nat.le_refl _⟩
      · exact ⟨_, _, _, e1, hcap⟩
    obtain ⟨base, len, cap, e1, hlc⟩ := hlc
    refine ⟨ρ a, w, G2, .inl (builtin_append_run ho hc1 hc2 hc3 ?_), i2, r2, o2⟩
    rw [e1]
    refine append_none_run o.type ht hi base len cap hlc (ρ x) ?_
    rcases hyf with ⟨c, e2, _⟩ | ⟨a', c, e2⟩
    · exact .inl ⟨c, e2⟩
    · exact .inr ⟨a', c, e2⟩
  · by_cases hys : ys = []
    · subst hys
      obtain ⟨G2, i2, r2, o2, _⟩ := hI.land hra hoa (.slot d)
      have hres : (.vec (some it.size) (nn || !([] : List AV).isEmpty) (xs ++ ([] : List AV).map AV.view) : AV) = .vec (some it.size) nn xs := by simp
      rw [hres]
      have hlc : ∃ base len cap, ρ a = .slice base len cap ∧ len ≤ cap := by
        rcases hra.vec_inv with ⟨_, rfl, e1⟩ | ⟨b, off, cap, st, vals, _, e1, hcap, _⟩
        · exact ⟨_, _, _, e1, Nat.le_refl _⟩
        · exact ⟨_, _, _, e1, hcap⟩
      obtain ⟨base, len, cap, e1, hlc⟩ := hlc
      refine ⟨ρ a, w, G2, .inl (builtin_append_run ho hc1 hc2 hc3 ?_), i2, r2, o2⟩
      rw [e1]
      exact append_none_run o.type ht hi base len cap hlc (ρ x) (.inr ⟨_, _, ey⟩)
    · have hn0 : 0 < ys.length := List.length_pos_iff.2 hys
      have hnn : (nn || !ys.isEmpty) = true := by cases ys <;> simp_all
      rw [hnn]
      have hneed : xs.length + ys.length ≤ 140737488355328 := by
        have : (xs.length + ys.length) * 1 ≤ (xs.length + ys.length) * it.bytes := Nat.mul_le_mul_left _ hb0
        omega
      have hflen : (flat (xs ++ ys.map AV.view)).length = (xs.length + ys.length) * it.size := by rw [flat_length hall]; simp
      have hzz : ∀ k, (Builtin.zeroCells zv.cells k).size = k * it.size := by intro k; simp [Builtin.zeroCells, hzs]
      -- a new block
      have fresh : ∀ (olds : List Value) (capN : Nat), RepL G w (flat xs) olds → olds.length = xs.length * it.size → xs.length + ys.length ≤ capN →
          (Builtin.append_ #[t, t] o.type #[ρ a, ρ x]).run P w = .ok (.slice (some ⟨w.heap.size, 0, none⟩) (xs.length + ys.length) capN) (w.drew.alloc (.cells (olds.toArray ++ news.toArray ++ Builtin.zeroCells zv.cells (capN - (xs.length + ys.length))) e)) →
          Does P ρ o G0 w0 w tv d (.vec (some it.size) true (xs ++ ys.map AV.view)) s := by
        intro olds capN hold hol hcap hrun
        have hsz : (olds.toArray ++ news.toArray ++ Builtin.zeroCells zv.cells (capN - (xs.length + ys.length))).size = capN * it.size := by
          simp only [Array.size_append, List.size_toArray, hzz, hol, hnl]
          rw [← Nat.add_mul, ← Nat.add_mul]
          congr 1
          omega
        have hrl : RepL G w (flat (xs ++ ys.map AV.view)) (olds ++ news) := by rw [flat_append]; exact hold.append hnrep.flatView
        have hle : (xs.length + ys.length) * it.size ≤ capN * it.size := Nat.mul_le_mul_right _ hcap
        have hrep := new_vec (G := G) (Drawn.drew w) (some it.size) (xs ++ ys.map AV.view) (olds.toArray ++ news.toArray ++ Builtin.zeroCells zv.cells (capN - (xs.length + ys.length))) e (0, 0) capN it.size
          (.slot d, some (flat (xs ++ ys.map AV.view)).length) (by simpa using hcap) hall (.inr rfl) (by rw [hflen, hsz]; exact hle)
          (by
            intro j j1 j2
            have j3 : j < (olds ++ news).length := by rw [← hrl.1]; exact j1
            have := hrl.get j j1 j3
            have e5 : (olds.toArray ++ news.toArray ++ Builtin.zeroCells zv.cells (capN - (xs.length + ys.length)))[j] = (olds ++ news)[j] := by
              have : (olds.toArray ++ news.toArray) = (olds ++ news).toArray := by simp
              simp only [this]
              rw [Array.getElem_append_left (by simpa using j3)]
              simp
            rw [e5]; exact this)
        have hown := new_own (G := G) (Drawn.drew w) d it.size (xs ++ ys.map AV.view) (olds.toArray ++ news.toArray ++ Builtin.zeroCells zv.cells (capN - (xs.length + ys.length))) e capN hall (by rw [hsz]; exact Nat.le_refl _)
        have hl : (xs ++ ys.map AV.view).length = xs.length + ys.length := by simp
        rw [hl] at hrep hown
        exact ⟨_, _, _, .inl (builtin_append_run ho hc1 hc2 hc3 hrun), hI.grow (alloc_grow G (Drawn.drew w) _ _), .of hrep, hown⟩
      rcases hra.vec_inv with ⟨_, rfl, e1⟩ | ⟨b, off, cap, st, vals, rfl, e1, hcap, _, hc, hrep⟩
      · have hrun := run_append_nil (P := P) w t o.type e it zv ht hi hz ⟨b2, off2, none⟩ ys.length cap2 news hnl hncell hn0 (by simp at hneed; omega) (by simp at hb; omega)
        rw [← e1, ← ey] at hrun
        refine fresh [] (grownCap w ys.length 0 e) ⟨rfl, fun i a v ha => by simp [flat] at ha⟩ (by simp) (by simpa using grownCap_ge w ys.length 0 e) ?_
        simpa using hrun
      · have hxl := flat_length hxsz
        have hold : RepL G w (flat xs) ((List.range (xs.length * it.size)).map vals) := by
          refine ⟨by rw [hxl]; simp, fun i a u ha hu => ?_⟩
          obtain ⟨h1, rfl⟩ := List.getElem?_eq_some_iff.1 ha
          simp only [List.getElem?_map, Option.map_eq_some_iff] at hu
          obtain ⟨k, hk, rfl⟩ := hu
          rw [List.getElem?_range (by rw [hxl] at h1; exact h1)] at hk
          simp only [Option.some.injEq] at hk
          subst hk
          exact hrep i h1
        by_cases hroom : xs.length + ys.length ≤ cap
        · -- in place
          have hne : xs.length ≠ cap := by omega
          rcases (hoa _ _ _ rfl).2 b off xs.length cap e1 with h0 | ⟨hblt, hrole, hsp⟩
          · exact absurd h0 hne
          · have hcz : off + cap * it.size ≥ off + (flat xs).length + news.length := by
              rw [hxl, hnl]
              have : (xs.length + ys.length) * it.size ≤ cap * it.size := Nat.mul_le_mul_right _ hroom
              rw [Nat.add_mul] at this
              omega
            have hspc : ∀ j, j < news.length → (∃ u, w.cell? ⟨b, off + (flat xs).length + j, none⟩ = some u) ∧ w.frozen? ⟨b, off + (flat xs).length + j, none⟩ = false := fun j hj => hsp _ (by omega) (by omega)
            have hrun := append_fits_run (P := P) (w := w) o.type ht hi b off xs.length cap ⟨b2, off2, none⟩ ys.length cap2 news hnl hncell hroom
              (fun j hj => by rw [← hxl]; exact Option.isSome_iff_exists.2 (hspc j hj).1) (fun j hj => by rw [← hxl]; exact (hspc j hj).2) hnone
            rw [← e1, ← ey, ← hxl] at hrun
            obtain ⟨i2, l2⟩ := hI.writeAir (ow := .slot d) (vs := news) hrole rfl
            have hrl : RepL (G.newRole b (.slot d, some (off + (flat xs).length + news.length))) (w.setCells b (off + (flat xs).length) news) (flat (xs ++ ys.map AV.view)) ((List.range (xs.length * it.size)).map vals ++ news) := by
              rw [flat_append]; exact (hold.append hnrep.flatView).mono l2
            have hfl : (flat (xs ++ ys.map AV.view)).length = (flat xs).length + news.length := by rw [flat_append, List.length_append, flat_view_len, flat_length hysz, hnl]
            have hrepv : Rep (G.newRole b (.slot d, some (off + (flat xs).length + news.length))) (w.setCells b (off + (flat xs).length) news) (.vec (some it.size) true (xs ++ ys.map AV.view)) (.slice (some ⟨b, off, none⟩) (xs.length + ys.length) cap) := by
              have := Rep.vec (G := G.newRole b (.slot d, some (off + (flat xs).length + news.length))) (w := w.setCells b (off + (flat xs).length) news) (some it.size) (xs ++ ys.map AV.view) b off cap it.size
                (fun j => ((List.range (xs.length * it.size)).map vals ++ news).getD j undef) (by simpa using hroom) hall
                (fun j hj => by
                  rw [hfl] at hj
                  refine ⟨by unfold stable; rw [newRole_at]; show off + j < off + (flat xs).length + news.length; omega, ?_⟩
                  by_cases hj2 : j < (flat xs).length
                  · rw [World.cell?_setCells_out b news _ w _ (fun _ _ => .inl (by show off + j < off + (flat xs).length; omega)), (hc j hj2).2]
                    rw [hxl] at hj2
                    simp [List.getD, List.getElem?_append_left, hj2]
                  · have := World.cell?_setCells_in b news (off + (flat xs).length) w (fun i hi => Option.isSome_iff_exists.2 (hspc i hi).1) (j - (flat xs).length) (by omega)
                    rw [show off + (flat xs).length + (j - (flat xs).length) = off + j by omega] at this
                    rw [this]
                    have hl2 : ((List.range (xs.length * it.size)).map vals).length = (flat xs).length := by rw [hxl]; simp
                    simp only [List.getD]
                    rw [List.getElem?_append_right (by rw [hl2]; omega), hl2, List.getElem?_eq_getElem (by omega)]
                    rfl)
                (fun j hj => by
                  have j3 : j < ((List.range (xs.length * it.size)).map vals ++ news).length := by rw [← hrl.1]; exact hj
                  have := hrl.get j hj j3
                  simp only [List.getD]
                  rw [List.getElem?_eq_getElem j3]
                  exact this)
              have hl : (xs ++ ys.map AV.view).length = xs.length + ys.length := by simp
              rw [hl] at this
              exact this
            refine ⟨_, _, _, .inl (builtin_append_run ho hc1 hc2 hc3 hrun), i2, .of hrepv, ?_⟩
            intro z' nn' xs' e5
            simp only [AV.vec.injEq, Option.some.injEq] at e5
            obtain ⟨rfl, rfl, rfl⟩ := e5
            refine ⟨hall, fun b' off' len' cap' e6 => .inr ?_⟩
            simp only [Value.slice.injEq, Option.some.injEq, Addr.mk.injEq, and_true] at e6
            obtain ⟨⟨rfl, rfl⟩, rfl, rfl⟩ := e6
            refine ⟨by rw [(heap_setCells b news _ w).1]; exact hblt, by rw [newRole_at, hfl, Nat.add_assoc], fun k hk hk' => ?_⟩
            rw [hfl] at hk
            obtain ⟨k1, k2⟩ := hsp k (by omega) hk'
            exact ⟨by rw [World.cell?_setCells_out b news _ w _ (fun _ _ => .inr (by show off + (flat xs).length + news.length ≤ k; omega))]; exact k1, by rw [World.frozen?_setCells]; exact k2⟩
        · -- it grows
          have hrun := run_append_grow (P := P) w t o.type e it zv ht hi hz ⟨b, off, none⟩ xs.length cap ((List.range (xs.length * it.size)).map vals) (by simp)
            (fun j v hj => by
              simp only [List.getElem?_map, Option.map_eq_some_iff] at hj
              obtain ⟨i, hi', rfl⟩ := hj
              have hlt : j < xs.length * it.size := by
                rcases Nat.lt_or_ge j (xs.length * it.size) with h' | h'
                · exact h'
                · rw [List.getElem?_eq_none (by simpa using h')] at hi'; simp at hi'
              rw [List.getElem?_range hlt] at hi'
              simp only [Option.some.injEq] at hi'
              subst hi'
              rw [add_off]
              exact (hc j (by rw [hxl]; exact hlt)).2)
            ⟨b2, off2, none⟩ ys.length cap2 news hnl hncell (by omega) (by omega) (growslice_fits (by omega) hb)
          rw [← e1, ← ey] at hrun
          exact fresh _ _ hold (by simp) (grownCap_ge w _ cap e) hrun

theorem does_append {c : Call} {a x : Operand} {a' x' : VO} {t e : TypeId} {it : TypeInfo} {zv : Value} {r : AV} {s' : St} (hI : Inv G0 w0 G w s tv) (ho : o.op = .call c) (hc1 : c.callee = .builtin .append) (hc2 : c.args = #[a, x]) (hc3 : c.argTypes = #[t, t])
    (ht : P.underlying t = some (.slice e)) (hi : P.info? e = some it) (hz : it.zero = some zv) (hzs : zv.cells.size = it.size) (ha : trO a = some a') (hx : trO x = some x') (hT : ∀ t, ρ (.tmp t) = tv t) (he : OkEv G w s.ev ρ)
    (hex : exec d (.append it.size it.bytes a' x') s = some (r, s')) : Does P ρ o G0 w0 w tv d r s' := by
  have hrx := he _ _ hx
  obtain ⟨G1, i1, r1, o1, m1, m2, l1⟩ := hI.takeO ha hT he
  have hrx1 : RepT G1 w (s.ev x') (ρ x) := hrx.mono l1 (fun t k b e => by rw [m2]; exact e)
  simp only [exec] at hex
  split at hex
  · rename_i ys hys
    split at hex
    · rename_i z nn xs hv
      split at hex
      · rename_i hcnd
        obtain ⟨rfl, hb0, hb⟩ := hcnd
        simp only [Option.some.injEq, Prod.mk.injEq] at hex
        obtain ⟨rfl, rfl⟩ := hex
        rw [hv] at r1 o1
        exact append_air i1 ho hc1 hc2 hc3 ht hi hz hzs r1 o1 hrx1 hys hb0 hb
      · simp at hex
    · rename_i xs hv
      split at hex
      · rename_i hcnd
        obtain ⟨hb0, hb⟩ := hcnd
        simp only [Option.some.injEq, Prod.mk.injEq] at hex
        obtain ⟨rfl, rfl⟩ := hex
        rw [hv] at r1
        rcases r1.vec_inv with ⟨_, rfl, e1⟩ | ⟨b, off, cap, st, vals, h0, _⟩
        · have r2 : RepT G1 w (.vec (some it.size) false []) (ρ a) := by rw [e1]; exact .of (.nilvec _)
          have o2 : OwnAt G1 w .air (.vec (some it.size) false []) (ρ a) := by
            intro z nn xs e5
            simp at e5
            obtain ⟨rfl, rfl, rfl⟩ := e5
            exact ⟨by simp, fun b off len cap e6 => by rw [e1] at e6; simp at e6⟩
          have := append_air (d := d) i1 ho hc1 hc2 hc3 ht hi hz hzs r2 o2 hrx1 hys hb0 hb
          simpa using this
        · simp at h0
      · simp at hex
    · simp at hex
  · simp at hex

end
end Go.Vm
