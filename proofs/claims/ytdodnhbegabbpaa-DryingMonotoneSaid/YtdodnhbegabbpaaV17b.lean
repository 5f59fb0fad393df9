/- Rows that are written, and the letters of a string one by one. -/
import Derived.Test.YtdodnhbegabbpaaV17
namespace Go.Vm

section
variable {P : Program} {ρ : Operand → Value} {G0 : Gh} {w0 : World} {G : Gh} {w : World} {s : St} {tv : Nat → Value} {d : Nat} {o : Oper}

theorem does_newRow (hI : Inv G0 w0 G w s tv) {heap : Bool} {cs : List AV} {arr : Array Value} {T : TypeId} {w1 : World} {n cap : Nat} (hd : Drawn w w1) (hcap : n ≤ cap) (hl : cs.length ≤ arr.size)
    (hr : ∀ (j : Nat) (h1 : j < cs.length) (h2 : j < arr.size), Rep G w cs[j] arr[j]) (hn : ∀ a ∈ cs, notOwn a)
    (hrun : (execOp ρ o).run P w = .ok (.value (.slice (some ⟨w.heap.size, 0, none⟩) n cap)) (w1.alloc (.cells arr T (0, 0)))) :
    (heap = true → Does P ρ o G0 w0 w tv d (.row (.mem s.mem.length) 0 n) (addMem s (.cells false cs))) ∧
    (heap = false → Does P ρ o G0 w0 w tv d (.row (.loc d (s.loc d).length) 0 n) (addLoc s d (.cells false cs))) := by
  have key := hI.newObj hd (.cells arr T (0, 0)) heap d (.cells false cs) (fun G' x l hro hh =>
    ⟨hro, arr, T, hh, hl, fun j h1 h2 => ⟨(hr j h1 h2).mono l, OwnAt.of_notOwn (hn _ (List.getElem_mem h1))⟩⟩)
  constructor
  · intro hb
    obtain ⟨G', h1, h2, _⟩ := key.2 hb
    exact ⟨_, _, G', .inl hrun, h1, RepT.row_mk h2 hcap, OwnAt.of_notOwn trivial⟩
  · intro hb
    obtain ⟨G', h1, h2, _⟩ := key.1 hb
    exact ⟨_, _, G', .inl hrun, h1, RepT.row_mk h2 hcap, OwnAt.of_notOwn trivial⟩

theorem does_mkslObj {t e : TypeId} {l c : Operand} {l' c' : VO} {it : TypeInfo} {zv : Value} {za r : AV} {heap : Bool} {s' : St} (hI : Inv G0 w0 G w s tv)
    (ho : o.op = .makeSlice t l c) (ht : P.underlying t = some (.slice e)) (hi : P.info? e = some it) (hz : it.zero = some zv)
    (hza : AV.ofValue zv = some za) (hzu : za ≠ .undef) (hl : trO l = some l') (hc : trO c = some c') (he : OkEv G w s.ev ρ)
    (hx : exec d (.mkslObj heap it.size it.bytes za l' c') s = some (r, s')) : Does P ρ o G0 w0 w tv d r s' := by
  simp only [exec] at hx
  have hl := he _ _ hl
  have hc := he _ _ hc
  split at hx
  · rename_i ln cn hlv hcv
    rw [hlv] at hl; rw [hcv] at hc
    have el := hl.int_inv; have ec := hc.int_inv
    split at hx
    · rename_i hh
      obtain ⟨h0, hlc, hbt, h63, hzl⟩ := hh
      have hzr : RepL G w za.cells zv.cells.toList := RepL.cells (Rep.ofValue G w hza) hzu
      have hrun := run_make (P := P) w t e it zv ht hi hz .i64 .i64 ln cn h0 hlc (by omega) (by omega)
      rw [← el, ← ec] at hrun
      have harr : madeCells zv.cells (cn.toNat * it.size) = (Array.range (cn.toNat * it.size)).map (zv.cells[· % zv.cells.size]!) := rfl
      have hrow := (zero_row hzr hzl cn.toNat).view
      have hlen := hrow.1
      have key := does_newRow (P := P) (ρ := ρ) (o := o) (d := d) hI (heap := heap) (cs := (flat (List.replicate cn.toNat za)).map AV.view) (arr := madeCells zv.cells (cn.toNat * it.size)) (T := e) (n := ln.toNat) (cap := cn.toNat)
        (Drawn.refl w) (by omega) (by rw [hlen, harr]; simp)
        (fun j h1 h2 => hrow.2 j _ _ (List.getElem?_eq_getElem h1) (by rw [← harr]; simp [h2]))
        (fun a ha => by simp only [List.mem_map] at ha; obtain ⟨b, _, rfl⟩ := ha; exact notOwn_view b)
        (by simp only [execOp, ho, Sem.run_bind, hrun, Result.andThen_ok, Sem.run_pure])
      split at hx
      · rename_i hb
        simp only [Option.some.injEq, Prod.mk.injEq] at hx
        obtain ⟨rfl, rfl⟩ := hx
        exact key.1 hb
      · rename_i hb
        simp only [Option.some.injEq, Prod.mk.injEq] at hx
        obtain ⟨rfl, rfl⟩ := hx
        exact key.2 (by simpa using hb)
    · simp at hx
  · simp at hx

theorem RepT.zcap_inv {nn : Bool} {v : Value} (h : RepT G w (.zcap nn) v) : (nn = false ∧ v = .slice none 0 0) ∨ ∃ b off, nn = true ∧ v = .slice (some ⟨b, off, none⟩) 0 0 := by
  cases h with
  | of h => cases h with
    | zcapNil => exact .inl ⟨rfl, rfl⟩
    | zcap b off => exact .inr ⟨b, off, rfl, rfl⟩

theorem does_slZ {t e : TypeId} {x h m : Operand} {x' : VO} {z : Nat} {a : AV} {s' : St} {k k' : IntKind} (hI : Inv G0 w0 G w s tv) (ho : o.op = .slice t x none (some h) (some m)) (ht : P.underlying t = some (.slice e))
    (hs : szOf P e = some z) (hxx : trO x = some x') (hh : ρ h = .int k 0) (hm : ρ m = .int k' 0) (he : OkEv G w s.ev ρ)
    (hx : exec d (.slZ x') s = some (a, s')) : Does P ρ o G0 w0 w tv d a s' := by
  have hr := he _ _ hxx
  have hsr : (sizeOf e).run P w = .ok z w := sizeOf_run hs
  simp only [exec] at hx
  split at hx
  · rename_i ow nn xs hv
    rw [hv] at hr
    simp only [Option.some.injEq, Prod.mk.injEq] at hx
    obtain ⟨rfl, rfl⟩ := hx
    rcases hr.vec_inv with ⟨rfl, _, e1⟩ | ⟨b, off, cap, st, vals, rfl, e1, hcap, _⟩
    · refine ⟨.slice none 0 0, w, G, .inl ?_, hI, .of .zcapNil, OwnAt.of_notOwn trivial⟩
      simp [execOp, ho, e1, hh, hm, Instr.sliceAt, run_underlying ht, Instr.slice, Instr.sliceBounds, Instr.sliceBound, asIntOf, hsr]
    · refine ⟨.slice (some ⟨b, off, none⟩) 0 0, w, G, .inl ?_, hI, .of (.zcap b off), OwnAt.of_notOwn trivial⟩
      simp [execOp, ho, e1, hh, hm, Instr.sliceAt, run_underlying ht, Instr.slice, Instr.sliceBounds, Instr.sliceBound, asIntOf, hsr]
  · simp at hx

theorem pure_buildZ {ev : VO → AV} {t e : TypeId} {z : Nat} {a : AV} (ho : o.op = .buildSlice t 0 #[]) (ht : P.underlying t = some (.slice e)) (hs : szOf P e = some z)
    (hx : pval ev .buildZ = some a) : Yields P ρ o G w d a := by
  simp only [pval, Option.some.injEq] at hx
  subst hx
  have hsr : (sizeOf e).run P w = .ok z w := sizeOf_run hs
  have hrun : (execOp ρ o).run P w = .ok (.value (.slice (some ⟨w.heap.size, 0, none⟩) 0 0)) (w.alloc (.cells #[] e)) := by
    simp only [execOp, ho, Instr.buildSlice, Sem.run_bind, run_underlying ht, Result.andThen_ok, hsr]
    have e0 : Array.map (fun _ => (default : Value)) (Array.range 0) = #[] := by rw [Array.range_zero']; simp
    simp [Instr.fill, newRow, e0]
  exact ⟨_, _, _, hrun, alloc_grow G (Drawn.refl w) _ (.air, some 0), .of (.zcap w.heap.size 0), OwnAt.of_notOwn trivial⟩

theorem does_appendRow {c : Call} {a x : Operand} {a' x' : VO} {t e : TypeId} {it : TypeInfo} {zv : Value} {r : AV} {s' : St} (hI : Inv G0 w0 G w s tv) (ho : o.op = .call c) (hc1 : c.callee = .builtin .append) (hc2 : c.args = #[a, x]) (hc3 : c.argTypes = #[t, t])
    (ht : P.underlying t = some (.slice e)) (hi : P.info? e = some it) (hz : it.zero = some zv) (hzs : zv.cells.size = it.size) (ha : trO a = some a') (hx : trO x = some x') (he : OkEv G w s.ev ρ)
    (hex : exec d (.appendRow it.size it.bytes a' x') s = some (r, s')) : Does P ρ o G0 w0 w tv d r s' := by
  have hra := he _ _ ha
  have hrx := he _ _ hx
  simp only [exec] at hex
  split at hex
  · rename_i nn ys hv hys
    rw [hv] at hra
    obtain ⟨hysz, hyv, hyf⟩ := elems_vals hrx hys
    split at hex
    · rename_i hemp
      simp only [Option.some.injEq, Prod.mk.injEq] at hex
      obtain ⟨rfl, rfl⟩ := hex
      have hnil : ys = [] := by simpa using hemp
      subst hnil
      have hvx : (∃ c, ρ x = .slice none 0 c) ∨ ∃ a c, ρ x = .slice (some a) 0 c := by
        rcases hyf with ⟨c, e2, _⟩ | ⟨a', c, e2⟩
        · exact .inl ⟨c, e2⟩
        · exact .inr ⟨a', c, e2⟩
      rcases hra.zcap_inv with ⟨rfl, e1⟩ | ⟨b, off, rfl, e1⟩
      · exact ⟨.slice none 0 0, w, G, .inl (builtin_append_run ho hc1 hc2 hc3 (by rw [e1]; exact append_none_run o.type ht hi none 0 0 (Nat.le_refl _) (ρ x) hvx)), hI, .of (.nilvec none), OwnAt.of_notOwn trivial⟩
      · refine ⟨.slice (some ⟨b, off, none⟩) 0 0, w, G, .inl (builtin_append_run ho hc1 hc2 hc3 (by rw [e1]; exact append_none_run o.type ht hi (some ⟨b, off, none⟩) 0 0 (Nat.le_refl _) (ρ x) hvx)), hI, .of ?_, OwnAt.of_notOwn trivial⟩
        exact .vec none [] b off 0 0 (fun _ => undef) (Nat.le_refl _) (by simp) (fun j hj => by simp [flat] at hj) (fun j hj => by simp [flat] at hj)
    · rename_i hemp
      split at hex
      · rename_i hb
        simp only [Option.some.injEq, Prod.mk.injEq] at hex
        obtain ⟨rfl, rfl⟩ := hex
        have hne : ys ≠ [] := by simpa using hemp
        have hn0 : 0 < ys.length := List.length_pos_iff.2 hne
        have hneed : ys.length ≤ 140737488355328 := by
          have : ys.length * 1 ≤ ys.length * it.bytes := Nat.mul_le_mul_left _ hb.1
          omega
        rcases hyv with h0 | ⟨b2, off2, cap2, news, ey, hnl, hncell, hnrep, hnone⟩
        · exact absurd h0 hne
        have hzz : ∀ k, (Builtin.zeroCells zv.cells k).size = k * it.size := by intro k; simp [Builtin.zeroCells, hzs]
        have hv2 := hnrep.view
        have fin : ∀ capN : Nat, ys.length ≤ capN → (Builtin.append_ #[t, t] o.type #[ρ a, ρ x]).run P w = .ok (.slice (some ⟨w.heap.size, 0, none⟩) ys.length capN) (w.drew.alloc (.cells (news.toArray ++ Builtin.zeroCells zv.cells (capN - ys.length)) e)) →
            Does P ρ o G0 w0 w tv d (.row (.mem s.mem.length) 0 ys.length) (addMem s (.cells false ((flat ys).map AV.view))) := by
          intro capN hcap hrun
          refine (does_newRow (P := P) (ρ := ρ) (o := o) (d := d) hI (heap := true) (cs := (flat ys).map AV.view) (arr := news.toArray ++ Builtin.zeroCells zv.cells (capN - ys.length)) (T := e) (n := ys.length) (cap := capN)
            (Drawn.drew w) hcap (by rw [hv2.1]; simp) (fun j h1 h2 => ?_) (fun a ha => by simp only [List.mem_map] at ha; obtain ⟨b, _, rfl⟩ := ha; exact notOwn_view b) (builtin_append_run ho hc1 hc2 hc3 hrun)).1 rfl
          have j3 : j < news.length := by rw [← hv2.1]; exact h1
          refine hv2.2 j _ _ (List.getElem?_eq_getElem h1) ?_
          rw [Array.getElem_append_left (by simpa using j3)]
          simp
        rcases hra.zcap_inv with ⟨rfl, e1⟩ | ⟨b, off, rfl, e1⟩
        · have hrun := run_append_nil (P := P) w t o.type e it zv ht hi hz ⟨b2, off2, none⟩ ys.length cap2 news hnl hncell hn0 (by omega) (by have := hb.2; omega)
          rw [← e1, ← ey] at hrun
          exact fin _ (grownCap_ge w _ 0 e) hrun
        · have hrun := run_append_grow (P := P) w t o.type e it zv ht hi hz ⟨b, off, none⟩ 0 0 [] (by simp) (by simp) ⟨b2, off2, none⟩ ys.length cap2 news hnl hncell (by omega) (by omega) (growslice_fits (by omega) (by simpa using hb.2))
          rw [← e1, ← ey] at hrun
          simp only [Nat.zero_add] at hrun
          exact fin _ (by have := grownCap_ge w ys.length 0 e; exact this) (by simpa using hrun)
      · simp at hex
  · simp at hex

theorem does_range {t : TypeId} {x : Operand} {x' : VO} {a : AV} {s' : St} (hI : Inv G0 w0 G w s tv) (ho : o.op = .range t x) (ht : P.underlying t = some .string) (hxx : trO x = some x') (he : OkEv G w s.ev ρ)
    (hx : exec d (.range x') s = some (a, s')) : Does P ρ o G0 w0 w tv d a s' := by
  have hr := he _ _ hxx
  simp only [exec] at hx
  split at hx
  · rename_i b hv
    rw [hv] at hr
    obtain ⟨ss, e1, rfl⟩ := hr.str_inv
    simp only [Option.some.injEq, Prod.mk.injEq] at hx
    obtain ⟨rfl, rfl⟩ := hx
    have hss : (⟨ss.data.toList.toArray⟩ : ByteArray) = ss := by simp
    have key := hI.newObj (Drawn.refl w) (.stringIter ss 0) false d (.iter ss.data.toList 0) (fun G' x l hro hh => ⟨hro, by rw [hss]; exact hh⟩)
    obtain ⟨G', h1, h2, _⟩ := key.1 rfl
    refine ⟨_, _, G', .inl ?_, h1, RepT.ptr_mk h2, OwnAt.of_notOwn trivial⟩
    simp only [execOp, ho, Instr.range, e1, Sem.run_bind, run_underlying ht, Result.andThen_ok, Sem.run_pure, run_newObj]
    rfl
  · simp at hx

theorem does_next {it : Operand} {it' : VO} {a : AV} {s' : St} (hI : Inv G0 w0 G w s tv) (ho : o.op = .next it true) (hxx : trO it = some it') (he : OkEv G w s.ev ρ)
    (hx : exec d (.next it') s = some (a, s')) : Does P ρ o G0 w0 w tv d a s' := by
  have hr := he _ _ hxx
  simp only [exec] at hx
  split at hx
  · rename_i ix hv
    rw [hv] at hr
    obtain ⟨b, hb, e1⟩ := hr.ptr_inv
    split at hx
    · rename_i bs pos hobj
      obtain ⟨b', hb', hlt, hat⟩ := hI.obj _ _ hobj
      rw [hb] at hb'
      simp only [Option.some.injEq] at hb'
      subst hb'
      obtain ⟨hro, hh⟩ := hat
      have hget : (getObj b).run P w = .ok (.stringIter ⟨bs.toArray⟩ pos) w := by simp [getObj, Sem.run, hh]
      split at hx
      · rename_i c hc
        obtain ⟨hpos, hc'⟩ := List.getElem?_eq_some_iff.1 hc
        split at hx
        · rename_i hlt2
          simp only [Option.some.injEq, Prod.mk.injEq] at hx
          obtain ⟨rfl, rfl⟩ := hx
          have hsz : pos < (⟨bs.toArray⟩ : ByteArray).size := hpos
          have hdec : Utf8.decode ⟨bs.toArray⟩ pos = (c.toNat, 1) := by
            have hg : (ByteArray.get! ⟨bs.toArray⟩ (pos + 0)) = c := by
              show (bs.toArray)[pos + 0]! = c
              simp [hpos, hc']
            have : c.toNat < 128 := by simpa [UInt8.lt_iff_toNat_lt] using hlt2
            unfold Utf8.decode
            simp only [hg]
            rw [if_pos this]
          have hset : (setObj b (.stringIter ⟨bs.toArray⟩ (pos + 1))).run P w = .ok () { w with heap := w.heap.setIfInBounds b (.stringIter ⟨bs.toArray⟩ (pos + 1)) } := by simp [setObj, Sem.run, hh]
          have hw : Wrote b (.stringIter ⟨bs.toArray⟩ (pos + 1)) w { w with heap := w.heap.setIfInBounds b (.stringIter ⟨bs.toArray⟩ (pos + 1)) } :=
            ⟨rfl, rfl, rfl, by simp, by simp [hlt], fun b' hb' => by simp [Array.getElem?_setIfInBounds_ne (Ne.symm hb')]⟩
          refine ⟨.tuple #[.bool true, .int .i64 pos, .int .i32 c.toNat], _, G, .inl ?_, hI.wrote hobj hb hro hw (fun _ => ⟨hro, hw.at_⟩), .of ?_, OwnAt.of_notOwn trivial⟩
          · simp only [execOp, ho, e1, Instr.next, Sem.run_bind, hget, Result.andThen_ok, hsz, if_true, hdec, hset, Sem.run_pure]
            rfl
          · refine .tup _ _ rfl fun i h1 h2 => ?_
            match i, h1, h2 with
            | 0, _, _ => exact .bool true
            | 1, _, _ => exact .int .i64 pos
            | 2, _, _ => exact .int .i32 c.toNat
            | n + 3, h1, _ => simp at h1; omega
        · simp at hx
      · rename_i hc
        have hge : bs.length ≤ pos := by simpa using hc
        simp only [Option.some.injEq, Prod.mk.injEq] at hx
        obtain ⟨rfl, rfl⟩ := hx
        have hsz : ¬ pos < (⟨bs.toArray⟩ : ByteArray).size := by show ¬ pos < bs.length; omega
        refine ⟨.tuple #[.bool false], w, G, .inl ?_, hI, .of ?_, OwnAt.of_notOwn trivial⟩
        · simp only [execOp, ho, e1, Instr.next, Sem.run_bind, hget, Result.andThen_ok, hsz, if_false, Sem.run_pure]
        · refine .tup _ _ rfl fun i h1 h2 => ?_
          match i, h1, h2 with
          | 0, _, _ => exact .bool false
          | n + 1, h1, _ => simp at h1
    · simp at hx
  · simp at hx

end
end Go.Vm
