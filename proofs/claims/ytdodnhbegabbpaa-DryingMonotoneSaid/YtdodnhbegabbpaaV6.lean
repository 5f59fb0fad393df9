/- The pure operations' soundness: conversions, addresses, indexes, lengths; all together. -/
import Derived.Test.YtdodnhbegabbpaaV5
import Derived.Laws.AppendOwn
namespace Go.Vm

section
variable {P : Program} {ρ : Operand → Value} {G : Gh} {w : World} {ev : VO → AV} {d : Nat}

theorem sizeOf_run {t : TypeId} {n : Nat} (h : szOf P t = some n) : (sizeOf t).run P w = .ok n w := by
  unfold szOf at h
  cases hi : P.info? t with
  | none => simp [hi] at h
  | some i => simp [hi] at h; simp [sizeOf, typeInfo, hi, h]

theorem pure_cint {o : Oper} {src dst : TypeId} {x : Operand} {x' : VO} {k k' : IntKind} {r : AV} (ho : o.op = .convert src dst x) (hs : P.underlying src = some (.int k'))
    (hd : P.underlying dst = some (.int k)) (hx : trO x = some x') (hp : pval ev (.cint k x') = some r) (he : OkEv G w ev ρ) : Yields P ρ o G w d r := by
  simp only [pval] at hp
  have hx := he _ _ hx
  split at hp
  · rename_i hv
    rw [hv] at hx
    have e := hx.int_inv
    simp only [Option.some.injEq] at hp; subst hp
    refine .same (v := .int _ _) ?_ (.of (.int _ _)) trivial
    simp [execOp, ho, e, convert, run_underlying hs, run_underlying hd, Conv.intToInt]
  · simp at hp

theorem pure_cstr {o : Oper} {src dst : TypeId} {x : Operand} {x' : VO} {r : AV} (ho : o.op = .convert src dst x) (hs : P.underlying src = some .string)
    (hd : P.underlying dst = some .string) (hx : trO x = some x') (hp : pval ev (.cstr x') = some r) (he : OkEv G w ev ρ) : Yields P ρ o G w d r := by
  simp only [pval] at hp
  have hx := he _ _ hx
  split at hp
  · rename_i hv
    rw [hv] at hx
    obtain ⟨s, e, rfl⟩ := hx.str_inv
    simp only [Option.some.injEq] at hp; subst hp
    refine .same (v := .string s) ?_ (.of (.str s)) trivial
    simp [execOp, ho, e, convert, run_underlying hs, run_underlying hd]
  · simp at hp

theorem flat_ints (k : IntKind) : ∀ l : List UInt8, flat (l.map fun b => AV.int k b.toNat) = l.map fun b => AV.int k b.toNat
  | [] => rfl
  | b :: l => by
    have := flat_ints k l
    simp only [flat, List.map_cons, List.flatMap_cons, AV.cells] at this ⊢
    rw [this]; rfl

/-- The ghost with a role for a new block. -/
def Gh.newRole (G : Gh) (n : Nat) (r : Owner × Option Nat) : Gh := { G with role := fun b => if b = n then r else G.role b }

theorem newRole_at (G : Gh) (n : Nat) (r : Owner × Option Nat) : (G.newRole n r).role n = r := by simp [Gh.newRole]
theorem newRole_ne (G : Gh) {n b : Nat} (r : Owner × Option Nat) (h : b ≠ n) : (G.newRole n r).role b = G.role b := by simp [Gh.newRole, h]

theorem heap_alloc_lt (w : World) (o : Obj) {b : Nat} (h : b < w.heap.size) : (w.alloc o).heap[b]? = w.heap[b]? := by
  show (w.heap.push o)[b]? = _
  rw [Array.getElem?_push, if_neg (by omega)]
theorem heap_alloc_at (w : World) (o : Obj) {n : Nat} (hn : n = w.heap.size) : (w.alloc o).heap[n]? = some o := by
  subst hn
  show (w.heap.push o)[w.heap.size]? = _
  rw [Array.getElem?_push, if_pos rfl]

/-- The same memory, perhaps with another count of draws. -/
structure Drawn (w w1 : World) : Prop where
  os : w1.os = w.os
  tape : w1.tape = w.tape
  output : w1.output = w.output
  heap : w1.heap = w.heap

theorem Drawn.refl (w : World) : Drawn w w := ⟨rfl, rfl, rfl, rfl⟩
theorem Drawn.drew (w : World) : Drawn w w.drew := ⟨rfl, rfl, rfl, rfl⟩

theorem alloc_grow (G : Gh) {w w1 : World} (h : Drawn w w1) (o : Obj) (r : Owner × Option Nat) : Grow G w (G.newRole w.heap.size r) (w1.alloc o) where
  os := h.os
  tape := h.tape
  output := h.output
  size := by simp [h.heap]
  old b hb := by
    refine ⟨?_, newRole_ne _ _ (by omega)⟩
    rw [heap_alloc_lt w1 o (by rw [h.heap]; exact hb), h.heap]
  mb := rfl
  lb := rfl

theorem cell?_alloc_cells {w w1 : World} (h : Drawn w w1) (arr : Array Value) (T : TypeId) (fr : Nat × Nat) (j : Nat) : (w1.alloc (.cells arr T fr)).cell? ⟨w.heap.size, j, none⟩ = arr[j]? := by
  unfold World.cell?
  rw [show (w1.alloc (.cells arr T fr)).heap[w.heap.size]? = some (.cells arr T fr) from heap_alloc_at _ _ (by rw [h.heap])]
  simp

theorem frozen?_alloc_cells {w w1 : World} (h : Drawn w w1) (arr : Array Value) (T : TypeId) (j : Nat) : (w1.alloc (.cells arr T (0, 0))).frozen? ⟨w.heap.size, j, none⟩ = false := by
  unfold World.frozen?
  rw [show (w1.alloc (.cells arr T (0, 0))).heap[w.heap.size]? = some (.cells arr T (0, 0)) from heap_alloc_at _ _ (by rw [h.heap])]
  simp

/-- A new block that a vector lies in. -/
theorem new_vec {G : Gh} {w w1 : World} (h : Drawn w w1) (own : Option Nat) (xs : List AV) (arr : Array Value) (T : TypeId) (fr : Nat × Nat) (cap st : Nat) (r : Owner × Option Nat)
    (hcap : xs.length ≤ cap) (hst : ∀ x ∈ xs, x.cells.length = st) (hr : r.2 = none ∨ r.2 = some (flat xs).length) (hlen : (flat xs).length ≤ arr.size)
    (hx : ∀ (j : Nat) (h1 : j < (flat xs).length) (h2 : j < arr.size), Rep G w (flat xs)[j] arr[j]) :
    Rep (G.newRole w.heap.size r) (w1.alloc (.cells arr T fr)) (.vec own true xs) (.slice (some ⟨w.heap.size, 0, none⟩) xs.length cap) := by
  refine .vec own xs w.heap.size 0 cap st (fun j => arr.getD j undef) hcap hst (fun j hj => ?_) (fun j hj => ?_)
  · refine ⟨?_, ?_⟩
    · unfold stable
      rw [newRole_at]
      rcases hr with hr | hr <;> rw [hr]
      · trivial
      · simpa using hj
    · rw [cell?_alloc_cells h]
      have : j < arr.size := by omega
      simp [this]
  · have h2 : j < arr.size := by omega
    have := (hx j hj h2).mono (alloc_grow G h (.cells arr T fr) r).le
    simpa [h2] using this

theorem new_own {G : Gh} {w w1 : World} (h : Drawn w w1) (d z : Nat) (xs : List AV) (arr : Array Value) (T : TypeId) (cap : Nat)
    (hst : ∀ x ∈ xs, x.cells.length = z) (hlen : cap * z ≤ arr.size) :
    OwnAt (G.newRole w.heap.size (.slot d, some (flat xs).length)) (w1.alloc (.cells arr T (0, 0))) (.slot d) (.vec (some z) true xs) (.slice (some ⟨w.heap.size, 0, none⟩) xs.length cap) := by
  intro z' nn xs' e
  simp only [AV.vec.injEq, Option.some.injEq] at e
  obtain ⟨rfl, rfl, rfl⟩ := e
  refine ⟨hst, fun b off len cap' ev => ?_⟩
  simp only [Value.slice.injEq, Option.some.injEq, Addr.mk.injEq, and_true] at ev
  obtain ⟨⟨rfl, rfl⟩, rfl, rfl⟩ := ev
  refine .inr ⟨by simp [h.heap], ?_, fun k hk hk' => ⟨?_, frozen?_alloc_cells h _ _ _⟩⟩
  · rw [newRole_at]; simp
  · rw [cell?_alloc_cells h]
    have : k < arr.size := by omega
    exact ⟨arr[k], by simp [this]⟩

theorem pure_bytesOf {o : Oper} {src dst e : TypeId} {x : Operand} {x' : VO} {r : AV} (ho : o.op = .convert src dst x) (hs : P.underlying src = some .string)
    (hd : P.underlying dst = some (.slice e)) (hel : P.underlying e = some (.int .u8)) (hx : trO x = some x') (hp : pval ev (.bytesOf x') = some r) (he : OkEv G w ev ρ) : Yields P ρ o G w d r := by
  simp only [pval] at hp
  have hx := he _ _ hx
  split at hp
  · rename_i hv
    rw [hv] at hx
    obtain ⟨s, ee, rfl⟩ := hx.str_inv
    simp only [Option.some.injEq] at hp; subst hp
    have hrun := run_bytes_of_string (P := P) w src dst e s hs hd hel
    rw [← ee] at hrun
    have hl : (s.data.toList.map fun b => AV.int .u8 b.toNat).length = s.size := by rw [List.length_map]; exact Array.length_toList
    have hcap : s.size ≤ grownCap w s.size 0 e := grownCap_ge w s.size 0 e
    have hrep := new_vec (G := G) (Drawn.drew w) none (s.data.toList.map fun b => AV.int .u8 b.toNat) (bytesRow s (grownCap w s.size 0 e)) e
      ((bytesRow s (grownCap w s.size 0 e)).size, (bytesRow s (grownCap w s.size 0 e)).size + 1) (grownCap w s.size 0 e) 1 (.ext, none) (by rw [hl]; exact hcap)
      (by intro x hx; simp at hx; obtain ⟨b, _, rfl⟩ := hx; rfl) (.inl rfl) (by rw [flat_ints]; simp [bytesRow])
      (by
        intro j h1 h2
        simp only [flat_ints] at h1 ⊢
        simp at h1
        simp [bytesRow, h1]
        exact .int _ _)
    rw [hl] at hrep
    refine ⟨_, _, _, ?_, alloc_grow G (Drawn.drew w) _ _, .of hrep, OwnAt.of_notOwn trivial⟩
    simp only [execOp, ho, Sem.run_bind, hrun, Result.andThen_ok, Sem.run_pure]
  · simp at hp

theorem add_off (b o n : Nat) : Addr.add ⟨b, o, none⟩ n = ⟨b, o + n, none⟩ := Addr.add_lit b o n

theorem pure_faddr {o : Oper} {t : TypeId} {x : Operand} {x' : VO} {i n : Nat} {fs : Array Field} {f : Field} {r : AV} (ho : o.op = .fieldAddr t x i) (ht : P.underlying t = some (.struct fs))
    (hf : fs[i]? = some f) (hn : szOf P f.type = some (n + 1)) (hx : trO x = some x') (hp : pval ev (.faddr f.offset x') = some r) (he : OkEv G w ev ρ) : Yields P ρ o G w d r := by
  simp only [pval] at hp
  have hx := he _ _ hx
  have hs : (sizeOf f.type).run P w = .ok (n + 1) w := sizeOf_run hn
  split at hp
  · rename_i hv
    rw [hv] at hx
    obtain ⟨b, hb, e⟩ := hx.ptr_inv
    simp only [Option.some.injEq] at hp; subst hp
    refine .same (v := .pointer (some ⟨b, _ + f.offset, none⟩)) ?_ (RepT.ptr_mk hb) trivial
    simp [execOp, ho, e, Instr.fieldAt, run_underlying ht, hf, Instr.sureAddr, fieldPlace, hs, add_off]
  · rename_i hv
    rw [hv] at hx
    obtain ⟨b, o', vals, e, h1, h2⟩ := hx.vptr_inv
    simp only [Option.some.injEq] at hp; subst hp
    refine .same (v := .pointer (some ⟨b, o' + (_ + f.offset), none⟩)) ?_ (.of (.vptr _ _ b o' vals h1 h2)) trivial
    simp [execOp, ho, e, Instr.fieldAt, run_underlying ht, hf, Instr.sureAddr, fieldPlace, hs, add_off, Nat.add_assoc]
  · simp at hp

theorem pure_field {o : Oper} {t : TypeId} {x : Operand} {x' : VO} {i : Nat} {fs : Array Field} {f : Field} {ag : Option Nat} {r : AV} (ho : o.op = .field t x i) (ht : P.underlying t = some (.struct fs))
    (hf : fs[i]? = some f) (ha : aggOf P f.type = some ag) (hx : trO x = some x') (hp : pval ev (.field f.offset ag x') = some r) (he : OkEv G w ev ρ) : Yields P ρ o G w d r := by
  simp only [pval] at hp
  have hx := he _ _ hx
  split at hp
  · rename_i hv
    rw [hv] at hx
    obtain ⟨vs, e, hl, h⟩ := hx.agg_inv
    obtain ⟨v, h1, h2, h3⟩ := part_rep (P := P) ha hl h hp
    refine .same (v := v) ?_ (.of h2) h3
    simp [execOp, ho, e, Instr.field, run_underlying ht, hf, asAgg, h1]
  · simp at hp

theorem flat_get {z : Nat} : ∀ {xs : List AV} (_ : ∀ x ∈ xs, x.cells.length = z) (i j : Nat) (e : AV), xs[i]? = some e → j < z → (flat xs)[i * z + j]? = e.cells[j]? ∧ i * z + j < (flat xs).length
  | [], _, i, j, e, h, _ => by simp at h
  | x :: xs, hz, i, j, e, h, hj => by
    have hx : x.cells.length = z := hz x (by simp)
    cases i with
    | zero =>
      simp at h; subst h
      simp only [flat, List.flatMap_cons, Nat.zero_mul, Nat.zero_add, List.length_append]
      exact ⟨by rw [List.getElem?_append_left (by omega)], by omega⟩
    | succ i =>
      have ih := flat_get (z := z) (xs := xs) (fun y hy => hz y (by simp [hy])) i j e (by simpa using h) hj
      simp only [flat, List.flatMap_cons, List.length_append] at ih ⊢
      have e1 : (i + 1) * z + j = z + (i * z + j) := by rw [Nat.add_mul]; omega
      rw [e1]
      refine ⟨?_, by omega⟩
      rw [List.getElem?_append_right (by omega), hx, Nat.add_sub_cancel_left]
      exact ih.1

theorem pure_iaddrSl {o : Oper} {t e : TypeId} {x i : Operand} {x' i' : VO} {n : Nat} {r : AV} (ho : o.op = .indexAddr t x i) (ht : P.underlying t = some (.slice e)) (hn : szOf P e = some n)
    (hx : trO x = some x') (hi : trO i = some i') (hp : pval ev (.iaddrSl n x' i') = some r) (he : OkEv G w ev ρ) : Yields P ρ o G w d r := by
  simp only [pval] at hp
  have hx := he _ _ hx
  have hi := he _ _ hi
  have hs : (sizeOf e).run P w = .ok n w := sizeOf_run hn
  split at hp
  · rename_i xs k ii hv hiv
    rw [hv] at hx; rw [hiv] at hi
    have ei := hi.int_inv
    split at hp
    · rename_i h0
      split at hp
      · rename_i el hel
        split at hp
        · rename_i hz
          simp only [Option.some.injEq] at hp; subst hp
          rcases hx.vec_inv with ⟨_, rfl, _⟩ | ⟨b, off, cap, st, vals, _, ev', hcap, hst, hc, h⟩
          · simp at hel
          · have hlt : ii.toNat < xs.length := by
              rcases Nat.lt_or_ge ii.toNat xs.length with h' | h'
              · exact h'
              · simp [List.getElem?_eq_none h'] at hel
            have hzz : st = n := by rw [← hst el (List.mem_of_getElem? hel), hz]
            subst hzz
            refine .same (v := .pointer (some ⟨b, off + ii.toNat * st + 0, none⟩)) ?_ (.of (.vptr _ 0 b (off + ii.toNat * st) (fun j => vals (ii.toNat * st + j)) ?_ ?_)) trivial
            · have : (0 ≤ ii ∧ ii < (xs.length : Int)) := by omega
              simp [execOp, ho, ev', ei, Instr.indexAt, run_underlying ht, asIntOf, this, hs, add_off]
            · intro j hj
              have := flat_get hst ii.toNat j el hel (by omega)
              have h3 := hc _ this.2
              rw [Nat.add_assoc]
              exact h3
            · intro j hj
              have h2 := flat_get hst ii.toNat j el hel (by omega)
              have h3 := h _ h2.2
              have h4 : (flat xs)[ii.toNat * st + j] = el.cells[j] := by
                have := h2.1
                rw [List.getElem?_eq_getElem hj] at this
                exact (List.getElem?_eq_some_iff.1 this).2
              rw [h4] at h3
              exact h3
        · simp at hp
      · simp at hp
    · simp at hp
  · rename_i ix off len k ii hv hiv
    rw [hv] at hx; rw [hiv] at hi
    have ei := hi.int_inv
    split at hp
    · rename_i hh
      simp only [Option.some.injEq] at hp; subst hp
      obtain ⟨b, cap, hb, e1, hcap⟩ := hx.row_inv
      refine .same (v := .pointer (some ⟨b, off + ii.toNat * n, none⟩)) ?_ (RepT.ptr_mk hb) trivial
      simp [execOp, ho, e1, ei, Instr.indexAt, run_underlying ht, asIntOf, hh, hs, add_off]
    · simp at hp
  · simp at hp

theorem pure_iaddrArr {o : Oper} {t e : TypeId} {x i : Operand} {x' i' : VO} {n len : Nat} {r : AV} (ho : o.op = .indexAddr t x i) (ht : P.underlying t = some (.array len e)) (hn : szOf P e = some n)
    (hx : trO x = some x') (hi : trO i = some i') (hp : pval ev (.iaddrArr len n x' i') = some r) (he : OkEv G w ev ρ) : Yields P ρ o G w d r := by
  simp only [pval] at hp
  have hx := he _ _ hx
  have hi := he _ _ hi
  have hs : (sizeOf e).run P w = .ok n w := sizeOf_run hn
  split at hp
  · rename_i ix oo k ii hv hiv
    rw [hv] at hx; rw [hiv] at hi
    have ei := hi.int_inv
    split at hp
    · rename_i hh
      simp only [Option.some.injEq] at hp; subst hp
      obtain ⟨b, hb, e1⟩ := hx.ptr_inv
      refine .same (v := .pointer (some ⟨b, oo + ii.toNat * n, none⟩)) ?_ (RepT.ptr_mk hb) trivial
      simp [execOp, ho, e1, ei, Instr.indexAt, Instr.sureAddr, run_underlying ht, asIntOf, hh, hs, add_off]
    · simp at hp
  · rename_i cs oo k ii hv hiv
    rw [hv] at hx; rw [hiv] at hi
    have ei := hi.int_inv
    split at hp
    · rename_i hh
      simp only [Option.some.injEq] at hp; subst hp
      obtain ⟨b, o', vals, e1, h1, h2⟩ := hx.vptr_inv
      refine .same (v := .pointer (some ⟨b, o' + (oo + ii.toNat * n), none⟩)) ?_ (.of (.vptr _ _ b o' vals h1 h2)) trivial
      simp [execOp, ho, e1, ei, Instr.indexAt, Instr.sureAddr, run_underlying ht, asIntOf, hh, hs, add_off, Nat.add_assoc]
    · simp at hp
  · simp at hp

theorem pure_idxArr {o : Oper} {t e : TypeId} {x i : Operand} {x' i' : VO} {n len : Nat} {ag : Option Nat} {r : AV} (ho : o.op = .index t x i) (ht : P.underlying t = some (.array len e)) (hn : szOf P e = some n)
    (ha : aggOf P e = some ag) (hx : trO x = some x') (hi : trO i = some i') (hp : pval ev (.idxArr len n ag x' i') = some r) (he : OkEv G w ev ρ) : Yields P ρ o G w d r := by
  simp only [pval] at hp
  have hx := he _ _ hx
  have hi := he _ _ hi
  have hs : (sizeOf e).run P w = .ok n w := sizeOf_run hn
  split at hp
  · rename_i cs k ii hv hiv
    rw [hv] at hx; rw [hiv] at hi
    have ei := hi.int_inv
    split at hp
    · rename_i hh
      obtain ⟨vs, e1, hl, h⟩ := hx.agg_inv
      obtain ⟨v, h1, h2, h3⟩ := part_rep (P := P) ha hl h hp
      refine .same (v := v) ?_ (.of h2) h3
      simp [execOp, ho, e1, ei, Instr.index, run_underlying ht, asIntOf, hh, hs, h1]
    · simp at hp
  · simp at hp

theorem pure_idxStr {o : Oper} {t : TypeId} {x i : Operand} {x' i' : VO} {r : AV} (ho : o.op = .index t x i) (ht : P.underlying t = some .string)
    (hx : trO x = some x') (hi : trO i = some i') (hp : pval ev (.idxStr x' i') = some r) (he : OkEv G w ev ρ) : Yields P ρ o G w d r := by
  simp only [pval] at hp
  have hx := he _ _ hx
  have hi := he _ _ hi
  split at hp
  · rename_i l k ii hv hiv
    rw [hv] at hx; rw [hiv] at hi
    have ei := hi.int_inv
    obtain ⟨s, e1, rfl⟩ := hx.str_inv
    split at hp
    · rename_i h0
      split at hp
      · rename_i b hb
        simp only [Option.some.injEq] at hp; subst hp
        have hlt : ii.toNat < s.size := by
          rcases Nat.lt_or_ge ii.toNat s.size with h' | h'
          · exact h'
          · have : s.data.toList.length ≤ ii.toNat := by have : s.data.toList.length = s.size := Array.length_toList; omega
            simp [List.getElem?_eq_none this] at hb
        have hcond : 0 ≤ ii ∧ ii < (s.size : Int) := by omega
        have hr := run_index_string (P := P) w t s k ii ht
        rw [dif_pos hcond] at hr
        have hbb : s[ii.toNat] = b := by
          have h2 : ii.toNat < s.data.size := hlt
          have h3 : s.data[ii.toNat]? = some b := by simpa using hb
          rw [Array.getElem?_eq_getElem h2] at h3
          exact Option.some.inj h3
        rw [hbb] at hr
        refine .same (v := .int .u8 b.toNat) ?_ (.of (.int _ _)) trivial
        simp only [execOp, ho, e1, ei, Sem.run_bind, hr, Result.andThen_ok, Sem.run_pure]
      · simp at hp
    · simp at hp
  · simp at hp

theorem pure_ext {o : Oper} {x : Operand} {x' : VO} {i : Nat} {r : AV} (ho : o.op = .extract x i) (hx : trO x = some x')
    (hp : pval ev (.ext x' i) = some r) (he : OkEv G w ev ρ) : Yields P ρ o G w d r := by
  simp only [pval] at hp
  have hx := he _ _ hx
  split at hp
  · rename_i vs hv
    rw [hv] at hx
    split at hp
    · rename_i a ha
      simp only [Option.some.injEq] at hp; subst hp
      obtain ⟨us, e1, hl, h⟩ := hx.tup_inv
      have hlt : i < vs.length := by
        rcases Nat.lt_or_ge i vs.length with h' | h'
        · exact h'
        · simp [List.getElem?_eq_none h'] at ha
      have hlt' : i < us.size := by omega
      have ea : vs[i] = a := by rw [List.getElem?_eq_getElem hlt] at ha; simpa using ha
      refine .same (v := us[i]) ?_ (.of (ea ▸ (h i hlt hlt').view)) (notOwn_view _)
      simp [execOp, ho, e1, Instr.extract, hlt']
    · simp at hp
  · simp at hp

end
end Go.Vm
