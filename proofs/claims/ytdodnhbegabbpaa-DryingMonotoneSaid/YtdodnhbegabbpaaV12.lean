/- The operations on memory: each is sound. -/
import Derived.Test.YtdodnhbegabbpaaV11
import Derived.Laws.CopyRow
import Derived.Laws.IdiomCopy
import Derived.Laws.AppendOwnNone
namespace Go.Vm

def Does (P : Program) (ρ : Operand → Value) (o : Oper) (G0 : Gh) (w0 w : World) (tv : Nat → Value) (d : Nat) (a : AV) (s' : St) : Prop :=
  ∃ v w' G', ((execOp ρ o).run P w = .ok (.value v) w' ∨ ((execOp ρ o).run P w = .ok .skip w' ∧ v = undef)) ∧ Inv G0 w0 G' w' s' tv ∧ RepT G' w' a v ∧ OwnAt G' w' (.slot d) a v

section
variable {P : Program} {ρ : Operand → Value} {G0 : Gh} {w0 : World} {G : Gh} {w : World} {s : St} {tv : Nat → Value} {d : Nat} {o : Oper}

theorem okEv_of' (h : Inv G0 w0 G w s tv) (hT : ∀ t, ρ (.tmp t) = tv t) (hc : EvConst ρ) (hf : ∀ f, ρ (.func f) = .func (.func f) #[] #[]) : OkEv G w s.ev ρ := by
  intro x y e
  cases x with
  | tmp t => simp [trO] at e; subst e; rw [hT]; exact h.tmp t
  | const v =>
    simp only [trO] at e
    split at e
    · rename_i av hv
      simp at e; subst e
      rw [hc]
      exact .of (Rep.ofValue G w hv)
    · simp at e
  | func f => simp [trO] at e; subst e; rw [hf]; exact .of (.fn _ [] #[] rfl (fun i h1 h2 => absurd h1 (by simp)))
  | global g => simp [trO] at e

theorem ofScalar_notOwn {v : Value} {a : AV} (h : AV.ofScalar v = some a) : notOwn a := by
  unfold AV.ofScalar at h
  split at h <;> simp at h <;> subst h <;> trivial
theorem ofValue_notOwn {v : Value} {a : AV} (h : AV.ofValue v = some a) : notOwn a := by
  unfold AV.ofValue at h
  split at h
  · split at h <;> simp at h
    subst h; trivial
  · exact ofScalar_notOwn h

theorem trO_k {x : Operand} {v : AV} (h : trO x = some (.k v)) : notOwn v := by
  cases x with
  | tmp t => simp [trO] at h
  | const c =>
    simp only [trO] at h
    split at h
    · rename_i a ha
      simp at h; subst h
      exact ofValue_notOwn ha
    · simp at h
  | func f => simp [trO] at h; subst h; trivial
  | global g => simp [trO] at h

theorem trO_t {x : Operand} {t : Nat} (h : trO x = some (.t t)) : x = .tmp t := by
  cases x with
  | tmp t => simp [trO] at h; subst h; rfl
  | const c =>
    simp only [trO] at h
    split at h <;> simp at h
  | func f => simp [trO] at h
  | global g => simp [trO] at h

/-- An operand's value moves on. -/
theorem Inv.takeO (h : Inv G0 w0 G w s tv) {x : Operand} {x' : VO} (hx : trO x = some x') (hT : ∀ t, ρ (.tmp t) = tv t) (he : OkEv G w s.ev ρ) :
    ∃ G', Inv G0 w0 G' w (s.takeO x').2 tv ∧ RepT G' w (s.takeO x').1 (ρ x) ∧ OwnAt G' w .air (s.takeO x').1 (ρ x) ∧ G'.mb = G.mb ∧ G'.lb = G.lb ∧ Le G w G' w := by
  cases x' with
  | t n =>
    have := trO_t hx
    subst this
    rw [hT]
    exact h.takeT n
  | k v => exact ⟨G, h, he _ _ hx, OwnAt.of_notOwn (trO_k hx), rfl, rfl, .refl G w⟩

theorem does_assign {x : Operand} {x' : VO} (hI : Inv G0 w0 G w s tv) (ho : o.op = .assign x ∨ o.op = .move x) (hx : trO x = some x') (hT : ∀ t, ρ (.tmp t) = tv t) (he : OkEv G w s.ev ρ) :
    Does P ρ o G0 w0 w tv d (s.takeO x').1 (s.takeO x').2 := by
  obtain ⟨G1, h1, h2, h3, _⟩ := hI.takeO hx hT he
  obtain ⟨G2, k1, k2, k3, _⟩ := h1.land h2 h3 (.slot d)
  exact ⟨ρ x, w, G2, .inl (by rcases ho with ho | ho <;> simp [execOp, ho]), k1, k2, k3⟩

theorem zeroValue_run {t : TypeId} {zv : Value} (h : zeroOf P t = some zv) : (zeroValue t).run P w = .ok zv w := by
  unfold zeroOf at h
  cases hi : P.info? t with
  | none => simp [hi] at h
  | some it => simp [hi] at h; simp [zeroValue, typeInfo, hi, h]

theorem objAt_cells {G' : Gh} {w' : World} {x : Ix} {b : Nat} {cs : List AV} {arr : Array Value} {T : TypeId} (hr : G'.role b = (.obj x, some 0)) (hh : w'.heap[b]? = some (.cells arr T (0, 0)))
    (hl : RepL G' w' cs arr.toList) (hn : ∀ a ∈ cs, notOwn a) : ObjAt G' w' x b (.cells false cs) := by
  have := hl.to_array
  exact ⟨hr, arr, T, hh, Nat.le_of_eq this.1, fun j j1 j2 => ⟨this.2 j j1 j2, OwnAt.of_notOwn (hn _ (List.getElem_mem j1))⟩⟩

theorem RepL.mono {G G' : Gh} {w w' : World} (l : Le G w G' w') {cs : List AV} {vs : List Value} (h : RepL G w cs vs) : RepL G' w' cs vs :=
  ⟨h.1, fun i a v ha hv => (h.2 i a v ha hv).mono l⟩

theorem does_new (hI : Inv G0 w0 G w s tv) {heap : Bool} {cs : List AV} {v : Value} {T : TypeId} (hl : RepL G w cs v.cells.toList) (hn : ∀ a ∈ cs, notOwn a)
    (hrun : (execOp ρ o).run P w = .ok (.value (.pointer (some ⟨w.heap.size, 0, none⟩))) (w.alloc (.cells v.cells T))) :
    (heap = true → Does P ρ o G0 w0 w tv d (.ptr (.mem s.mem.length) 0) (addMem s (.cells false cs))) ∧
    (heap = false → Does P ρ o G0 w0 w tv d (.ptr (.loc d (s.loc d).length) 0) (addLoc s d (.cells false cs))) := by
  have key := hI.newObj (Drawn.refl w) (.cells v.cells T (0, 0)) heap d (.cells false cs) (fun G' x l hr hh => objAt_cells hr hh (hl.mono l) hn)
  constructor
  · intro hb
    obtain ⟨G', h1, h2, _⟩ := key.2 hb
    exact ⟨_, _, G', .inl hrun, h1, RepT.ptr_mk h2, OwnAt.of_notOwn trivial⟩
  · intro hb
    obtain ⟨G', h1, h2, _⟩ := key.1 hb
    exact ⟨_, _, G', .inl hrun, h1, RepT.ptr_mk h2, OwnAt.of_notOwn trivial⟩

theorem ofCells_notOwn : ∀ {vs : List Value} {as : List AV}, ofCells vs = some as → ∀ a ∈ as, notOwn a
  | [], as, h => by simp [ofCells] at h; subst h; simp
  | v :: rest, as, h => by
    simp only [ofCells] at h
    split at h
    · rename_i a as' h1 h2
      simp at h; subst h
      intro x hx
      rcases List.mem_cons.1 hx with rfl | hx
      · exact ofScalar_notOwn h1
      · exact ofCells_notOwn h2 x hx
    · simp at h

theorem does_alloc {t : TypeId} {zv : Value} {cs : List AV} {heap : Bool} {a : AV} {s' : St} (hI : Inv G0 w0 G w s tv) (ho : o.op = .alloc t) (hz : zeroOf P t = some zv) (hcs : ofCells zv.cells.toList = some cs)
    (hx : exec d (.alloc heap cs) s = some (a, s')) : Does P ρ o G0 w0 w tv d a s' := by
  have hrun : (execOp ρ o).run P w = .ok (.value (.pointer (some ⟨w.heap.size, 0, none⟩))) (w.alloc (.cells zv.cells t)) := by
    simp [execOp, ho, Instr.alloc, zeroValue_run hz, newVar, newRow]
  have key := does_new (P := P) (ρ := ρ) (o := o) (d := d) hI (heap := heap) (cs := cs) (v := zv) (T := t)
    ⟨ofCells_len hcs, fun i a v ha hv => by
      obtain ⟨k1, rfl⟩ := List.getElem?_eq_some_iff.1 ha
      obtain ⟨k2, rfl⟩ := List.getElem?_eq_some_iff.1 hv
      exact Rep.ofCells G w hcs i k1 k2⟩ (ofCells_notOwn hcs) hrun
  simp only [exec] at hx
  split at hx
  · rename_i hb
    simp only [Option.some.injEq, Prod.mk.injEq] at hx
    obtain ⟨rfl, rfl⟩ := hx
    exact key.1 hb
  · rename_i hb
    simp only [Option.some.injEq, Prod.mk.injEq] at hx
    obtain ⟨rfl, rfl⟩ := hx
    exact key.2 (by simpa using hb)

theorem does_box {t : TypeId} {x : Operand} {x' : VO} {heap : Bool} {a : AV} {s' : St} (hI : Inv G0 w0 G w s tv) (ho : o.op = .box t x) (hxx : trO x = some x') (he : OkEv G w s.ev ρ)
    (hx : exec d (.box heap x') s = some (a, s')) : Does P ρ o G0 w0 w tv d a s' := by
  have hrun : (execOp ρ o).run P w = .ok (.value (.pointer (some ⟨w.heap.size, 0, none⟩))) (w.alloc (.cells (ρ x).cells t)) := by
    simp [execOp, ho, Instr.box, newVar, newRow]
  simp only [exec] at hx
  split at hx
  · rename_i hg
    have hg' := good_inv hg
    have hrep := (he _ _ hxx).nl hg'.1
    have key := does_new (P := P) (ρ := ρ) (o := o) (d := d) hI (heap := heap) (cs := (s.ev x').cells.map AV.view) (v := ρ x) (T := t) (RepL.cells hrep hg'.2).view
      (fun a ha => by simp at ha; obtain ⟨b, _, rfl⟩ := ha; exact notOwn_view b) hrun
    split at hx
    · rename_i hb
      simp only [Option.some.injEq, Prod.mk.injEq] at hx
      obtain ⟨rfl, rfl⟩ := hx
      exact key.1 hb
    · rename_i hb
      simp only [Option.some.injEq, Prod.mk.injEq] at hx
      obtain ⟨rfl, rfl⟩ := hx
      exact key.2 (by simpa using hb)
  · simp at hx

/-- A value is read out of cells. -/
theorem load_cells {t : TypeId} {agg : Option Nat} {cs : List AV} {b o off : Nat} {a : AV} (vals : Nat → Value) (ha : aggOf P t = some agg) (hp : part? agg cs off = some a)
    (hc : ∀ j, j < cs.length → w.cell? ⟨b, o + j, none⟩ = some (vals j)) (hr : ∀ (j : Nat) (h : j < cs.length), Rep G w cs[j] (vals j)) :
    ∃ v, (loadVar t ⟨b, o + off, none⟩).run P w = .ok v w ∧ Rep G w a v ∧ notOwn a := by
  cases agg with
  | none =>
    have hagg : (isAgg t).run P w = .ok false w := by
      unfold aggOf at ha
      cases hu : P.underlying t with
      | none => simp [hu] at ha
      | some d => cases d <;> simp only [hu] at ha <;> first | (split at ha <;> simp at ha; done) | simp [isAgg, run_underlying hu]
    simp only [part?] at hp
    split at hp
    · rename_i v hv
      simp at hp; subst hp
      obtain ⟨hlt, rfl⟩ := List.getElem?_eq_some_iff.1 hv
      refine ⟨vals off, ?_, (hr off hlt).view, notOwn_view _⟩
      simp [loadVar, hagg, hc off hlt]
    · simp at hp
  | some sz =>
    have hagg : (isAgg t).run P w = .ok true w ∧ (sizeOf t).run P w = .ok sz w := by
      unfold aggOf szOf at ha
      cases hu : P.underlying t with
      | none => simp [hu] at ha
      | some d =>
        cases d <;> simp only [hu] at ha <;> first
          | (simp at ha; done)
          | (cases hi : P.info? t with
             | none => simp [hi] at ha
             | some i => simp [hi] at ha; exact ⟨by simp [isAgg, run_underlying hu], by simp [sizeOf, typeInfo, hi, ha]⟩)
    simp only [part?] at hp
    split at hp
    · rename_i hle
      simp at hp; subst hp
      have hld := run_loadCells (P := P) w ⟨b, o + off, none⟩ sz (fun j => vals (off + j)) (fun j hj => by
        rw [add_off, Nat.add_assoc]; exact hc (off + j) (by omega))
      refine ⟨.agg ((List.range sz).map fun j => vals (off + j)).toArray, ?_, ?_, trivial⟩
      · simp only [loadVar, Sem.run_bind, hagg.1, Result.andThen_ok, if_true, hagg.2, hld]; rfl
      · refine .agg _ _ (by simp; omega) fun i h1 h2 => ?_
        have := hr (off + i) (by simp at h1; omega)
        simpa using this
    · simp at hp

theorem does_load {t : TypeId} {x : Operand} {x' : VO} {agg : Option Nat} {a : AV} {s' : St} (hI : Inv G0 w0 G w s tv) (ho : o.op = .load t x) (hxx : trO x = some x') (ha : aggOf P t = some agg) (he : OkEv G w s.ev ρ)
    (hx : exec d (.load agg x') s = some (a, s')) : Does P ρ o G0 w0 w tv d a s' := by
  have hr := he _ _ hxx
  have fin : ∀ (b o' : Nat) v, ρ x = .pointer (some ⟨b, o', none⟩) → (loadVar t ⟨b, o', none⟩).run P w = .ok v w → Rep G w a v → notOwn a → s' = s → Does P ρ o G0 w0 w tv d a s' := by
    intro b o' v e1 e2 e3 e4 e5
    subst e5
    refine ⟨v, w, G, .inl ?_, hI, .of e3, OwnAt.of_notOwn e4⟩
    simp only [execOp, ho, Instr.loadAt, e1, Instr.sureAddr, Sem.run_bind, Sem.run_pure, Result.andThen_ok, e2]
  simp only [exec] at hx
  split at hx
  · rename_i cs off hv
    rw [hv] at hr
    obtain ⟨b, o', vals, e1, h1, h2⟩ := hr.vptr_inv
    split at hx
    · rename_i r hp
      simp only [Option.some.injEq, Prod.mk.injEq] at hx
      obtain ⟨rfl, rfl⟩ := hx
      obtain ⟨v, k1, k2, k3⟩ := load_cells (P := P) (G := G) (w := w) vals ha hp (fun j hj => (h1 j hj).2) h2
      exact fin _ _ v e1 k1 k2 k3 rfl
    · simp at hx
  · rename_i ix off hv
    rw [hv] at hr
    obtain ⟨b, hb, e1⟩ := hr.ptr_inv
    split at hx
    · rename_i cs hcs
      split at hx
      · rename_i r hp
        simp only [Option.some.injEq, Prod.mk.injEq] at hx
        obtain ⟨rfl, rfl⟩ := hx
        unfold objCells at hcs
        split at hcs
        · rename_i fz cs' hobj
          simp at hcs; subst hcs
          obtain ⟨b', hb', _, hat⟩ := hI.obj _ _ hobj
          rw [hb] at hb'
          simp only [Option.some.injEq] at hb'
          subst hb'
          have hcells : ∃ vals : Nat → Value, ∀ (j : Nat) (h : j < cs'.length), w.cell? ⟨b, j, none⟩ = some (vals j) ∧ Rep G w cs'[j] (vals j) := by
            cases fz
            · obtain ⟨_, arr, T, h2, h3, h4⟩ := hat
              refine ⟨fun j => arr.getD j undef, fun j hj => ?_⟩
              have hj2 : j < arr.size := by omega
              have := (h4 j hj hj2).1
              exact ⟨by simp [World.cell?, h2, hj2], by simpa [hj2] using this⟩
            · obtain ⟨vals, h4⟩ := hat
              exact ⟨vals, fun j hj => (h4 j hj).2⟩
          obtain ⟨vals, c1⟩ := hcells
          obtain ⟨v, k1, k2, k3⟩ := load_cells (P := P) (G := G) (w := w) (b := b) (o := 0) vals ha hp (fun j hj => by rw [Nat.zero_add]; exact (c1 j hj).1) (fun j hj => (c1 j hj).2)
          rw [Nat.zero_add] at k1
          exact fin _ _ v e1 k1 k2 k3 rfl
        · simp at hcs
      · simp at hx
    · simp at hx
  · simp at hx

end
end Go.Vm
