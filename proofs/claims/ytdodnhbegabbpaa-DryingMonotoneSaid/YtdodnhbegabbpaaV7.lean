/- Composite values, slices of strings, lengths; the pure operations all together. -/
import Derived.Test.YtdodnhbegabbpaaV6
import Derived.Laws.Tables
namespace Go.Vm

section
variable {P : Program} {ρ : Operand → Value} {G : Gh} {w : World} {ev : VO → AV} {d : Nat}

/-- A list of cells stands for a list. -/
def RepL (G : Gh) (w : World) (cs : List AV) (vs : List Value) : Prop := cs.length = vs.length ∧ ∀ (i : Nat) (a : AV) (v : Value), cs[i]? = some a → vs[i]? = some v → Rep G w a v

theorem RepL.of_array {cs : List AV} {vs : Array Value} (hl : cs.length = vs.size) (h : ∀ (i : Nat) (h1 : i < cs.length) (h2 : i < vs.size), Rep G w cs[i] vs[i]) : RepL G w cs vs.toList := by
  refine ⟨by simpa using hl, fun i a v ha hv => ?_⟩
  obtain ⟨h1, rfl⟩ := List.getElem?_eq_some_iff.1 ha
  obtain ⟨h2, rfl⟩ := List.getElem?_eq_some_iff.1 hv
  have := h i h1 (by simpa using h2)
  simpa using this

theorem RepL.to_array {cs : List AV} {vs : Array Value} (h : RepL G w cs vs.toList) : cs.length = vs.size ∧ ∀ (i : Nat) (h1 : i < cs.length) (h2 : i < vs.size), Rep G w cs[i] vs[i] := by
  refine ⟨by simpa using h.1, fun i h1 h2 => h.2 i _ _ (List.getElem?_eq_getElem h1) (by simp [h2])⟩

theorem RepL.cells {a : AV} {v : Value} (h : Rep G w a v) (hu : a ≠ .undef) : RepL G w a.cells v.cells.toList := by
  have one : ∀ (a : AV) (v : Value), Rep G w a v → RepL G w [a] [v] := by
    intro a v h
    refine ⟨rfl, fun i a' v' ha hv => ?_⟩
    cases i with
    | zero => simp at ha hv; subst ha; subst hv; exact h
    | succ i => simp at ha
  cases h with
  | undef => exact absurd rfl hu
  | agg cs vs hl h => exact .of_array hl h
  | bool b => exact one _ _ (.bool b)
  | int k n => exact one _ _ (.int k n)
  | str s => exact one _ _ (.str s)
  | tup cs vs hl h => exact one _ _ (.tup cs vs hl h)
  | nilvec o => exact one _ _ (.nilvec o)
  | vec o xs b off cap st vals h1 h2 h3 h4 => exact one _ _ (.vec o xs b off cap st vals h1 h2 h3 h4)
  | row i off len b cap h1 h2 => exact one _ _ (.row i off len b cap h1 h2)
  | ptr i off b h1 => exact one _ _ (.ptr i off b h1)
  | vptr cs off b o vals h1 h2 => exact one _ _ (.vptr cs off b o vals h1 h2)
  | nilptr => exact one _ _ .nilptr
  | fn f cs vs h1 h2 => exact one _ _ (.fn f cs vs h1 h2)
  | nilfn => exact one _ _ .nilfn
  | iface t a v h => exact one _ _ (.iface t a v h)
  | nilIface => exact one _ _ .nilIface
  | zcapNil => exact one _ _ .zcapNil
  | zcap b off => exact one _ _ (.zcap b off)

theorem RepL.view {cs : List AV} {vs : List Value} (h : RepL G w cs vs) : RepL G w (cs.map AV.view) vs := by
  refine ⟨by simpa using h.1, fun i a v ha hv => ?_⟩
  simp only [List.getElem?_map, Option.map_eq_some_iff] at ha
  obtain ⟨a', ha', rfl⟩ := ha
  exact (h.2 i a' v ha' hv).view

theorem putCells_length {cs : List AV} {off : Nat} {new : List AV} (h : off + new.length ≤ cs.length) : (putCells cs off new).length = cs.length := by
  simp [putCells]; omega

theorem putCells_get {cs : List AV} {off : Nat} {new : List AV} (h : off + new.length ≤ cs.length) (k : Nat) :
    (putCells cs off new)[k]? = if off ≤ k ∧ k < off + new.length then new[k - off]? else cs[k]? := by
  unfold putCells
  by_cases h1 : k < off
  · rw [if_neg (by omega), List.append_assoc, List.getElem?_append_left (by simp; omega), List.getElem?_take, if_pos h1]
  · by_cases h2 : k < off + new.length
    · rw [if_pos (by omega), List.append_assoc, List.getElem?_append_right (by simp; omega), List.getElem?_append_left (by simp; omega)]
      simp only [List.length_take]
      congr 1
      omega
    · rw [if_neg (by omega), List.getElem?_append_right (by simp; omega), List.getElem?_drop]
      congr 1
      simp
      omega

theorem fill_get (off : Nat) : ∀ (l : List Value) (n : Nat) (cells : Array Value), off + n + l.length ≤ cells.size →
    ((l.zipIdx n).foldl (fun cs (c, j) => cs.setIfInBounds (off + j) c) cells).size = cells.size ∧
    ∀ k, ((l.zipIdx n).foldl (fun cs (c, j) => cs.setIfInBounds (off + j) c) cells)[k]? = if off + n ≤ k ∧ k < off + n + l.length then l[k - (off + n)]? else cells[k]?
  | [], n, cells, _ => by refine ⟨rfl, fun k => ?_⟩; rw [if_neg (by simp only [List.length_nil]; omega)]; rfl
  | v :: l, n, cells, h => by
    simp only [List.length_cons] at h
    obtain ⟨h1, h2⟩ := fill_get off l (n + 1) (cells.setIfInBounds (off + n) v) (by simp; omega)
    simp only [List.zipIdx_cons, List.foldl_cons]
    refine ⟨by rw [h1]; simp, fun k => ?_⟩
    rw [h2 k]
    by_cases hk : k = off + n
    · subst hk
      rw [if_neg (by omega), if_pos (by simp)]
      simp [show off + n < cells.size by omega]
    · by_cases hk2 : off + n < k ∧ k < off + n + (l.length + 1)
      · rw [if_pos (by omega), if_pos (by simp; omega)]
        rw [show k - (off + n) = (k - (off + (n + 1))) + 1 by omega]
        simp
      · rw [if_neg (by omega), if_neg (by simp; omega)]
        rw [Array.getElem?_setIfInBounds_ne (by omega)]

theorem fill_step (off : Nat) (v : Value) (cells : Array Value) (h : off + v.cells.size ≤ cells.size) :
    ∃ r : Array Value, v.cells.zipIdx.foldl (fun cs (c, j) => cs.setIfInBounds (off + j) c) cells = r ∧ r.size = cells.size ∧
    ∀ k, r[k]? = if off ≤ k ∧ k < off + v.cells.size then v.cells[k - off]? else cells[k]? := by
  have := fill_get off v.cells.toList 0 cells (by simpa using h)
  refine ⟨_, rfl, ?_⟩
  rw [← Array.foldl_toList, Array.toList_zipIdx]
  simpa using this

theorem good_inv {a : AV} (h : a.good = true) : a.nl = true ∧ a ≠ .undef := by
  cases a <;> simp_all [AV.good, AV.nl]

/-- Parts laid over cells, as the model does it. -/
theorem fill_ok (he : OkEv G w ev ρ) (place : Nat → Option (Nat × Nat)) (tr : List (Nat × Operand) → Option (List (Nat × Nat × VO)))
    (htr0 : tr [] = some [])
    (htr : ∀ i x rest r, tr ((i, x) :: rest) = some r → ∃ off n x' r', place i = some (off, n) ∧ trO x = some x' ∧ tr rest = some r' ∧ r = (off, n, x') :: r') :
    ∀ (parts : List (Nat × Operand)) (aps : List (Nat × Nat × VO)) (cs cs' : List AV) (arr : Array Value), tr parts = some aps → RepL G w cs arr.toList →
      overlay cs (aps.map fun p => (p.1, p.2.1, ev p.2.2)) = some cs' →
      (∀ p ∈ aps, (ev p.2.2).good = true) →
      ∃ arr', Instr.fill place arr (parts.map fun p => (p.1, ρ p.2)) = some arr' ∧ RepL G w cs' arr'.toList
  | [], aps, cs, cs', arr, h, hr, ho, _ => by
    rw [htr0] at h; simp at h; subst h
    simp [overlay] at ho; subst ho
    exact ⟨arr, by simp [Instr.fill], hr⟩
  | (i, x) :: rest, aps, cs, cs', arr, h, hr, ho, hall => by
    obtain ⟨off, n, x', r', hp, hx, hrest, rfl⟩ := htr i x rest aps h
    simp only [List.map_cons, overlay] at ho
    split at ho
    · rename_i hc
      have hok := good_inv (hall (off, n, x') (by simp))
      have hrep := (he _ _ hx).nl hok.1
      have hcl := RepL.cells hrep hok.2
      have hsz : (ρ x).cells.size = n := by have := hcl.1; simp at this; omega
      have hl : arr.size = cs.length := by have := hr.1; simpa using this.symm
      obtain ⟨r, hr1, hr2, hr3⟩ := fill_step off (ρ x) arr (by omega)
      obtain ⟨arr', h1, h2⟩ := fill_ok he place tr htr0 htr rest r' (putCells cs off ((ev x').cells.map AV.view)) cs' r hrest (by
          refine ⟨by rw [putCells_length (by simp; omega)]; simp [hr2]; exact hl.symm, fun k a v ha hv => ?_⟩
          rw [putCells_get (by simp; omega)] at ha
          have hv' : r[k]? = some v := by simpa using hv
          rw [hr3 k] at hv'
          simp only [List.length_map, hc.1] at ha
          rw [hsz] at hv'
          split at ha
          · rename_i hk
            rw [if_pos hk] at hv'
            exact hcl.view.2 (k - off) a v ha (by simpa using hv')
          · rename_i hk
            rw [if_neg hk] at hv'
            exact hr.2 k a v ha (by simpa using hv')) ho (fun p hp => hall p (by simp [hp]))
      refine ⟨arr', ?_, h2⟩
      simp only [List.map_cons, Instr.fill, hp]
      rw [if_neg (by simp [hsz]; omega), hr1]
      exact h1
    · simp at ho

/-- The places of a struct's or an array's parts. -/
def placeOf (P : Program) (t : TypeId) : Option (Nat → Option (Nat × Nat)) :=
  match P.underlying t with
  | some (.array _ e) => match P.info? e with
    | some ie => some fun i => some (i * ie.size, ie.size)
    | none => none
  | some (.struct fs) => match fs.toList.mapM (fun f => (P.info? f.type).map fun i => (f.offset, i.size)) with
    | some ps => some (ps.toArray[·]?)
    | none => none
  | _ => none

def partsAt (place : Nat → Option (Nat × Nat)) : List (Nat × Operand) → Option (List (Nat × Nat × VO))
  | [] => some []
  | (i, x) :: rest => match place i, trO x, partsAt place rest with
    | some (off, n), some x, some r => some ((off, n, x) :: r)
    | _, _, _ => none

theorem partsAt_cons (place : Nat → Option (Nat × Nat)) : ∀ i x rest r, partsAt place ((i, x) :: rest) = some r →
    ∃ off n x' r', place i = some (off, n) ∧ trO x = some x' ∧ partsAt place rest = some r' ∧ r = (off, n, x') :: r' := by
  intro i x rest r h
  simp only [partsAt] at h
  split at h
  · rename_i off n x' r' h1 h2 h3
    simp only [Option.some.injEq] at h
    exact ⟨off, n, x', r', h1, h2, h3, h.symm⟩
  · simp at h

theorem pure_build {o : Oper} {t : TypeId} {parts : Array (Nat × Operand)} {place : Nat → Option (Nat × Nat)} {aps : List (Nat × Nat × VO)} {zv : Value} {zcs : List AV} {r : AV}
    (ho : o.op = .build t parts) (hp : placeOf P t = some place) (hz : zeroOf P t = some zv) (hzc : ofCells zv.cells.toList = some zcs) (ha : partsAt place parts.toList = some aps)
    (hv : pval ev (.build zcs aps) = some r) (he : OkEv G w ev ρ) : Yields P ρ o G w d r := by
  simp only [pval] at hv
  split at hv
  · rename_i cs hcs
    split at hv
    · rename_i hall
      simp only [Option.some.injEq] at hv; subst hv
      obtain ⟨arr', h1, h2⟩ := fill_ok he place (partsAt place) rfl (partsAt_cons place) parts.toList aps zcs cs zv.cells ha
        ⟨ofCells_len hzc, fun i a v ha hv => by
          obtain ⟨k1, rfl⟩ := List.getElem?_eq_some_iff.1 ha
          obtain ⟨k2, rfl⟩ := List.getElem?_eq_some_iff.1 hv
          exact Rep.ofCells G w hzc i k1 k2⟩ hcs (fun p hp => by simpa using List.all_eq_true.1 hall p hp)
      have hb : P.built t (parts.map fun (i, x) => (i, ρ x)).toList = some arr' := by
        have e1 : (parts.map fun (i, x) => (i, ρ x)).toList = parts.toList.map fun p => (p.1, ρ p.2) := by simp
        rw [e1]
        unfold placeOf at hp
        unfold zeroOf at hz
        unfold Program.built
        cases hi : P.info? t with
        | none => simp [hi] at hz
        | some it =>
          simp [hi] at hz
          split at hp
          · rename_i n e hu
            split at hp
            · rename_i ie hie
              simp only [Option.some.injEq] at hp; subst hp
              simp only [hu, hz, hie]
              exact h1
            · simp at hp
          · rename_i fs hu
            split at hp
            · rename_i ps hps
              simp only [Option.some.injEq] at hp; subst hp
              simp only [hu, hz, hps]
              exact h1
            · simp at hp
          · simp at hp
      have hrun := run_build (P := P) w t _ arr' hb
      refine .same (v := .agg arr') ?_ (.of ?_) trivial
      · simp only [execOp, ho, Sem.run_bind, hrun, Result.andThen_ok, Sem.run_pure]
      · have := h2.to_array
        exact .agg _ _ this.1 this.2
    · simp at hv
  · simp at hv

theorem pure_lenSl {o : Oper} {t e : TypeId} {x : Operand} {x' : VO} {r : AV} (ho : ∃ c, o.op = .call c ∧ c.callee = .builtin .len ∧ c.args = #[x] ∧ c.argTypes = #[t]) (ht : P.underlying t = some (.slice e))
    (hx : trO x = some x') (hp : pval ev (.lenSl x') = some r) (he : OkEv G w ev ρ) : Yields P ρ o G w d r := by
  simp only [pval] at hp
  have hx := he _ _ hx
  obtain ⟨c, ho, h1, h2, h3⟩ := ho
  have hrun : ∀ b n cp, ρ x = .slice b n cp → (execOp ρ o).run P w = .ok (.value (.int .i64 n)) w := by
    intro b n cp e1
    simp [execOp, ho, resolve, h1, h2, h3, invoke, builtin, Builtin.len_, run_underlying ht, e1, goInt]
  split at hp
  · rename_i xs hv
    rw [hv] at hx
    simp only [Option.some.injEq] at hp; subst hp
    rcases hx.vec_inv with ⟨_, rfl, e1⟩ | ⟨b, off, cap, st, vals, _, e1, _⟩
    · exact .same (hrun _ _ _ e1) (.of (.int _ _)) trivial
    · exact .same (hrun _ _ _ e1) (.of (.int _ _)) trivial
  · rename_i hv
    rw [hv] at hx
    simp only [Option.some.injEq] at hp; subst hp
    obtain ⟨b, cap, _, e1, _⟩ := hx.row_inv
    exact .same (hrun _ _ _ e1) (.of (.int _ _)) trivial
  · simp at hp

theorem pure_lenStr {o : Oper} {t : TypeId} {x : Operand} {x' : VO} {r : AV} (ho : ∃ c, o.op = .call c ∧ c.callee = .builtin .len ∧ c.args = #[x] ∧ c.argTypes = #[t]) (ht : P.underlying t = some .string)
    (hx : trO x = some x') (hp : pval ev (.lenStr x') = some r) (he : OkEv G w ev ρ) : Yields P ρ o G w d r := by
  simp only [pval] at hp
  have hx := he _ _ hx
  obtain ⟨c, ho, h1, h2, h3⟩ := ho
  split at hp
  · rename_i xs hv
    rw [hv] at hx
    simp only [Option.some.injEq] at hp; subst hp
    obtain ⟨s, e1, rfl⟩ := hx.str_inv
    have hl : s.data.toList.length = s.size := Array.length_toList
    refine .same (v := .int .i64 s.data.toList.length) ?_ (.of (.int _ _)) trivial
    rw [hl]
    simp [execOp, ho, resolve, h1, h2, h3, invoke, builtin, Builtin.len_, run_underlying ht, e1, goInt]
  · simp at hp

theorem pure_minmax {o : Oper} {isMax : Bool} {xs : List VO} {r : AV} (ho : ∃ c, o.op = .call c ∧ c.callee = .builtin (if isMax then .max else .min) ∧ trList c.args.toList = some xs)
    (hp : pval ev (.minmax isMax xs) = some r) (he : OkEv G w ev ρ) : Yields P ρ o G w d r := by
  simp only [pval] at hp
  obtain ⟨c, ho, h1, h2⟩ := ho
  obtain ⟨hl, hr⟩ := trList_ok he h2
  split at hp
  · rename_i a rest hm
    cases xs with
    | nil => simp at hm
    | cons y ys =>
      simp only [List.map_cons, List.cons.injEq] at hm
      obtain ⟨rfl, rfl⟩ := hm
      cases hargs : c.args.toList with
      | nil => simp [hargs] at hl
      | cons z zs =>
        have h0 := hr 0 (by simp) (by simp [hargs])
        simp only [hargs, List.getElem_cons_zero] at h0
        obtain ⟨v, hv1, hv2⟩ := minmax_run (P := P) (G := G) (w := w) (isMax := isMax) (ys.map ev) (zs.map ρ) (ev y).view (ρ z) r (by have := hl; rw [hargs] at this; simpa using this)
          (fun i i1 i2 => by
            simp at i1 i2
            have := hr (i + 1) (by simp; omega) (by simp [hargs]; omega)
            simp only [hargs, List.getElem_cons_succ] at this
            simpa using this) h0.view hp
        have hno : notOwn r := by
          clear hv1 hv2
          have : ∀ (l : List AV) (a : AV), notOwn a → minmax? isMax a l = some r → notOwn r := by
            intro l
            induction l with
            | nil => intro a ha hm; simp [minmax?] at hm; subst hm; exact ha
            | cons b l ih =>
              intro a ha hm
              unfold minmax? at hm
              split at hm
              · rename_i heq; simp at heq
              · rename_i heq
                simp at heq
                obtain ⟨rfl, rfl⟩ := heq
                split at hm
                · refine ih _ ?_ hm
                  trivial
                · simp at hm
              · simp at hm
          exact this _ _ (notOwn_view _) hp
        refine .same (v := v) ?_ hv2 hno
        cases isMax
        · simp at h1 hv1
          simp [execOp, ho, resolve, h1, invoke, builtin, Builtin.min_, hargs, hv1]
        · simp at h1 hv1
          simp [execOp, ho, resolve, h1, invoke, builtin, Builtin.max_, hargs, hv1]
  · simp at hp

theorem pure_mkIface {o : Oper} {t : TypeId} {x : Operand} {x' : VO} {r : AV} (ho : o.op = .makeInterface t x) (ht : P.concrete t = true) (hx : trO x = some x')
    (hp : pval ev (.mkIface t x') = some r) (he : OkEv G w ev ρ) : Yields P ρ o G w d r := by
  simp only [pval] at hp
  have hx := he _ _ hx
  split at hp
  · rename_i hn
    simp only [Option.some.injEq] at hp; subst hp
    refine .same (v := .iface t (ρ x)) ?_ (.of (.iface t _ _ (hx.nl hn).view)) trivial
    have hrun := run_makeInterface (P := P) w t (ρ x) ht
    simp only [execOp, ho, Sem.run_bind, hrun, Result.andThen_ok, Sem.run_pure]
  · simp at hp

end
end Go.Vm
