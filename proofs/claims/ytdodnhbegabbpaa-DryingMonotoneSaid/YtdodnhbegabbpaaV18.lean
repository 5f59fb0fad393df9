/- All operations but calls of Go functions. -/
import Derived.Test.YtdodnhbegabbpaaV17b
namespace Go.Vm

def isPure : VOp → Bool
  | .take _ => false
  | .assign _ => false
  | .alloc _ _ => false
  | .box _ _ => false
  | .load _ _ => false
  | .loadTake _ => false
  | .store _ _ _ => false
  | .mkfn _ _ => false
  | .slSl _ _ _ _ _ => false
  | .append _ _ _ _ => false
  | .appStr _ _ => false
  | .mkslObj _ _ _ _ _ _ => false
  | .slZ _ => false
  | .appendRow _ _ _ _ => false
  | .range _ => false
  | .next _ => false
  | .call _ _ => false
  | _ => true

theorem exec_pure {d : Nat} {vop : VOp} {s : St} (h : isPure vop = true) : exec d vop s = match pval s.ev vop with
    | some v => some (v, s)
    | none => none := by
  cases vop <;> simp [isPure] at h <;> rfl

theorem trNil_pure {k : Nat} {op : BinOp} {x : VO} {y : Operand} {v : VOp} (h : trNil k op x y = some v) : isPure v = true := by
  unfold trNil at h
  split at h
  · cases op <;> simp at h <;> subst h <;> rfl
  · simp at h

theorem trBin_pure {P : Program} {op : BinOp} {t : TypeId} {x y : Operand} {v : VOp} (h : trBin P op t x y = some v) : isPure v = true := by
  unfold trBin at h
  split at h
  · simp at h; subst h; rfl
  · simp at h; subst h; rfl
  · cases op <;> simp at h <;> subst h <;> rfl
  · split at h
    · split at h
      · cases op <;> simp at h <;> subst h <;> rfl
      · simp at h
    · simp at h
  · exact trNil_pure h
  · exact trNil_pure h
  · exact trNil_pure h
  · simp at h

theorem trPure_pure {P : Program} {o : Oper} {v : VOp} (h : trPure P o = some v) : isPure v = true := by
  unfold trPure at h
  repeat' (first | split at h)
  all_goals first
    | (exact trBin_pure h)
    | (simp at h; done)
    | (simp at h; subst h; rfl)

theorem trPureAll_pure {P : Program} {o : Oper} {v : VOp} (h : trPureAll P o = some v) : isPure v = true := by
  unfold trPureAll at h
  split at h
  · repeat' (first | split at h)
    all_goals first
      | (simp at h; done)
      | (simp at h; subst h; rfl)
  · repeat' (first | split at h)
    all_goals first
      | (simp at h; done)
      | (simp at h; subst h; rfl)
  · repeat' (first | split at h)
    all_goals first
      | (simp at h; done)
      | (simp at h; subst h; rfl)
  · exact trPure_pure h

def trAppend (P : Program) (row : Bool) (c : Call) : Option VOp :=
  match c.args.toList, c.argTypes.toList with
  | [a, x], [t, t'] =>
    if t = t' then
      match P.underlying t, trO a, trO x with
      | some (.slice e), some a, some x => match P.info? e with
        | some it => match it.zero with
          | some zv => if zv.cells.size = it.size then (if row then some (.appendRow it.size it.bytes a x) else some (.append it.size it.bytes a x)) else none
          | none => none
        | none => none
      | _, _, _ => none
    else none
  | _, _ => none

def trMksl (P : Program) (heap : Bool) (t : TypeId) (l c : Operand) : Option VOp :=
  match P.underlying t, trO l, trO c with
  | some (.slice e), some l, some c => match P.info? e with
    | some it => match it.zero with
      | some zv => match AV.ofValue zv with
        | some za => some (.mkslObj heap it.size it.bytes za l c)
        | none => none
      | none => none
    | none => none
  | _, _, _ => none

def isZero : Option Operand → Bool
  | some (.const (.int _ n)) => n == 0
  | _ => false

/-- From the model's operation to the small one. heap, takes: the slots whose objects lie in the shared memory, that take the right to append. -/
def trOp (P : Program) (heap takes : Nat → Bool) (o : Oper) : Option VOp :=
  match o.op with
  | .move x => match o.dst with
    | some d => if takes d then match x with
        | .tmp t => some (.take t)
        | _ => none
      else trPureAll P o
    | none => none
  | .assign x => match trO x with
    | some x => some (.assign x)
    | none => none
  | .alloc t => match o.dst, zeroOf P t with
    | some d, some zv => match ofCells zv.cells.toList with
      | some cs => some (.alloc (heap d) cs)
      | none => none
    | _, _ => none
  | .box _ x => match o.dst, trO x with
    | some d, some x => some (.box (heap d) x)
    | _, _ => none
  | .load t x => match o.dst, trO x, aggOf P t with
    | some d, some x, some agg => if takes d then match agg with
        | none => some (.loadTake x)
        | _ => none
      else some (.load agg x)
    | _, _, _ => none
  | .store t x y => match trO x, trO y, szOf P t with
    | some x, some y, some sz => some (.store sz x y)
    | _, _, _ => none
  | .makeFunc f first caps => if first.toList.isEmpty then match trList caps.toList with
      | some cs => some (.mkfn f cs)
      | none => none
    else none
  | .slice t x lo hi mx => match P.underlying t with
    | some (.slice e) =>
      if heap (o.dst.getD 0) then
        match szOf P e, trO x with
        | some _, some x => if lo.isNone && isZero hi && isZero mx then some (.slZ x) else none
        | _, _ => none
      else match szOf P e, trO x, trOpt lo, trOpt hi, trOpt mx with
      | some z, some x, some lo, some hi, some mx => if mx.isSome → hi.isSome then some (.slSl z x lo hi mx) else none
      | _, _, _, _, _ => none
    | _ => trPureAll P o
  | .makeSlice t l c => if heap (o.dst.getD 0) then trMksl P true t l c else if heap (o.dst.getD 0 + 100000) then trMksl P false t l c else trPureAll P o
  | .buildSlice t n parts =>
    if heap (o.dst.getD 0) then
      match P.underlying t with
      | some (.slice e) => match szOf P e with
        | some _ => if n = 0 ∧ parts.toList.isEmpty then some .buildZ else none
        | none => none
      | _ => none
    else trPureAll P o
  | .range t x => match P.underlying t, trO x with
    | some .string, some x => some (.range x)
    | _, _ => none
  | .next it str => match trO it with
    | some it => if str then some (.next it) else none
    | none => none
  | .call c => match c.callee with
    | .builtin .append => trAppend P (heap (o.dst.getD 0)) c
    | _ => trPureAll P o
  | _ => trPureAll P o

section
variable {P : Program} {ρ : Operand → Value} {G0 : Gh} {w0 : World} {G : Gh} {w : World} {s : St} {tv : Nat → Value} {d : Nat} {o : Oper}

theorem does_pure {vop : VOp} {a : AV} {s' : St} (hI : Inv G0 w0 G w s tv) (h : trPureAll P o = some vop) (hx : exec d vop s = some (a, s')) (he : OkEv G w s.ev ρ) (hc : EvConst ρ) : Does P ρ o G0 w0 w tv d a s' := by
  rw [exec_pure (trPureAll_pure h)] at hx
  split at hx
  · rename_i v hp
    simp only [Option.some.injEq, Prod.mk.injEq] at hx
    obtain ⟨rfl, rfl⟩ := hx
    obtain ⟨u, w', G', h1, h2, h3, h4⟩ := trPureAll_sound (d := d) h hp he hc
    exact ⟨u, w', G', .inl h1, hI.grow h2, h3, h4⟩
  · simp at hx

theorem trOpt_some {x : Option Operand} {y : Option VO} (h : trOpt x = some y) : x.isSome = y.isSome := by
  cases x with
  | none => simp [trOpt] at h; subst h; rfl
  | some x =>
    simp only [trOpt] at h
    split at h
    · simp at h; subst h; rfl
    · simp at h

theorem isZero_inv (hc : EvConst ρ) {x : Option Operand} (h : isZero x = true) : ∃ y k, x = some y ∧ ρ y = .int k 0 := by
  unfold isZero at h
  split at h
  · rename_i k n
    have : n = 0 := by simpa using h
    subst this
    exact ⟨_, k, rfl, hc _⟩
  · simp at h

theorem does_trMksl {t : TypeId} {l c : Operand} {heap : Bool} {vop : VOp} {a : AV} {s' : St} (hI : Inv G0 w0 G w s tv) (ho : o.op = .makeSlice t l c) (h : trMksl P heap t l c = some vop) (he : OkEv G w s.ev ρ)
    (hx : exec d vop s = some (a, s')) : Does P ρ o G0 w0 w tv d a s' := by
  unfold trMksl at h
  split at h
  · rename_i e l' c' ht hl hc
    split at h
    · rename_i it hi
      split at h
      · rename_i zv hz
        split at h
        · rename_i za hza
          simp only [Option.some.injEq] at h; subst h
          exact does_mkslObj hI ho ht hi hz hza (ofValue_ne_undef hza) hl hc he hx
        · simp at h
      · simp at h
    · simp at h
  · simp at h

theorem exec_sound {heap takes : Nat → Bool} {vop : VOp} {a : AV} {s' : St} (hI : Inv G0 w0 G w s tv) (h : trOp P heap takes o = some vop) (hx : exec d vop s = some (a, s'))
    (hT : ∀ t, ρ (.tmp t) = tv t) (hc : EvConst ρ) (hf : ∀ f, ρ (.func f) = .func (.func f) #[] #[]) : Does P ρ o G0 w0 w tv d a s' := by
  have he := okEv_of' hI hT hc hf
  unfold trOp at h
  split at h
  · rename_i x ho
    split at h
    · rename_i d' hd'
      split at h
      · split at h
        · rename_i t
          simp only [Option.some.injEq] at h; subst h
          simp only [exec, Option.some.injEq] at hx
          have := does_assign (P := P) (ρ := ρ) (d := d) (o := o) (x := .tmp t) (x' := .t t) hI (.inr ho) rfl hT he
          rw [show s.takeO (.t t) = s.takeT t from rfl, hx] at this
          exact this
        · simp at h
      · exact does_pure hI h hx he hc
    · simp at h
  · rename_i x ho
    split at h
    · rename_i x' hx'
      simp only [Option.some.injEq] at h; subst h
      simp only [exec, Option.some.injEq] at hx
      have := does_assign (P := P) (ρ := ρ) (d := d) (o := o) hI (.inl ho) hx' hT he
      rw [hx] at this
      exact this
    · simp at h
  · rename_i t ho
    split at h
    · rename_i d' zv hd' hz
      split at h
      · rename_i cs hcs
        simp only [Option.some.injEq] at h; subst h
        exact does_alloc hI ho hz hcs hx
      · simp at h
    · simp at h
  · rename_i t x ho
    split at h
    · rename_i d' x' hd' hx'
      simp only [Option.some.injEq] at h; subst h
      exact does_box hI ho hx' he hx
    · simp at h
  · rename_i t x ho
    split at h
    · rename_i d' x' agg hd' hx' ha
      split at h
      · split at h
        · simp only [Option.some.injEq] at h; subst h
          exact does_loadTake hI ho hx' ha he hx
        · simp at h
      · simp only [Option.some.injEq] at h; subst h
        exact does_load hI ho hx' ha he hx
    · simp at h
  · rename_i t x y ho
    split at h
    · rename_i x' y' sz hx' hy' hsz
      simp only [Option.some.injEq] at h; subst h
      exact does_store hI ho hx' hy' hsz hT he hx
    · simp at h
  · rename_i f first caps ho
    split at h
    · rename_i hfirst
      split at h
      · rename_i cs hcs
        simp only [Option.some.injEq] at h; subst h
        have : first = #[] := by rw [← Array.toList_inj]; simpa using hfirst
        subst this
        exact does_mkfn hI ho hcs he hx
      · simp at h
    · simp at h
  · rename_i t x lo hi mx ho
    split at h
    · rename_i e ht
      split at h
      · split at h
        · rename_i z x' hz hx'
          split at h
          · rename_i hzz
            simp only [Bool.and_eq_true] at hzz
            obtain ⟨⟨h1, h2⟩, h3⟩ := hzz
            simp only [Option.some.injEq] at h; subst h
            obtain ⟨y2, k2, rfl, e2⟩ := isZero_inv hc h2
            obtain ⟨y3, k3, rfl, e3⟩ := isZero_inv hc h3
            have : lo = none := by simpa using h1
            subst this
            exact does_slZ hI ho ht hz hx' e2 e3 he hx
          · simp at h
        · simp at h
      split at h
      · rename_i z x' lo' hi' mx' hz hx' hlo hhi hmx
        split at h
        · rename_i hmh
          simp only [Option.some.injEq] at h; subst h
          refine does_slSl hI ho ht hz hx' hlo hhi hmx (fun hm => ?_) he hx
          have h1 := trOpt_some hmx
          have h2 := trOpt_some hhi
          cases mx with
          | none => exact absurd rfl hm
          | some q =>
            have : hi'.isSome = true := hmh (by rw [← h1]; rfl)
            rw [← h2] at this
            intro e; rw [e] at this; simp at this
        · simp at h
      · simp at h
    · exact does_pure hI h hx he hc
  · rename_i t l c ho
    split at h
    · exact does_trMksl hI ho h he hx
    · split at h
      · exact does_trMksl hI ho h he hx
      · exact does_pure hI h hx he hc
  · rename_i t n parts ho
    split at h
    · split at h
      · rename_i e ht
        split at h
        · rename_i z hz
          split at h
          · rename_i hn
            obtain ⟨rfl, hp⟩ := hn
            have : parts = #[] := by rw [← Array.toList_inj]; simpa using hp
            subst this
            simp only [Option.some.injEq] at h; subst h
            rw [exec_pure rfl] at hx
            split at hx
            · rename_i v hp2
              simp only [Option.some.injEq, Prod.mk.injEq] at hx
              obtain ⟨rfl, rfl⟩ := hx
              obtain ⟨u, w', G', h1, h2, h3, h4⟩ := pure_buildZ (P := P) (ρ := ρ) (o := o) (G := G) (w := w) (d := d) ho ht hz hp2
              exact ⟨u, w', G', .inl h1, hI.grow h2, h3, h4⟩
            · simp at hx
          · simp at h
        · simp at h
      · simp at h
    · exact does_pure hI h hx he hc
  · rename_i t x ho
    split at h
    · rename_i x' ht hx'
      simp only [Option.some.injEq] at h; subst h
      exact does_range hI ho ht hx' he hx
    · simp at h
  · rename_i it str ho
    split at h
    · rename_i it' hit
      split at h
      · rename_i hs
        simp only [Option.some.injEq] at h; subst h
        subst hs
        exact does_next hI ho hit he hx
      · simp at h
    · simp at h
  · rename_i c ho
    split at h
    · rename_i hcal
      unfold trAppend at h
      split at h
      · rename_i a0 x0 t t' hargs hts
        split at h
        · rename_i htt
          subst htt
          split at h
          · rename_i e a' x' ht ha hx'
            split at h
            · rename_i it hi
              split at h
              · rename_i zv hz
                split at h
                · rename_i hzs
                  split at h
                  · simp only [Option.some.injEq] at h; subst h
                    exact does_appendRow hI ho hcal (by rw [← Array.toList_inj]; exact hargs) (by rw [← Array.toList_inj]; exact hts) ht hi hz hzs ha hx' he hx
                  simp only [Option.some.injEq] at h; subst h
                  exact does_append hI ho hcal (by rw [← Array.toList_inj]; exact hargs) (by rw [← Array.toList_inj]; exact hts) ht hi hz hzs ha hx' hT he hx
                · simp at h
              · simp at h
            · simp at h
          · simp at h
        · simp at h
      · simp at h
    · exact does_pure hI h hx he hc
  · exact does_pure hI h hx he hc

end
end Go.Vm
