/- A small machine and its soundness, part VD. -/
import Derived.Test.YtmlfcgmiaapffaaGreatDoorVC
import Derived.Orders
import Derived.Scope
import Derived.Below
import Derived.Test.YtmlfcgmiaapffaaGreatDoorVA
/- All operations but calls of Go functions. -/
namespace Go.Vm

/-- No call. -/
structure NoCall (op : VOp) : Prop where
  c : ∀ f args, op ≠ .call f args
  p : ∀ f args, op ≠ .callP f args
  r : ∀ f args, op ≠ .callR f args
  o : ∀ f args, op ≠ .callO f args
def noCallB : VOp → Bool
  | .call _ _ => false
  | .callP _ _ => false
  | .callR _ _ => false
  | .callO _ _ => false
  | _ => true
theorem noCall_of {op : VOp} (h : noCallB op = true) : NoCall op :=
  ⟨fun f args e => by rw [e] at h; simp [noCallB] at h, fun f args e => by rw [e] at h; simp [noCallB] at h, fun f args e => by rw [e] at h; simp [noCallB] at h, fun f args e => by rw [e] at h; simp [noCallB] at h⟩

def isPure : VOp → Bool
  | .take _ => false
  | .assign _ => false
  | .alloc _ _ => false
  | .box _ _ => false
  | .load _ _ => false
  | .loadTake _ => false
  | .loadO _ => false
  | .store _ _ _ => false
  | .mkfn _ _ => false
  | .slSl _ _ _ _ _ => false
  | .append _ _ _ _ => false
  | .appStr _ _ _ => false
  | .strOfM _ => false
  | .bytesObj _ _ => false
  | .mkslObj _ _ _ _ _ _ => false
  | .slZ _ => false
  | .appendRow _ _ _ _ => false
  | .appendO _ _ _ _ => false
  | .range _ => false
  | .next _ => false
  | .mkmap => false
  | .minsert _ _ _ _ => false
  | .mlook _ _ _ _ _ => false
  | .call _ _ => false
  | .callR _ _ => false
  | .callO _ _ => false
  | .unsf _ _ _ _ _ => false
  | _ => true

theorem exec_pure {d : Nat} {vop : VOp} {s : St} (h : isPure vop = true) : exec d vop s = match pval s.ev vop with
    | some v => some (v, s)
    | none => none := by
  cases vop <;> simp [isPure] at h <;> rfl

theorem trNil_pure {k : Nat} {op : BinOp} {x : VO} {y : Operand} {v : VOp} (h : trNil k op x y = some v) : isPure v = true := by
  unfold trNil at h
  split at h
  · cases op <;> simp at h <;> subst h <;> rfl
  · simp at h

theorem trBin_pure {P : Program} {op : BinOp} {t : TypeId} {x y : Operand} {v : VOp} (h : trBin P op t x y = some v) : isPure v = true := by
  unfold trBin at h
  split at h
  · simp at h; subst h; rfl
  · simp at h; subst h; rfl
  · cases op <;> simp at h <;> subst h <;> rfl
  · split at h
    · split at h
      · cases op <;> simp at h <;> subst h <;> rfl
      · simp at h
    · simp at h
  · exact trNil_pure h
  · exact trNil_pure h
  · exact trNil_pure h
  · exact trNil_pure h
  · simp at h

theorem trPure_pure {P : Program} {o : Oper} {v : VOp} (h : trPure P o = some v) : isPure v = true := by
  unfold trPure at h
  repeat' (first | split at h)
  all_goals first
    | (exact trBin_pure h)
    | (simp at h; done)
    | (simp at h; subst h; rfl)

theorem trPureAll_pure {P : Program} {o : Oper} {v : VOp} (h : trPureAll P o = some v) : isPure v = true := by
  unfold trPureAll at h
  split at h
  · repeat' (first | split at h)
    all_goals first
      | (simp at h; done)
      | (simp at h; subst h; rfl)
  · repeat' (first | split at h)
    all_goals first
      | (simp at h; done)
      | (simp at h; subst h; rfl)
  · repeat' (first | split at h)
    all_goals first
      | (simp at h; done)
      | (simp at h; subst h; rfl)
  · exact trPure_pure h

def trAppend (P : Program) (row own : Bool) (c : Call) : Option VOp :=
  match c.args.toList, c.argTypes.toList with
  | [a, x], [t, t'] =>
    if t = t' then
      match P.underlying t, trO P a, trO P x with
      | some (.slice e), some a, some x => match P.info? e with
        | some it => match it.zero with
          | some zv => if zv.cells.size = it.size then (if row then some (.appendRow it.size it.bytes a x) else if own then some (.appendO it.size it.bytes a x) else some (.append it.size it.bytes a x)) else none
          | none => none
        | none => none
      | _, _, _ => none
    else match P.underlying t, P.underlying t', trO P a, trO P x with
      | some (.slice e), some .string, some a, some x => match P.info? e with
        | some it => match it.zero with
          | some zv => if zv.cells.size = it.size ∧ it.size = 1 then some (.appStr it.bytes a x) else none
          | none => none
        | none => none
      | _, _, _, _ => none
  | _, _ => none

def trConv (P : Program) (heap loc rd : Bool) (src dst : TypeId) (x : Operand) : Option VOp :=
  match P.underlying src, P.underlying dst, trO P x with
  | some .string, some (.slice e), some x => match P.underlying e with
    | some (.int .u8) => if heap then some (.bytesObj true x) else if loc then some (.bytesObj false x) else none
    | _ => none
  | some (.slice e), some .string, some x => match P.underlying e with
    | some (.int .u8) => if rd then some (.strOfM x) else none
    | _ => none
  | _, _, _ => none

def trMksl (P : Program) (heap : Bool) (t : TypeId) (l c : Operand) : Option VOp :=
  match P.underlying t, trO P l, trO P c with
  | some (.slice e), some l, some c => match P.info? e with
    | some it => match it.zero with
      | some zv => match AV.ofValue zv with
        | some za => some (.mkslObj heap it.size it.bytes za l c)
        | none => none
      | none => none
    | none => none
  | _, _, _ => none

def isZero : Option Operand → Bool
  | some (.const (.int _ n)) => n == 0
  | _ => false

/-- From the model's operation to the small one. heap, takes: the slots whose objects lie in the shared memory, that take the right to append. -/
def trOp (P : Program) (heap takes : Nat → Bool) (o : Oper) : Option VOp :=
  match o.op with
  | .move x => match o.dst with
    | some d => if takes d then match x with
        | .tmp t => some (.take t)
        | _ => none
      else trPureAll P o
    | none => none
  | .assign x => match trO P x with
    | some x => some (.assign x)
    | none => none
  | .alloc t => match o.dst, zeroOf P t with
    | some d, some zv => match ofCells zv.cells.toList with
      | some cs => some (.alloc (heap d) cs)
      | none => none
    | _, _ => none
  | .box _ x => match o.dst, trO P x with
    | some d, some x => some (.box (heap d) x)
    | _, _ => none
  | .load t x => match o.dst, trO P x, aggOf P t with
    | some d, some x, some agg => if heap (d + 300000) then match agg with
        | none => some (.loadO x)
        | _ => none
      else if takes d then match agg with
        | none => some (.loadTake x)
        | _ => none
      else some (.load agg x)
    | _, _, _ => none
  | .store t x y => match trO P x, trO P y, szOf P t with
    | some x, some y, some sz => some (.store sz x y)
    | _, _, _ => none
  | .makeFunc f first caps => if first.toList.isEmpty then match trList P caps.toList with
      | some cs => some (.mkfn f cs)
      | none => none
    else none
  | .slice t x lo hi mx => match P.underlying t with
    | some (.slice e) =>
      if heap (o.dst.getD 0) then
        match szOf P e, trO P x with
        | some _, some x => if lo.isNone && isZero hi && isZero mx then some (.slZ x) else none
        | _, _ => none
      else match szOf P e, trO P x, trOpt P lo, trOpt P hi, trOpt P mx with
      | some z, some x, some lo, some hi, some mx => if mx.isSome → hi.isSome then some (.slSl z x lo hi mx) else none
      | _, _, _, _, _ => none
    | _ => trPureAll P o
  | .makeSlice t l c => if heap (o.dst.getD 0) then trMksl P true t l c else if heap (o.dst.getD 0 + 100000) then trMksl P false t l c else trPureAll P o
  | .buildSlice t n parts =>
    if heap (o.dst.getD 0) then
      match P.underlying t with
      | some (.slice e) => match szOf P e with
        | some _ => if n = 0 ∧ parts.toList.isEmpty then some .buildZ else none
        | none => none
      | _ => none
    else trPureAll P o
  | .range t x => match P.underlying t, trO P x with
    | some .string, some x => some (.range x)
    | _, _ => none
  | .next it str => match trO P it with
    | some it => if str then some (.next it) else none
    | none => none
  | .convert src dst x =>
    if heap (o.dst.getD 0) || heap (o.dst.getD 0 + 100000) || heap (o.dst.getD 0 + 400000) then trConv P (heap (o.dst.getD 0)) (heap (o.dst.getD 0 + 100000)) (heap (o.dst.getD 0 + 400000)) src dst x else trPureAll P o
  | .call c => match c.callee with
    | .builtin .append => trAppend P (heap (o.dst.getD 0)) (heap (o.dst.getD 0 + 200000)) c
    | _ => trPureAll P o
  | .makeMap _ none => some .mkmap
  | .lookup t m k both => match P.underlying t with
    | some (.map kt et) => match keyKind P kt, zeroOf P et, trO P m, trO P k with
      | some kd, some z, some m, some k => match AV.ofValue z with
        | some za => some (.mlook kd za both m k)
        | none => none
      | _, _, _, _ => none
    | _ => none
  | .insert t m k x => match P.underlying t with
    | some (.map kt _) => match keyKind P kt, trO P m, trO P k, trO P x with
      | some kd, some m, some k, some x => some (.minsert kd m k x)
      | _, _, _, _ => none
    | _ => none
  | .mapUpdate t m k x => match P.underlying t with
    | some (.map kt _) => match keyKind P kt, trO P m, trO P k, trO P x with
      | some kd, some m, some k, some x => some (.minsert kd m k x)
      | _, _, _, _ => none
    | _ => none
  | _ => trPureAll P o

section
variable {P : Program} {ρ : Operand → Value} {G0 : Gh} {w0 : World} {G : Gh} {w : World} {s : St} {tv : Nat → Value} {d : Nat} {o : Oper}

theorem does_pure {vop : VOp} {a : AV} {s' : St} (hI : Inv P G0 w0 G w s tv) (h : trPureAll P o = some vop) (hx : exec d vop s = some (a, s')) (he : OkEv P G w s.ev ρ) (hc : EvConst ρ) (hfn : ∀ f, ρ (.func f) = .func (.func f) #[] #[]) : Does P ρ o G0 w0 w tv d a s' := by
  rw [exec_pure (trPureAll_pure h)] at hx
  split at hx
  · rename_i v hp
    simp only [Option.some.injEq, Prod.mk.injEq] at hx
    obtain ⟨rfl, rfl⟩ := hx
    obtain ⟨u, w', G', h1, h2, h3, h4⟩ := trPureAll_sound (d := d) h hp he hc hfn
    exact ⟨u, w', G', .inl h1, hI.grow h2, h3, h4⟩
  · simp at hx

theorem trOpt_some {x : Option Operand} {y : Option VO} (h : trOpt P x = some y) : x.isSome = y.isSome := by
  cases x with
  | none => simp [trOpt] at h; subst h; rfl
  | some x =>
    simp only [trOpt] at h
    split at h
    · simp at h; subst h; rfl
    · simp at h

theorem isZero_inv (hc : EvConst ρ) {x : Option Operand} (h : isZero x = true) : ∃ y k, x = some y ∧ ρ y = .int k 0 := by
  unfold isZero at h
  split at h
  · rename_i k n
    have : n = 0 := by simpa using h
    subst this
    exact ⟨_, k, rfl, hc.con _⟩
  · simp at h

theorem does_trMksl {t : TypeId} {l c : Operand} {heap : Bool} {vop : VOp} {a : AV} {s' : St} (hI : Inv P G0 w0 G w s tv) (ho : o.op = .makeSlice t l c) (h : trMksl P heap t l c = some vop) (he : OkEv P G w s.ev ρ)
    (hx : exec d vop s = some (a, s')) : Does P ρ o G0 w0 w tv d a s' := by
  unfold trMksl at h
  split at h
  · rename_i e l' c' ht hl hc
    split at h
    · rename_i it hi
      split at h
      · rename_i zv hz
        split at h
        · rename_i za hza
          simp only [Option.some.injEq] at h; subst h
          exact does_mkslObj hI ho ht hi hz hza (ofValue_ne_undef hza) hl hc he hx
        · simp at h
      · simp at h
    · simp at h
  · simp at h

theorem exec_sound {heap takes : Nat → Bool} {vop : VOp} {a : AV} {s' : St} (hI : Inv P G0 w0 G w s tv) (h : trOp P heap takes o = some vop) (hx : exec d vop s = some (a, s'))
    (hT : ∀ t, ρ (.tmp t) = tv t) (hc : EvConst ρ) (hf : ∀ f, ρ (.func f) = .func (.func f) #[] #[]) : Does P ρ o G0 w0 w tv d a s' := by
  have he := okEv_of' hI hT hc hf
  unfold trOp at h
  split at h
  · rename_i x ho
    split at h
    · rename_i d' hd'
      split at h
      · split at h
        · rename_i t
          simp only [Option.some.injEq] at h; subst h
          simp only [exec, Option.some.injEq] at hx
          have := does_assign (P := P) (ρ := ρ) (d := d) (o := o) (x := .tmp t) (x' := .t t) hI (.inr ho) rfl hT he
          rw [show s.takeO (.t t) = s.takeT t from rfl, hx] at this
          exact this
        · simp at h
      · exact does_pure hI h hx he hc hf
    · simp at h
  · rename_i x ho
    split at h
    · rename_i x' hx'
      simp only [Option.some.injEq] at h; subst h
      simp only [exec, Option.some.injEq] at hx
      have := does_assign (P := P) (ρ := ρ) (d := d) (o := o) hI (.inl ho) hx' hT he
      rw [hx] at this
      exact this
    · simp at h
  · rename_i t ho
    split at h
    · rename_i d' zv hd' hz
      split at h
      · rename_i cs hcs
        simp only [Option.some.injEq] at h; subst h
        exact does_alloc hI ho hz hcs hx
      · simp at h
    · simp at h
  · rename_i t x ho
    split at h
    · rename_i d' x' hd' hx'
      simp only [Option.some.injEq] at h; subst h
      exact does_box hI ho hx' he hx
    · simp at h
  · rename_i t x ho
    split at h
    · rename_i d' x' agg hd' hx' ha
      split at h
      · split at h
        · simp only [Option.some.injEq] at h; subst h
          exact does_loadO hI ho hx' ha he hx
        · simp at h
      split at h
      · split at h
        · simp only [Option.some.injEq] at h; subst h
          exact does_loadTake hI ho hx' ha he hx
        · simp at h
      · simp only [Option.some.injEq] at h; subst h
        exact does_load hI ho hx' ha he hx
    · simp at h
  · rename_i t x y ho
    split at h
    · rename_i x' y' sz hx' hy' hsz
      simp only [Option.some.injEq] at h; subst h
      exact does_store hI ho hx' hy' hsz hT he hx
    · simp at h
  · rename_i f first caps ho
    split at h
    · rename_i hfirst
      split at h
      · rename_i cs hcs
        simp only [Option.some.injEq] at h; subst h
        have : first = #[] := by rw [← Array.toList_inj]; simpa using hfirst
        subst this
        exact does_mkfn hI ho hcs he hx
      · simp at h
    · simp at h
  · rename_i t x lo hi mx ho
    split at h
    · rename_i e ht
      split at h
      · split at h
        · rename_i z x' hz hx'
          split at h
          · rename_i hzz
            simp only [Bool.and_eq_true] at hzz
            obtain ⟨⟨h1, h2⟩, h3⟩ := hzz
            simp only [Option.some.injEq] at h; subst h
            obtain ⟨y2, k2, rfl, e2⟩ := isZero_inv hc h2
            obtain ⟨y3, k3, rfl, e3⟩ := isZero_inv hc h3
            have : lo = none := by simpa using h1
            subst this
            exact does_slZ hI ho ht hz hx' e2 e3 he hx
          · simp at h
        · simp at h
      split at h
      · rename_i z x' lo' hi' mx' hz hx' hlo hhi hmx
        split at h
        · rename_i hmh
          simp only [Option.some.injEq] at h; subst h
          refine does_slSl hI ho ht hz hx' hlo hhi hmx (fun hm => ?_) he hx
          have h1 := trOpt_some hmx
          have h2 := trOpt_some hhi
          cases mx with
          | none => exact absurd rfl hm
          | some q =>
            have : hi'.isSome = true := hmh (by rw [← h1]; rfl)
            rw [← h2] at this
            intro e; rw [e] at this; simp at this
        · simp at h
      · simp at h
    · exact does_pure hI h hx he hc hf
  · rename_i t l c ho
    split at h
    · exact does_trMksl hI ho h he hx
    · split at h
      · exact does_trMksl hI ho h he hx
      · exact does_pure hI h hx he hc hf
  · rename_i t n parts ho
    split at h
    · split at h
      · rename_i e ht
        split at h
        · rename_i z hz
          split at h
          · rename_i hn
            obtain ⟨rfl, hp⟩ := hn
            have : parts = #[] := by rw [← Array.toList_inj]; simpa using hp
            subst this
            simp only [Option.some.injEq] at h; subst h
            rw [exec_pure rfl] at hx
            split at hx
            · rename_i v hp2
              simp only [Option.some.injEq, Prod.mk.injEq] at hx
              obtain ⟨rfl, rfl⟩ := hx
              obtain ⟨u, w', G', h1, h2, h3, h4⟩ := pure_buildZ (P := P) (ρ := ρ) (o := o) (G := G) (w := w) (d := d) ho ht hz hp2
              exact ⟨u, w', G', .inl h1, hI.grow h2, h3, h4⟩
            · simp at hx
          · simp at h
        · simp at h
      · simp at h
    · exact does_pure hI h hx he hc hf
  · rename_i t x ho
    split at h
    · rename_i x' ht hx'
      simp only [Option.some.injEq] at h; subst h
      exact does_range hI ho ht hx' he hx
    · simp at h
  · rename_i it str ho
    split at h
    · rename_i it' hit
      split at h
      · rename_i hs
        simp only [Option.some.injEq] at h; subst h
        subst hs
        exact does_next hI ho hit he hx
      · simp at h
    · simp at h
  · rename_i src dst x ho
    split at h
    · unfold trConv at h
      split at h
      · rename_i e x' hs hd hx'
        split at h
        · rename_i hel
          split at h
          · simp only [Option.some.injEq] at h; subst h
            exact does_bytesObj hI ho hs hd hel hx' he hx
          · split at h
            · simp only [Option.some.injEq] at h; subst h
              exact does_bytesObj hI ho hs hd hel hx' he hx
            · simp at h
        · simp at h
      · rename_i e x' hs hd hx'
        split at h
        · rename_i hel
          split at h
          · simp only [Option.some.injEq] at h; subst h
            exact does_strOfM hI ho hs hd hel hx' he hx
          · simp at h
        · simp at h
      · simp at h
    · exact does_pure hI h hx he hc hf
  · rename_i c ho
    split at h
    · rename_i hcal
      unfold trAppend at h
      split at h
      · rename_i a0 x0 t t' hargs hts
        split at h
        · rename_i htt
          subst htt
          split at h
          · rename_i e a' x' ht ha hx'
            split at h
            · rename_i it hi
              split at h
              · rename_i zv hz
                split at h
                · rename_i hzs
                  split at h
                  · simp only [Option.some.injEq] at h; subst h
                    exact does_appendRow hI ho hcal (by rw [← Array.toList_inj]; exact hargs) (by rw [← Array.toList_inj]; exact hts) ht hi hz hzs ha hx' he hx
                  split at h
                  · simp only [Option.some.injEq] at h; subst h
                    exact does_appendO hI ho hcal (by rw [← Array.toList_inj]; exact hargs) (by rw [← Array.toList_inj]; exact hts) ht hi hz hzs ha hx' he hx
                  simp only [Option.some.injEq] at h; subst h
                  exact does_append hI ho hcal (by rw [← Array.toList_inj]; exact hargs) (by rw [← Array.toList_inj]; exact hts) ht hi hz hzs ha hx' hT he hx
                · simp at h
              · simp at h
            · simp at h
          · simp at h
        · split at h
          · rename_i e a' x' ht hu ha hx'
            split at h
            · rename_i it hi
              split at h
              · rename_i zv hz
                split at h
                · rename_i hzs
                  simp only [Option.some.injEq] at h; subst h
                  exact does_appStr hI ho hcal (by rw [← Array.toList_inj]; exact hargs) (by rw [← Array.toList_inj]; exact hts) ht hu hi hz hzs.1 hzs.2 ha hx' he hx
                · simp at h
              · simp at h
            · simp at h
          · simp at h
      · simp at h
    · exact does_pure hI h hx he hc hf
  · rename_i t ho
    simp only [Option.some.injEq] at h; subst h
    exact does_mkmap hI ho hx
  · rename_i t m k both ho
    split at h
    · rename_i kt et ht
      split at h
      · rename_i kd z m' k' hkd hz hm hk
        split at h
        · rename_i za hza
          simp only [Option.some.injEq] at h; subst h
          exact does_mlook hI ho ht hkd hz hza hm hk he hx
        · simp at h
      · simp at h
    · simp at h
  · rename_i t m k x ho
    split at h
    · rename_i kt et ht
      split at h
      · rename_i kd m' k' x' hkd hm hk hxx
        simp only [Option.some.injEq] at h; subst h
        exact does_minsert hI (.inl ho) ht hkd hm hk hxx he hx
      · simp at h
    · simp at h
  · rename_i t m k x ho
    split at h
    · rename_i kt et ht
      split at h
      · rename_i kd m' k' x' hkd hm hk hxx
        simp only [Option.some.injEq] at h; subst h
        exact does_minsert hI (.inr ho) ht hkd hm hk hxx he hx
      · simp at h
    · simp at h
  · exact does_pure hI h hx he hc hf

end
end Go.Vm
/- Calls, and operations one behind the other. -/
namespace Go.Vm

/-- What a callee may see of the ghost. -/
def calleeRole (r : Owner × Option Nat) : Owner × Option Nat :=
  match r.1 with
  | .obj (.mem _) => r
  | .cell (.mem _) _ => r
  | _ => (.ext, r.2)

theorem calleeRole_tip (r : Owner × Option Nat) : (calleeRole r).2 = r.2 := by
  unfold calleeRole; split <;> rfl
theorem calleeRole_same (r : Owner × Option Nat) (h : (calleeRole r).1 ≠ .ext) : calleeRole r = r := by
  unfold calleeRole at h ⊢; split <;> simp_all

def Gh.callee (G : Gh) : Gh := { role := fun b => calleeRole (G.role b), mb := G.mb, lb := fun _ _ => none }

def resSt (v : AV) (m : Mem) : St := { tmp := fun t => if t = 0 then v else .undef, loc := fun _ => [], mem := m }

def Post (P : Program) (G : Gh) (w : World) (v : AV) (m : Mem) (e : Ending) (w' : World) : Prop :=
  ∃ u G', e = .returned u ∧ Inv P G w G' w' (resSt v m) (fun _ => u)

/-- A function of the program with a body. -/
def HasBody (P : Program) (f : FuncId) : Prop := ∃ fn c, P.funcs[f]? = some fn ∧ fn.body = some c ∧ (fn.name == "runtime.NumGoroutine") = false

def CallOK (P : Program) (C : CallF) : Prop := ∀ f args m v m', C f args m = some (v, m') → notOwn v ∧ HasBody P f ∧
  ∀ (G : Gh) (w : World) (vs : Array Value), args.length = vs.size → Inv P G w G w (St.init args m) (fun t => vs.getD t undef) → G.lb = (fun _ _ => none) → Calls P f vs w (Post P G w v m')

/-- A call that needs no shared memory goes the same beside one. -/
def FrameOK (C : CallF) : Prop := ∀ f args v m, C f args [] = some (v, []) → C f args m = some (v, m)

section
variable {P : Program} {G0 : Gh} {w0 : World} {G : Gh} {w : World} {s : St} {tv : Nat → Value}

theorem stable_tip {r r' : Roles} {b o : Nat} (h : (r' b).2 = (r b).2) (hs : stable r b o) : stable r' b o := by
  unfold stable at *; rw [h]; exact hs

theorem le_callee : Le G w G.callee w := ⟨fun _ _ _ hs hc => ⟨stable_tip (calleeRole_tip _) hs, hc⟩, fun _ _ e => e, fun _ _ e => e⟩

/-- What the callee starts from. -/
theorem Inv.toCallee (h : Inv P G0 w0 G w s tv) (args : List AV) (vs : Array Value) (hl : args.length = vs.size) (hr : ∀ (i : Nat) (h1 : i < args.length) (h2 : i < vs.size), Rep G w args[i] vs[i]) (hn : ∀ a ∈ args, notOwn a) :
    Inv P G.callee w G.callee w (St.init args s.mem) (fun t => vs.getD t undef) where
  os := rfl
  tape := rfl
  output := rfl
  size := Nat.le_refl _
  tmp t := by
    show RepT _ _ (args.getD t .undef) _
    by_cases ht : t < args.length
    · have h2 : t < vs.size := by omega
      have := (hr t ht h2).mono (le_callee (G := G) (w := w))
      simp only [List.getD, List.getElem?_eq_getElem ht, Option.getD_some]
      simp [h2]
      exact .of this
    · simp only [List.getD, List.getElem?_eq_none (Nat.le_of_not_lt ht), Option.getD_none]
      exact .of (.undef _)
  own t := by
    show OwnAt _ _ _ (args.getD t .undef) _
    by_cases ht : t < args.length
    · simp only [List.getD, List.getElem?_eq_getElem ht, Option.getD_some]
      exact OwnAt.of_notOwn (hn _ (List.getElem_mem ht))
    · simp only [List.getD, List.getElem?_eq_none (Nat.le_of_not_lt ht), Option.getD_none]
      exact OwnAt.of_notOwn trivial
  obj x o e := by
    cases x with
    | loc t k => simp [St.obj, St.init] at e
    | mem i =>
      obtain ⟨b, h1, h2, h3⟩ := h.obj (.mem i) o e
      refine ⟨b, h1, h2, ?_⟩
      cases o with
      | cells fz cs =>
        cases fz
        · obtain ⟨k1, arr, T, fr, k2, hf, k3, k4⟩ := objAt_inv h3
          have hrole : G.callee.role b = (.obj (.mem i), some 0) := by show calleeRole (G.role b) = _; rw [k1]; rfl
          refine ⟨hrole, arr, T, fr, k2, hf, k3, fun j j1 j2 => ⟨(k4 j j1 j2).1.mono le_callee, (k4 j j1 j2).2.keep (Nat.le_refl _) fun b' c => ⟨?_, fun k a b => ⟨a, b⟩⟩⟩⟩
          have := (k4 j j1 j2).2.role c
          show calleeRole (G.role b') = _
          unfold calleeRole
          rw [this]
        · exact ObjAt.frozen le_callee h3
      | iter ss pos =>
        obtain ⟨k1, k2⟩ := h3
        exact ⟨by show calleeRole (G.role b) = _; rw [k1]; rfl, k2⟩
      | mp kvs =>
        obtain ⟨k1, es, n, k2, k3, k4⟩ := h3
        exact ⟨by show calleeRole (G.role b) = _; rw [k1]; rfl, es, n, k2, k3, fun j j1 j2 => ⟨(k4 j j1 j2).1.mono le_callee, (k4 j j1 j2).2.mono le_callee⟩⟩
  ext b hb e := ⟨rfl, rfl⟩
  le := .refl _ _
  mlen := h.mlen
  llen t k e := rfl
  glob := {
    tab := fun g cs e => (h.glob.tab g cs e).mono (h.le.trans le_callee)
    low := fun n g hn hg => by
      obtain ⟨h1, h2⟩ := h.glob.low n g hn hg
      refine ⟨?_, Nat.lt_of_lt_of_le h2 h.size⟩
      show (calleeRole (G.role g)).1 = .ext
      rw [(h.ext g h2 h1).2]
      unfold calleeRole; rw [h1]
    xw := h.glob.xw.same fun n g hn hg => by
      obtain ⟨h1, h2⟩ := h.glob.low n g hn hg
      exact (h.ext g h2 h1).1 }

/-- Back from the callee. -/
theorem Inv.fromCallee (h : Inv P G0 w0 G w s tv) {G' : Gh} {w' : World} {v : AV} {m : Mem} {u : Value} (hp : Inv P G.callee w G' w' (resSt v m) (fun _ => u)) :
    ∃ G'', Inv P G0 w0 G'' w' { s with mem := m } tv ∧ RepT G'' w' v u := by
  let Gn : Gh := { role := fun b => if b < w.heap.size ∧ (G.callee.role b).1 = .ext then G.role b else G'.role b, mb := G'.mb, lb := G.lb }
  have rin : ∀ b, b < w.heap.size → (G.callee.role b).1 = .ext → Gn.role b = G.role b := fun b h1 h2 => if_pos ⟨h1, h2⟩
  have rout : ∀ b, ¬ (b < w.heap.size ∧ (G.callee.role b).1 = .ext) → Gn.role b = G'.role b := fun b h1 => if_neg h1
  have l1 : Le G w Gn w' := by
    refine ⟨fun b o x hs hc => ?_, fun i b e => hp.le.mb i b e, hp.le.shp⟩
    have hb := lt_of_cell hc
    by_cases e : (G.callee.role b).1 = .ext
    · obtain ⟨k1, k2⟩ := hp.ext b hb e
      exact ⟨stable_of_role (rin b hb e) hs, by rw [cell?_of_heap k1]; exact hc⟩
    · obtain ⟨k1, k2⟩ := hp.le.cell b o x (stable_tip (r := G.role) (r' := G.callee.role) (calleeRole_tip _) hs) hc
      exact ⟨stable_of_role (rout b (fun hh => e hh.2)) k1, k2⟩
  have l2 : Le G' w' Gn w' := by
    refine ⟨fun b o x hs hc => ⟨?_, hc⟩, fun i b e => e, fun _ _ e => e⟩
    by_cases e : b < w.heap.size ∧ (G.callee.role b).1 = .ext
    · obtain ⟨k1, k2⟩ := hp.ext b e.1 e.2
      refine stable_tip ?_ hs
      rw [rin b e.1 e.2, k2]
      exact (calleeRole_tip _).symm
    · exact stable_of_role (rout b e) hs
  have extOf : ∀ b, (∀ i, (G.role b).1 ≠ .obj (.mem i)) → (∀ i j, (G.role b).1 ≠ .cell (.mem i) j) → (G.callee.role b).1 = .ext := by
    intro b h1 h2
    show (calleeRole (G.role b)).1 = .ext
    unfold calleeRole
    split
    · rename_i i e; exact absurd e (h1 i)
    · rename_i i j e; exact absurd e (h2 i j)
    · rfl
  have keepIn : ∀ b', b' < w.heap.size → (G.callee.role b').1 = .ext → ∀ k, (∃ u, w.cell? ⟨b', k, none⟩ = some u) → w.frozen? ⟨b', k, none⟩ = false → (∃ u, w'.cell? ⟨b', k, none⟩ = some u) ∧ w'.frozen? ⟨b', k, none⟩ = false := by
    intro b' h1 h2 k k1 k2
    have := (hp.ext b' h1 h2).1
    exact ⟨by rw [cell?_of_heap this]; exact k1, by rw [frozen?_of_heap this]; exact k2⟩
  have claimLt : ∀ {o a v b}, OwnAt G w o a v → Claims a v b → b < w.heap.size := by
    intro o a v b ho c
    obtain ⟨z, nn, xs, off, len, cap, e1, e2, hne⟩ := c
    rcases (ho z nn xs e1).2 b off len cap e2 with h0 | ⟨h0, _⟩
    · exact absurd h0 hne
    · exact h0
  refine ⟨Gn, ?_, ?_⟩
  · refine { os := hp.os.trans h.os, tape := hp.tape.trans h.tape, output := hp.output.trans h.output, size := Nat.le_trans h.size hp.size, tmp := fun t => (h.tmp t).mono l1 (fun _ _ _ e => e), own := fun t => ?_, obj := fun x o e => ?_, ext := fun b hb e => ?_, le := h.le.trans l1, mlen := hp.mlen, llen := h.llen, glob := h.glob }
    · refine (h.own t).keep hp.size fun b' c => ?_
      have hlt := claimLt (h.own t) c
      have he : (G.callee.role b').1 = .ext := extOf b' (fun i e => by rw [(h.own t).role c] at e; simp at e) (fun i j e => by rw [(h.own t).role c] at e; simp at e)
      exact ⟨rin b' hlt he, keepIn b' hlt he⟩
    · cases x with
      | loc t k =>
        obtain ⟨b, h1, h2, h3⟩ := h.obj (.loc t k) o e
        refine ⟨b, h1, Nat.lt_of_lt_of_le h2 hp.size, h3.keep l1 hp.size (fun e => ?_) fun j a v' b' ho c => ?_⟩
        · have he : (G.callee.role b).1 = .ext := extOf b (fun i e' => by rw [e] at e'; simp at e') (fun i j e' => by rw [e] at e'; simp at e')
          exact ⟨rin b h2 he, (hp.ext b h2 he).1⟩
        · have hlt := claimLt ho c
          have he : (G.callee.role b').1 = .ext := extOf b' (fun i e' => by rw [ho.role c] at e'; simp at e') (fun i j e' => by rw [ho.role c] at e'; simp at e')
          exact ⟨rin b' hlt he, keepIn b' hlt he⟩
      | mem i =>
        obtain ⟨b, h1, h2, h3⟩ := hp.obj (.mem i) o e
        have notExt : ∀ b', (G'.role b').1 ≠ .ext → ¬ (b' < w.heap.size ∧ (G.callee.role b').1 = .ext) := by
          rintro b' hx ⟨k1, k2⟩
          exact hx (by rw [(hp.ext b' k1 k2).2, k2])
        refine ⟨b, h1, h2, h3.keep l2 (Nat.le_refl _) (fun e => ⟨rout b (notExt b (by rw [e]; simp)), rfl⟩) fun j a v' b' ho c => ⟨rout b' (notExt b' (by rw [ho.role c]; simp)), fun k a b => ⟨a, b⟩⟩⟩
    · obtain ⟨k1, k2⟩ := h.ext b hb e
      have hlt := Nat.lt_of_lt_of_le hb h.size
      have he : (G.callee.role b).1 = .ext := extOf b (fun i e' => by rw [k2, e] at e'; simp at e') (fun i j e' => by rw [k2, e] at e'; simp at e')
      exact ⟨(hp.ext b hlt he).1.trans k1, (rin b hlt he).trans k2⟩
  · have := hp.tmp 0
    exact this.mono l2 (fun t k b e => by rw [hp.llen t k (Nat.zero_le _)] at e; simp at e)

end
end Go.Vm
/- Operations in a region: one behind the other. -/
namespace Go.Vm

/-- eff: the slots whose calls look at shared memory (number 0 stands for calls without a value). -/
def trCall (P : Program) (eff : Nat → Bool) (o : Oper) : Option VOp :=
  match o.op with
  | .call c => match c.callee with
    | .value f => match trO P f, trList P c.args.toList with
      | some f, some args => if eff (o.dst.getD 0 + 400000) then some (.callO f args) else if eff (o.dst.getD 0 + 500000) then some (.callR f args) else if eff (o.dst.getD 0) then some (.call f args) else some (.callP f args)
      | _, _ => none
    | _ => none
  | _ => none

def trGuard (ops : Array Oper) : Option (Nat × Bool) → Option (Option (Nat × Bool))
  | none => some none
  | some (j, want) => match (ops[j]?).bind (·.dst) with
    | some d => some (some (d, want))
    | none => none

/-- A call of a function without a body that the small code knows. -/
def isExtn (P : Program) (o : Oper) : Bool :=
  match o.op with
  | .call c => match c.callee with
    | .value (.func f) => (extOf P f).isSome
    | _ => false
  | _ => false

def trAny (P : Program) (heap takes eff : Nat → Bool) (o : Oper) : Option VOp :=
  if isExtn P o then trOp P heap takes o else
  match trU P heap o with
  | some v => some v
  | none =>
  match trCall P eff o with
  | some v => some v
  | none => match trOp P heap takes o with
    | some v => some v
    | none => some (.extn 999 [])

def dstOk (n : Nat) : Option Nat → Bool
  | some d => decide (d < n)
  | none => true

/-- One operation, with its place and its guard. n: how many slots there are. -/
def trI (P : Program) (heap takes eff : Nat → Bool) (n : Nat) (ops : Array Oper) (o : Oper) : Option VI :=
  if dstOk n o.dst then
    match trAny P heap takes eff o, trGuard ops o.guard with
    | some v, some g => some { dst := o.dst, op := v, guard := g }
    | _, _ => none
  else none

def trIs (P : Program) (heap takes eff : Nat → Bool) (n : Nat) (ops : Array Oper) : List Oper → Option (List VI)
  | [] => some []
  | o :: rest => match trI P heap takes eff n ops o, trIs P heap takes eff n ops rest with
    | some i, some is => some (i :: is)
    | _, _ => none

/-- The frame stands for the state. -/
def StOK (P : Program) (G0 : Gh) (w0 : World) (n : Nat) (s : St) (a : Act) (w : World) : Prop :=
  a.defers = [] ∧ a.tmps.size = n ∧ ∃ G, Inv P G0 w0 G w s (fun t => a.tmps.getD t undef)

section
variable {P : Program} {C : CallF} {G0 : Gh} {w0 : World} {n : Nat} {s : St} {a : Act} {w : World} {Q : Exit → Act → World → Prop}

theorem upd_put {a : Act} {d : Nat} {v : Value} (hd : d < a.tmps.size) : (fun t => (a.put (some d) v).tmps.getD t undef) = upd (fun t => a.tmps.getD t undef) d v := by
  funext t
  simp only [Act.put, upd, Array.getD_eq_getD_getElem?]
  by_cases e : t = d
  · subst e; simp [hd]
  · rw [if_neg e, Array.getElem?_setIfInBounds_ne (Ne.symm e)]

theorem StOK.put {dst : Option Nat} (hd : ∀ d, dst = some d → d < n) {av : AV} {v : Value} (h0 : a.defers = []) (hn : a.tmps.size = n) {G : Gh} (hI : Inv P G0 w0 G w s (fun t => a.tmps.getD t undef)) (hr : RepT G w av v)
    (ho : OwnAt G w (.slot (dst.getD 0)) av v) : StOK P G0 w0 n (s.put dst av) (a.put dst v) w := by
  cases dst with
  | none => exact ⟨h0, hn, G, hI⟩
  | some d =>
    refine ⟨h0, by simpa [Act.put] using hn, G, ?_⟩
    rw [upd_put (by rw [hn]; exact hd d rfl)]
    exact hI.put hr ho

theorem eval_tmp (a : Act) (t : Nat) : a.eval (.tmp t) = a.tmps.getD t undef := rfl

theorem map_ev_len {l : List VO} {f : VO → AV} : (l.map f).length = l.length := by simp

theorem call_enter {o : Oper} {c : Call} {f : Operand} {g : FuncId} {caps : Array Value} (ho : o.op = .call c) (hc : c.callee = .value f) (hf : a.eval f = .func (.func g) #[] caps) (hb : HasBody P g) :
    (execOp a.eval o).run P w = .ok (.enter g (c.args.map a.eval ++ caps)) w := by
  obtain ⟨fn, cd, h1, h2, h3⟩ := hb
  have h3' : ¬ fn.name = "runtime.NumGoroutine" := by simpa using h3
  simp [execOp, ho, resolve, hc, hf, Deferred.ofValue, invoke, callFunc, h1, h2, h3']

theorem trPure_nocallP {o : Oper} {v : VOp} (h : trPureAll P o = some v) : ∀ f args, v ≠ .callP f args := by
  rintro f args rfl
  unfold trPureAll trPure trBin trNil at h
  repeat' (first | split at h)
  all_goals (first | (simp at h; done) | (cases ‹BinOp› <;> simp at h))

theorem trOp_nocall {heap takes : Nat → Bool} {o : Oper} {v : VOp} (hv : trOp P heap takes o = some v) : NoCall v := by
  have hA : ∀ r ow c, trAppend P r ow c = some v → NoCall v := by
    intro r ow c h
    unfold trAppend at h
    repeat' (first | split at h)
    all_goals first
      | (simp at h; done)
      | (simp at h; subst h; exact noCall_of rfl)
  have hM : ∀ hp t l c, trMksl P hp t l c = some v → NoCall v := by
    intro hp t l c h
    unfold trMksl at h
    repeat' (first | split at h)
    all_goals first
      | (simp at h; done)
      | (simp at h; subst h; exact noCall_of rfl)
  have hV : ∀ a b c s d x, trConv P a b c s d x = some v → NoCall v := by
    intro a b c s d x h
    unfold trConv at h
    repeat' (first | split at h)
    all_goals first
      | (simp at h; done)
      | (simp at h; subst h; exact noCall_of rfl)
  have hPu : trPureAll P o = some v → NoCall v := by
    intro h
    have hp := trPureAll_pure h
    exact ⟨fun f args e => by rw [e] at hp; simp [isPure] at hp, trPure_nocallP h, fun f args e => by rw [e] at hp; simp [isPure] at hp, fun f args e => by rw [e] at hp; simp [isPure] at hp⟩
  unfold trOp at hv
  repeat' (first | split at hv)
  all_goals first
    | (simp at hv; done)
    | exact hPu hv
    | exact hA _ _ _ hv
    | exact hM _ _ _ _ hv
    | exact hV _ _ _ _ _ _ hv
    | (simp at hv; subst hv; exact noCall_of rfl)

theorem step_sound (hC : CallOK P C) (hF : FrameOK C) {heap takes eff : Nat → Bool} {ops : Array Oper} {o : Oper} {i : VI} {s' : St} (hI : StOK P G0 w0 n s a w) (h : trI P heap takes eff n ops o = some i) (hx : step C i s = some s')
    {K : Act → World → Prop} (hK : ∀ a' w', StOK P G0 w0 n s' a' w' → K a' w') : o.wp P a w K Q := by
  obtain ⟨hd0, hn, G, hinv⟩ := hI
  unfold trI at h
  split at h
  · rename_i hdst
    split at h
    · rename_i v g hv hg
      simp only [Option.some.injEq] at h
      subst h
      have hdst' : ∀ d, o.dst = some d → d < n := by
        intro d e
        rw [e] at hdst
        simpa [dstOk] using hdst
      have hT : ∀ t, a.eval (.tmp t) = (fun t => a.tmps.getD t undef) t := fun _ => rfl
      have hcst : EvConst a.eval := ⟨fun _ => rfl, fun _ => rfl⟩
      have hfn : ∀ f, a.eval (.func f) = .func (.func f) #[] #[] := fun _ => rfl
      have he := okEv_of' hinv hT hcst hfn
      -- all but calls
      have plain : ∀ av s1, exec (o.dst.getD 0) v s = some (av, s1) → trOp P heap takes o = some v → s' = s1.put o.dst av → o.wp P a w K Q := by
        intro av s1 hex htr hs'
        obtain ⟨u, w', G', hrun, hinv', hr, hown⟩ := exec_sound (P := P) (d := o.dst.getD 0) hinv htr hex hT hcst hfn
        have hfin := hK _ _ (hs' ▸ StOK.put (dst := o.dst) hdst' hd0 hn hinv' hr hown)
        rcases hrun with hrun | ⟨hrun, rfl⟩
        · unfold Oper.wp; rw [hrun]; exact hfin
        · unfold Oper.wp; rw [hrun]; exact hfin
      have viaOp : trOp P heap takes o = some v → o.wp P a w K Q := by
        intro hv
        have hncall := trOp_nocall hv
        have hx' : (match exec (o.dst.getD 0) v s with | some (v, s') => some (s'.put o.dst v) | none => none) = some s' := by
          cases v <;> first | exact hx | exact absurd rfl (hncall.c _ _) | exact absurd rfl (hncall.p _ _) | exact absurd rfl (hncall.r _ _) | exact absurd rfl (hncall.o _ _)
        split at hx'
        · rename_i av s1 hex
          simp only [Option.some.injEq] at hx'
          exact plain av s1 hex hv hx'.symm
        · simp at hx'
      unfold trAny at hv
      split at hv
      · exact viaOp hv
      split at hv
      · rename_i vop hu
        simp only [Option.some.injEq] at hv; subst hv
        have hx' : (match exec (o.dst.getD 0) vop s with | some (v, s') => some (s'.put o.dst v) | none => none) = some s' := by
          have hb := trU_unsf hu
          cases vop <;> first | exact hx | (simp [unsfB] at hb; done)
        split at hx'
        · rename_i av s1 hex
          simp only [Option.some.injEq] at hx'
          obtain ⟨u, w', G', hrun, hinv', hr, hown⟩ := trU_sound (P := P) (d := o.dst.getD 0) hinv hu hex he hfn
          have hfin := hK _ _ (hx' ▸ StOK.put (dst := o.dst) hdst' hd0 hn hinv' hr hown)
          rcases hrun with hrun | ⟨hrun, rfl⟩
          · unfold Oper.wp; rw [hrun]; exact hfin
          · unfold Oper.wp; rw [hrun]; exact hfin
        · simp at hx'
      split at hv
      · rename_i vop hcall
        simp only [Option.some.injEq] at hv; subst hv
        unfold trCall at hcall
        split at hcall
        · rename_i c ho
          split at hcall
          · rename_i f hcal
            split at hcall
            · rename_i f' args' hf' hargs'
              have callG : ∀ (φ : AV → AV), (∀ a v, Rep G w a v → Rep G w (φ a) v) → (∀ a, notOwn (φ a)) → ∀ gid caps rv m, s.ev f' = .fn (.func gid) caps → (args'.all fun x => (s.ev x).nl) = true → C gid ((args'.map fun x => φ (s.ev x)) ++ caps.map AV.view) s.mem = some (rv, m) →
                  s' = ({ s with mem := m } : St).put o.dst rv → o.wp P a w K Q := by
                intro φ hφ1 hφ2 gid caps rv m hfv hnl hCx hs'
                subst hs'
                have hrf := he _ _ hf'
                rw [hfv] at hrf
                obtain ⟨cvs, ecv, hcl, hcr⟩ := hrf.fn_inv
                obtain ⟨hal, har⟩ := trList_ok he hargs'
                obtain ⟨hno', hbody, hcalls⟩ := hC _ _ _ _ _ hCx
                have hrun := call_enter (P := P) (w := w) ho hcal ecv hbody
                unfold Oper.wp
                rw [hrun, Oper.upon_enter]
                -- the arguments
                have hlen : ((args'.map fun x => φ (s.ev x)) ++ caps.map AV.view).length = (c.args.map a.eval ++ cvs).size := by
                  simp only [List.length_append, List.length_map, Array.size_append, Array.size_map]
                  have : c.args.size = c.args.toList.length := by simp
                  omega
                have hrep : RepL G w ((args'.map fun x => φ (s.ev x)) ++ caps.map AV.view) (c.args.map a.eval ++ cvs).toList := by
                  rw [Array.toList_append]
                  refine RepL.append ⟨by simp [hal], fun j x y hj hy => ?_⟩ (RepL.of_array hcl hcr).view
                  simp only [List.getElem?_map, Option.map_eq_some_iff] at hj
                  obtain ⟨x', hx', rfl⟩ := hj
                  simp only [Array.toList_map, List.getElem?_map, Option.map_eq_some_iff] at hy
                  obtain ⟨y', hy', rfl⟩ := hy
                  obtain ⟨k1, rfl⟩ := List.getElem?_eq_some_iff.1 hx'
                  obtain ⟨k2, rfl⟩ := List.getElem?_eq_some_iff.1 hy'
                  have hn1 := List.all_eq_true.1 hnl _ (List.getElem_mem k1)
                  exact hφ1 _ _ ((har j k1 k2).nl hn1)
                have hno : ∀ x ∈ (args'.map fun x => φ (s.ev x)) ++ caps.map AV.view, notOwn x := by
                  intro x hx
                  rcases List.mem_append.1 hx with h | h
                  · obtain ⟨y, _, rfl⟩ := List.mem_map.1 h; exact hφ2 _
                  · obtain ⟨y, _, rfl⟩ := List.mem_map.1 h; exact notOwn_view _
                have hpre := hinv.toCallee _ (c.args.map a.eval ++ cvs) hlen hrep.to_array.2 hno
                refine (hcalls G.callee w _ hlen hpre rfl).mono fun e w' hp => ?_
                obtain ⟨u, G', rfl, hpost⟩ := hp
                obtain ⟨Gn, i1, r1⟩ := hinv.fromCallee hpost
                have hown : OwnAt Gn w' (.slot (o.dst.getD 0)) rv u := OwnAt.of_notOwn hno'
                exact hK _ _ (StOK.put (dst := o.dst) hdst' hd0 hn i1 r1 hown)
              have call : ∀ gid caps rv m, s.ev f' = .fn (.func gid) caps → (args'.all fun x => (s.ev x).nl) = true → C gid ((args'.map fun x => (s.ev x).view) ++ caps.map AV.view) s.mem = some (rv, m) →
                  s' = ({ s with mem := m } : St).put o.dst rv → o.wp P a w K Q := callG AV.view (fun _ _ h => h.view) notOwn_view
              split at hcall
              · simp only [Option.some.injEq] at hcall; subst hcall
                simp only [step] at hx
                split at hx
                · rename_i gid caps hfv
                  split at hx
                  · rename_i hnl
                    split at hx
                    · rename_i rv m hCx
                      simp only [Option.some.injEq] at hx
                      exact callG AV.pass (fun _ _ h => h.pass) notOwn_pass gid caps rv m hfv hnl hCx hx.symm
                    · simp at hx
                  · simp at hx
                · simp at hx
              split at hcall
              · simp only [Option.some.injEq] at hcall; subst hcall
                simp only [step] at hx
                split at hx
                · rename_i gid caps hfv
                  split at hx
                  · rename_i hnl
                    split at hx
                    · rename_i rv m hCx
                      split at hx
                      · rename_i hm
                        simp only [Option.some.injEq] at hx
                        rw [eqMem_eq hm] at hCx
                        exact call gid caps rv s.mem hfv hnl hCx hx.symm
                      · simp at hx
                    · simp at hx
                  · simp at hx
                · simp at hx
              split at hcall
              · simp only [Option.some.injEq] at hcall; subst hcall
                simp only [step] at hx
                split at hx
                · rename_i gid caps hfv
                  split at hx
                  · rename_i hnl
                    split at hx
                    · rename_i rv m hCx
                      simp only [Option.some.injEq] at hx
                      exact call gid caps rv m hfv hnl hCx hx.symm
                    · simp at hx
                  · simp at hx
                · simp at hx
              · simp only [Option.some.injEq] at hcall; subst hcall
                simp only [step] at hx
                split at hx
                · rename_i gid caps hfv
                  split at hx
                  · rename_i hnl
                    split at hx
                    · rename_i rv hCx
                      simp only [Option.some.injEq] at hx
                      exact call gid caps rv s.mem hfv hnl (hF _ _ _ _ hCx) hx.symm
                    · simp at hx
                  · simp at hx
                · simp at hx
            · simp at hcall
          · simp at hcall
        · simp at hcall
      · split at hv
        · rename_i v' hv'
          simp only [Option.some.injEq] at hv; subst hv
          exact viaOp hv'
        · simp only [Option.some.injEq] at hv; subst hv
          have : step C { dst := o.dst, op := .extn 999 [], guard := g } s = none := rfl
          rw [this] at hx; cases hx
    · simp at h
  · simp at h

end
end Go.Vm
/- Regions in the text's order, and control. -/
namespace Go.Vm

theorem runOps_cons (C : CallF) (i : VI) (rest : List VI) (s : St) : runOps C (i :: rest) s = match one C i s with
    | some s' => runOps C rest s'
    | none => none := rfl

section
variable {P : Program} {C : CallF} {G0 : Gh} {w0 : World} {n : Nat} {Q : Exit → Act → World → Prop}

theorem trI_parts {heap takes eff : Nat → Bool} {ops : Array Oper} {o : Oper} {i : VI} (h : trI P heap takes eff n ops o = some i) : i.dst = o.dst ∧ trGuard ops o.guard = some i.guard ∧ ∀ d, o.dst = some d → d < n := by
  unfold trI at h
  split at h
  · rename_i hd
    split at h
    · rename_i v g hv hg
      simp only [Option.some.injEq] at h; subst h
      exact ⟨rfl, hg, fun d e => by rw [e] at hd; simpa [dstOk] using hd⟩
    · simp at h
  · simp at h

theorem one_sound (hC : CallOK P C) (hF : FrameOK C) {heap takes eff : Nat → Bool} {ops : Array Oper} {o : Oper} {i : VI} {s s' : St} {a : Act} {w : World} {k : Nat} (hI : StOK P G0 w0 n s a w) (ho : ops[k]? = some o) (h : trI P heap takes eff n ops o = some i)
    (hx : one C i s = some s') {K : Act → World → Prop} (hK : ∀ a' w', StOK P G0 w0 n s' a' w' → K a' w') : wpOp P ops Q k K a w := by
  obtain ⟨hd, hg, hdn⟩ := trI_parts h
  unfold wpOp
  simp only [ho]
  unfold one at hx
  cases hguard : o.guard with
  | none =>
    rw [hguard] at hg
    simp only [trGuard, Option.some.injEq] at hg
    rw [← hg] at hx
    have hw : Region.wanted o (yielded ops a.tmps) = true := by simp [Region.wanted, hguard]
    rw [if_pos hw]
    exact .inl (step_sound hC hF hI h hx hK)
  | some g =>
    obtain ⟨j, want⟩ := g
    rw [hguard] at hg
    simp only [trGuard] at hg
    split at hg
    · rename_i dj hdj
      simp only [Option.some.injEq] at hg
      rw [← hg] at hx
      simp only at hx
      split at hx
      · rename_i b hb
        obtain ⟨h0, hn, G, hinv⟩ := hI
        have hrep := hinv.tmp dj
        have hwant : Region.wanted o (yielded ops a.tmps) = (b == want) := by
          unfold guardB at hb
          split at hb
          · rename_i b' hb'
            simp only [Option.some.injEq] at hb
            subst hb
            rw [show s.tmp dj = _ from hb'] at hrep
            have hval := hrep.bool_inv
            have hy : yielded ops a.tmps j = some b' := by
              unfold yielded
              rw [hdj]
              simp only [Option.bind_some]
              simp only [Array.getD_eq_getD_getElem?] at hval
              cases hq : a.tmps[dj]? with
              | none => rw [hq] at hval; simp [undef] at hval
              | some q => rw [hq] at hval; simp at hval; subst hval; rfl
            simp only [Region.wanted, hguard, hy]
            cases b' <;> cases want <;> rfl
          · rename_i hb'
            simp only [Option.some.injEq] at hb
            subst hb
            rw [show s.tmp dj = _ from hb'] at hrep
            obtain ⟨vs, hval, _⟩ := hrep.tup_inv
            have hy : yielded ops a.tmps j = none := by
              unfold yielded
              rw [hdj]
              simp only [Option.bind_some]
              simp only [Array.getD_eq_getD_getElem?] at hval
              cases hq : a.tmps[dj]? with
              | none => rfl
              | some q => rw [hq] at hval; simp at hval; subst hval; rfl
            simp only [Region.wanted, hguard, hy]
            cases want <;> rfl
          · simp at hb
        split at hx
        · rename_i hbw
          subst hbw
          rw [if_pos (by rw [hwant]; simp)]
          exact .inl (step_sound hC hF ⟨h0, hn, G, hinv⟩ h hx hK)
        · rename_i hbw
          rw [if_neg (by rw [hwant]; simpa using hbw)]
          simp only [Option.some.injEq] at hx
          subst hx
          refine hK _ _ ?_
          rw [hd]
          exact StOK.put hdn h0 hn hinv (.of (.tup [] #[] rfl (fun i h1 h2 => absurd h1 (by simp)))) (OwnAt.of_notOwn trivial)
      · simp at hx
    · simp at hg

theorem trIs_get {heap takes eff : Nat → Bool} {ops : Array Oper} : ∀ {os : List Oper} {is : List VI}, trIs P heap takes eff n ops os = some is → is.length = os.length ∧ ∀ (k : Nat) (o : Oper) (i : VI), os[k]? = some o → is[k]? = some i → trI P heap takes eff n ops o = some i
  | [], is, h => by simp [trIs] at h; subst h; exact ⟨rfl, fun k o i h => by simp at h⟩
  | o :: os, is, h => by
    simp only [trIs] at h
    split at h
    · rename_i i is' hi his
      simp only [Option.some.injEq] at h; subst h
      obtain ⟨h1, h2⟩ := trIs_get his
      refine ⟨by simp [h1], fun k o' i' ho hi' => ?_⟩
      cases k with
      | zero => simp at ho hi'; subst ho; subst hi'; exact hi
      | succ k => exact h2 k o' i' (by simpa using ho) (by simpa using hi')
    · simp at h

theorem ops_sound (hC : CallOK P C) (hF : FrameOK C) {heap takes eff : Nat → Bool} {ops : Array Oper} {is : List VI} (ht : trIs P heap takes eff n ops ops.toList = some is) : ∀ (l : List Nat) (s s' : St) (a : Act) (w : World),
    runOps C (l.filterMap (is[·]?)) s = some s' → StOK P G0 w0 n s a w → (∀ a' w', StOK P G0 w0 n s' a' w' → Q .normal a' w') → wpOps P ops Q l a w
  | [], s, s', a, w, h, hI, hQ => by
    simp [runOps] at h; subst h
    exact hQ a w hI
  | k :: l, s, s', a, w, h, hI, hQ => by
    obtain ⟨hlen, hget⟩ := trIs_get ht
    rw [wpOps_cons]
    cases ho : ops[k]? with
    | none =>
      have : is[k]? = none := by
        rw [List.getElem?_eq_none_iff, hlen]
        simpa using ho
      simp only [List.filterMap_cons, this] at h
      unfold wpOp
      simp only [ho]
      exact ops_sound hC hF ht l s s' a w h hI hQ
    | some o =>
      have hk : k < is.length := by
        rw [hlen]
        have := (Array.getElem?_eq_some_iff.1 ho).1
        simpa using this
      simp only [List.filterMap_cons, List.getElem?_eq_getElem hk] at h
      rw [runOps_cons] at h
      split at h
      · rename_i s1 h1
        have htr := hget k o is[k] (by simpa using ho) (List.getElem?_eq_getElem hk)
        exact one_sound hC hF hI ho htr h1 fun a' w' hI' => ops_sound hC hF ht l s1 s' a' w' h hI' hQ
      · simp at h

theorem filterMap_range {α : Type} : ∀ (is : List α), (List.range is.length).filterMap (is[·]?) = is := by
  intro is
  induction is with
  | nil => rfl
  | cons i is ih =>
    rw [List.length_cons, List.range_succ_eq_map, List.filterMap_cons]
    simp only [List.getElem?_cons_zero, List.filterMap_map]
    congr 1

/-! ### control -/

/-- Code that never ends: what does not translate. -/
def dead : VC := .loop .skip
theorem run_dead (C : CallF) (m : Nat) (s : St) : run C m dead s = none := by
  have key : ∀ (k : Nat) (s : St), loopN (run C m .skip) k s = none := by
    intro k
    induction k with
    | zero => intro s; rfl
    | succ k ih => intro s; simp only [loopN, run]; exact ih s
  exact key m s

/-- The model's code as the small code. ok: may the operations of a region that draws its order be taken in the text's order? -/
def trC (P : Program) (heap takes eff : Nat → Bool) (n : Nat) (ok : Array Oper → List VI → Option (List (Bool × VO × VO))) : Code → Option VC
  | .skip => some .skip
  | .region _ ops draw => match trIs P heap takes eff n ops ops.toList with
    | some is => if draw then match ok ops is with
        | some [] => some (.region is)
        | some ch => some (.drawn is ch)
        | none => some dead
      else some (.region is)
    | none => some dead
  | .seq x y => match trC P heap takes eff n ok x, trC P heap takes eff n ok y with
    | some x, some y => some (.seq x y)
    | _, _ => none
  | .cond c x y => match trO P c, trC P heap takes eff n ok x, trC P heap takes eff n ok y with
    | some c, some x, some y => some (.cond c x y)
    | _, _, _ => some dead
  | .block id x => match trC P heap takes eff n ok x with
    | some x => some (.block id x)
    | none => none
  | .loop x => match trC P heap takes eff n ok x with
    | some x => some (.loop x)
    | none => none
  | .exit id => some (.exit id)
  | .ret => some .ret
  | .scope x => trC P heap takes eff n ok x
  | .label _ => some .skip
  | _ => some dead

def exitOf : VExit → Exit
  | .normal => .normal
  | .exit id => .exit id
  | .ret => .ret

/-- What a region that draws must satisfy. -/
def DrawOK (P : Program) (C : CallF) (n : Nat) (heap takes eff : Nat → Bool) (ok : Array Oper → List VI → Option (List (Bool × VO × VO))) : Prop :=
  ∀ (ops : Array Oper) (is : List VI) (id : Nat) (G0 : Gh) (w0 : World) (s s' : St) (a : Act) (w : World) (Q : Exit → Act → World → Prop) (ch : List (Bool × VO × VO)), trIs P heap takes eff n ops ops.toList = some is → ok ops is = some ch → runOps C is s = some s' → allApart s' ch = true → StOK P G0 w0 n s a w →
    (∀ a' w', StOK P G0 w0 n s' a' w' → Q .normal a' w') → (Code.region id ops true).wp P Q a w

theorem eval_sound {s : St} {a : Act} {w : World} (hI : StOK P G0 w0 n s a w) {c : Operand} {c' : VO} (hc : trO P c = some c') {b : Bool} (hb : s.ev c' = .bool b) : a.eval c = .bool b := by
  obtain ⟨_, _, G, hinv⟩ := hI
  have := okEv_of hinv _ _ hc
  rw [hb] at this
  exact this.bool_inv

theorem run_sound (hC : CallOK P C) (hF : FrameOK C) {heap takes eff : Nat → Bool} {ok : Array Oper → List VI → Option (List (Bool × VO × VO))} (hD : DrawOK P C n heap takes eff ok) (m : Nat) : ∀ (c : Code) (vc : VC) (Q : Exit → Act → World → Prop) (s s' : St) (a : Act) (w : World) (e : VExit), trC P heap takes eff n ok c = some vc →
    run C m vc s = some (e, s') → StOK P G0 w0 n s a w → (∀ a' w', StOK P G0 w0 n s' a' w' → Q (exitOf e) a' w') → c.wp P Q a w := by
  intro c
  induction c with
  | skip =>
    intro vc Q s s' a w e ht hr hI hQ
    simp [trC] at ht; subst ht
    simp only [run, Option.some.injEq, Prod.mk.injEq] at hr
    obtain ⟨rfl, rfl⟩ := hr
    exact wp_skip (hQ a w hI)
  | region id ops draw =>
    intro vc Q s s' a w e ht hr hI hQ
    simp only [trC] at ht
    split at ht
    · rename_i is his
      have plain : run C m (.region is) s = some (e, s') → e = .normal ∧ runOps C is s = some s' := by
        intro hr
        simp only [run] at hr
        split at hr
        · rename_i s1 h1
          simp only [Option.some.injEq, Prod.mk.injEq] at hr
          obtain ⟨rfl, rfl⟩ := hr
          exact ⟨rfl, h1⟩
        · simp at hr
      split at ht
      · rename_i hdr
        subst hdr
        split at ht
        · rename_i hok
          simp only [Option.some.injEq] at ht; subst ht
          obtain ⟨rfl, h1⟩ := plain hr
          exact hD ops is id _ _ s s' a w Q [] his hok h1 rfl hI hQ
        · rename_i ch hne hok
          simp only [Option.some.injEq] at ht; subst ht
          simp only [run] at hr
          split at hr
          · rename_i s1 h1
            split at hr
            · rename_i hall
              simp only [Option.some.injEq, Prod.mk.injEq] at hr
              obtain ⟨rfl, rfl⟩ := hr
              exact hD ops is id _ _ s s1 a w Q ch his hok h1 hall hI hQ
            · simp at hr
          · simp at hr
        · simp only [Option.some.injEq] at ht; subst ht; rw [run_dead] at hr; cases hr
      · rename_i hdr
        have hdr' : draw = false := by simpa using hdr
        subst hdr'
        simp only [Option.some.injEq] at ht; subst ht
        obtain ⟨rfl, h1⟩ := plain hr
        refine wp_region (ops_sound hC hF his _ s s' a w ?_ hI hQ)
        have hlen := (trIs_get his).1
        have e : ops.size = is.length := by rw [hlen]; simp
        rw [e, filterMap_range]
        exact h1
    · simp only [Option.some.injEq] at ht; subst ht; rw [run_dead] at hr; cases hr
  | seq x y ihx ihy =>
    intro vc Q s s' a w e ht hr hI hQ
    simp only [trC] at ht
    split at ht
    · rename_i vx vy hx hy
      simp only [Option.some.injEq] at ht; subst ht
      simp only [run] at hr
      split at hr
      · rename_i s1 h1
        refine wp_seq (ihx vx _ s s1 a w .normal hx h1 hI fun a1 w1 hI1 => ?_)
        exact ihy vy _ s1 s' a1 w1 e hy hr hI1 hQ
      · rename_i hne
        refine wp_seq (ihx vx _ s s' a w e hx hr hI fun a1 w1 hI1 => ?_)
        have := hQ a1 w1 hI1
        cases e with
        | normal => exact absurd hr (hne s')
        | exit id => exact this
        | ret => exact this
    · simp at ht
  | cond c x y ihx ihy =>
    intro vc Q s s' a w e ht hr hI hQ
    simp only [trC] at ht
    split at ht
    · rename_i c' vx vy hc hx hy
      simp only [Option.some.injEq] at ht; subst ht
      simp only [run] at hr
      split at hr
      · rename_i hb
        exact wp_cond_true (eval_sound hI hc hb) (ihx vx _ s s' a w e hx hr hI hQ)
      · rename_i hb
        exact wp_cond_false (eval_sound hI hc hb) (ihy vy _ s s' a w e hy hr hI hQ)
      · simp at hr
    · simp only [Option.some.injEq] at ht; subst ht; rw [run_dead] at hr; cases hr
  | block id x ih =>
    intro vc Q s s' a w e ht hr hI hQ
    simp only [trC] at ht
    split at ht
    · rename_i vx hx
      simp only [Option.some.injEq] at ht; subst ht
      simp only [run] at hr
      split at hr
      · rename_i i s1 h1
        split at hr
        · rename_i hi
          subst hi
          simp only [Option.some.injEq, Prod.mk.injEq] at hr
          obtain ⟨rfl, rfl⟩ := hr
          refine wp_block (ih vx _ s s1 a w _ hx h1 hI fun a1 w1 hI1 => ?_)
          simp only [exitOf, Exit.inBlock, if_true]
          exact hQ a1 w1 hI1
        · rename_i hi
          simp only [Option.some.injEq, Prod.mk.injEq] at hr
          obtain ⟨rfl, rfl⟩ := hr
          refine wp_block (ih vx _ s s1 a w _ hx h1 hI fun a1 w1 hI1 => ?_)
          simp only [exitOf, Exit.inBlock, if_neg hi]
          exact hQ a1 w1 hI1
      · rename_i hne
        refine wp_block (ih vx _ s s' a w e hx hr hI fun a1 w1 hI1 => ?_)
        have := hQ a1 w1 hI1
        cases e with
        | normal => exact this
        | exit i => exact absurd hr (hne i s')
        | ret => exact this
    · simp at ht
  | loop x ih =>
    intro vc Q s s' a w e ht hr hI hQ
    simp only [trC] at ht
    split at ht
    · rename_i vx hx
      simp only [Option.some.injEq] at ht; subst ht
      simp only [run] at hr
      have key : ∀ (k : Nat) (s : St) (a : Act) (w : World), loopN (run C m vx) k s = some (e, s') → StOK P G0 w0 n s a w → ∀ (b : Frame) (kk : List Item) (cs : List Frame),
          ∃ e a' w', Q e a' w' ∧ Arrives P (lone (b.at a (.code x :: .inLoop x :: kk)) cs w) b kk cs e a' w' := by
        intro k
        induction k with
        | zero => intro s a w h; simp [loopN] at h
        | succ k ihk =>
          intro s a w h hI b kk cs
          simp only [loopN] at h
          split at h
          · rename_i s1 h1
            obtain ⟨e1, a1, w1, hq, harr⟩ := ih vx (fun e a' w' => e = .normal ∧ StOK P G0 w0 n s1 a' w') s s1 a w .normal hx h1 hI (fun a1 w1 hI1 => ⟨rfl, hI1⟩) b (.inLoop x :: kk) cs
            obtain ⟨rfl, hI1⟩ := hq
            obtain ⟨e2, a2, w2, hq2, harr2⟩ := ihk s1 a1 w1 h hI1 b kk cs
            exact ⟨e2, a2, w2, hq2, .of_steps (Steps.trans harr (.one step_inLoop)) harr2⟩
          · rename_i hne
            obtain ⟨e1, a1, w1, hq, harr⟩ := ih vx (fun e' a' w' => e' = exitOf e ∧ Q e' a' w') s s' a w e hx h hI (fun a1 w1 hI1 => ⟨rfl, hQ a1 w1 hI1⟩) b (.inLoop x :: kk) cs
            obtain ⟨rfl, hq⟩ := hq
            refine ⟨_, a1, w1, hq, ?_⟩
            cases e with
            | normal => exact absurd h (hne s')
            | exit id => exact .pass (x := .inLoop x) rfl (fun _ _ => .inl (by simp [exitOf])) harr
            | ret => exact .pass (x := .inLoop x) rfl (fun _ _ => .inl (by simp [exitOf])) harr
      intro b kk cs
      obtain ⟨e1, a1, w1, hq, harr⟩ := key m s a w hr hI b kk cs
      exact ⟨e1, a1, w1, hq, .of_steps (.one step_loop) harr⟩
    · simp at ht
  | exit id =>
    intro vc Q s s' a w e ht hr hI hQ
    simp [trC] at ht; subst ht
    simp only [run, Option.some.injEq, Prod.mk.injEq] at hr
    obtain ⟨rfl, rfl⟩ := hr
    exact wp_exit (hQ a w hI)
  | ret =>
    intro vc Q s s' a w e ht hr hI hQ
    simp [trC] at ht; subst ht
    simp only [run, Option.some.injEq, Prod.mk.injEq] at hr
    obtain ⟨rfl, rfl⟩ := hr
    exact wp_ret (hQ a w hI)
  | scope x ih =>
    intro vc Q s s' a w e ht hr hI hQ
    simp only [trC] at ht
    refine wp_scope_straight (ih vc _ s s' a w e ht hr hI fun a1 w1 hI1 => ?_)
    have := hQ a1 w1 hI1
    cases e <;> exact this
  | label l =>
    intro vc Q s s' a w e ht hr hI hQ
    simp [trC] at ht; subst ht
    simp only [run, Option.some.injEq, Prod.mk.injEq] at hr
    obtain ⟨rfl, rfl⟩ := hr
    exact wp_label (hQ a w hI)
  | _ =>
    intro vc Q s s' a w e ht hr
    simp [trC] at ht; subst ht
    rw [run_dead] at hr; cases hr

end
end Go.Vm
/- Functions. -/
namespace Go.Vm

def takesOf : Code → List Nat
  | .region _ ops _ => ops.toList.filterMap fun o => match o.op with
    | .call c => match c.callee, c.args.toList with
      | .builtin .append, .tmp t :: _ => some t
      | _, _ => none
    | _ => none
  | .seq x y => takesOf x ++ takesOf y
  | .cond _ x y => takesOf x ++ takesOf y
  | .block _ x => takesOf x
  | .loop x => takesOf x
  | .scope x => takesOf x
  | _ => []

def trRes (P : Program) (own : Bool) : List ResultVar → Option (List VRes)
  | [] => some []
  | .tmp t :: rest => match trRes P own rest with
    | some r => some ((if own then .tmpO t else .tmp t) :: r)
    | none => none
  | .cell a t :: rest => match aggOf P t, trRes P own rest with
    | some agg, some r => some (.cell a agg :: r)
    | _, _ => none

/-- Library functions that are not entered. -/
def xOf (P : Program) (f : FuncId) : Option VF := match P.funcs[f]? with
  | some fn => if fn.name = "strconv.FormatInt" then some { nparams := 2, results := [.tmp 0], body := .native 1 2 }
    else if fn.name = "strconv.ParseInt" then match P.typeNamed8 "*strconv.NumError" with
      | some T => some { nparams := 3, results := [.tmp 0, .tmp 1], body := .native (1000 + T) 3 }
      | none => none
    else none
  | none => none
/-- Their contracts. -/
def XOK (P : Program) : Prop := ∀ f vf, xOf P f = some vf → ∃ k, vf.body = .native k vf.nparams ∧ HasBody P f ∧
  ∀ (args : List AV) (outs : List AV) (v : AV), args.length = vf.nparams → natV k args = some outs → result (natSt outs []) vf.results = some v → notOwn v ∧
    ∀ (G : Gh) (w : World) (vs : Array Value), args.length = vs.size → (∀ t, RepT G w (args.getD t .undef) (vs.getD t undef)) → XW P w →
      Calls P f vs w fun e w' => ∃ u, e = .returned u ∧ RowKit.Below w.heap.size w w' ∧ ∀ G', Rep G' w' v u

def trF (P : Program) (heap eff : FuncId → List Nat) (ok : Array Oper → List VI → Option (List (Bool × VO × VO))) (f : FuncId) : Option VF :=
  match xOf P f with
  | some vf => some vf
  | none => match P.funcs[f]? with
  | some fn => match fn.body with
    | some c =>
      if fn.params.size + fn.nfree ≤ fn.ntmps ∧ (fn.name == "runtime.NumGoroutine") = false then
        match trC P (fun d => (heap f).contains d) (fun d => (takesOf c).contains d || (heap f).contains (d + 600000)) (fun d => (eff f).contains d) fn.ntmps ok c, trRes P ((heap f).contains 800000) fn.results.toList with
        | some vc, some rs => some { nparams := fn.params.size + fn.nfree, results := rs, body := vc }
        | _, _ => none
      else none
    | none => none
  | none => none

def resSem (tmps : Array Value) : ResultVar → Sem Value
  | .tmp t => pure (tmps.getD t undef)
  | .cell x t => do loadVar t (← asAddr (tmps.getD x undef))

theorem results_eq (fn : Func) (tmps : Array Value) : results fn tmps = (fn.results.mapM (resSem tmps) >>= fun vs =>
    pure (if h : vs.size = 1 then vs[0] else .tuple vs)) := by
  unfold results
  congr 1

section
variable {P : Program} {C : CallF} {G0 : Gh} {w0 : World} {n : Nat} {s : St} {a : Act} {w : World} {G : Gh}

theorem resOf_sound (hI : Inv P G0 w0 G w s (fun t => a.tmps.getD t undef)) {r : ResultVar} {r' : VRes} {v : AV} {own : Bool} (ht : trRes P own [r] = some [r']) (hr : resOf s r' = some v) :
    ∃ u, (resSem a.tmps r).run P w = .ok u w ∧ Rep G w v u ∧ notOwn v := by
  cases r with
  | tmp t =>
    simp [trRes] at ht
    subst ht
    cases own
    · simp only [resOf, if_neg, Bool.false_eq_true, not_false_eq_true] at hr
      split at hr
      · rename_i hn
        simp only [Option.some.injEq] at hr; subst hr
        exact ⟨_, rfl, ((hI.tmp t).nl hn).view, notOwn_view _⟩
      · simp at hr
    · simp only [resOf, if_true] at hr
      split at hr
      · rename_i hn
        simp only [Option.some.injEq] at hr; subst hr
        exact ⟨_, rfl, ((hI.tmp t).nl hn).pass, notOwn_pass _⟩
      · simp at hr
  | cell x t =>
    simp only [trRes] at ht
    split at ht
    · rename_i agg r ha hr'
      simp only [Option.some.injEq] at ht hr'
      subst hr'
      simp only [List.cons.injEq, and_true] at ht
      subst ht
      simp only [resOf] at hr
      split at hr
      · rename_i ix off hv
        have hrep := hI.tmp x
        rw [show s.tmp x = _ from hv] at hrep
        obtain ⟨b, hb, e1⟩ := hrep.ptr_inv
        split at hr
        · rename_i cs hcs
          unfold objCells at hcs
          split at hcs
          · rename_i fz cs' hobj
            simp at hcs; subst hcs
            obtain ⟨b', hb', _, hat⟩ := hI.obj _ _ hobj
            rw [hb] at hb'
            simp only [Option.some.injEq] at hb'
            subst hb'
            have hcells : ∃ vals : Nat → Value, ∀ (j : Nat) (h : j < cs'.length), w.cell? ⟨b, j, none⟩ = some (vals j) ∧ Rep G w cs'[j] (vals j) := by
              cases fz
              · obtain ⟨_, arr, T, fr, h2, _, h3, h4⟩ := hat
                refine ⟨fun j => arr.getD j undef, fun j hj => ?_⟩
                have hj2 : j < arr.size := by omega
                have := (h4 j hj hj2).1
                exact ⟨by simp [World.cell?, h2, hj2], by simpa [hj2] using this⟩
              · obtain ⟨vals, h4⟩ := hat
                exact ⟨vals, fun j hj => (h4 j hj).2⟩
            obtain ⟨vals, c1⟩ := hcells
            obtain ⟨u, k1, k2, k3⟩ := load_cells (P := P) (G := G) (w := w) (b := b) (o := 0) vals ha hr (fun j hj => by rw [Nat.zero_add]; exact (c1 j hj).1) (fun j hj => (c1 j hj).2)
            rw [Nat.zero_add] at k1
            refine ⟨u, ?_, k2, k3⟩
            have e1' : a.tmps.getD x undef = .pointer (some ⟨b, off, none⟩) := e1
            simp only [resSem, Sem.run_bind, e1', asAddr, Sem.run_pure, Result.andThen_ok, k1]
          · simp at hcs
        · simp at hr
      · simp at hr
    · simp at ht

theorem trRes_cons {r : ResultVar} {rest : List ResultVar} {rs : List VRes} {own : Bool} (h : trRes P own (r :: rest) = some rs) : ∃ r' rs', trRes P own [r] = some [r'] ∧ trRes P own rest = some rs' ∧ rs = r' :: rs' := by
  cases r with
  | tmp t =>
    simp only [trRes] at h
    split at h
    · rename_i r hr
      simp only [Option.some.injEq] at h
      exact ⟨_, _, rfl, hr, h.symm⟩
    · simp at h
  | cell x t =>
    simp only [trRes] at h
    split at h
    · rename_i agg r ha hr
      simp only [Option.some.injEq] at h
      exact ⟨.cell x agg, _, by simp [trRes, ha], hr, h.symm⟩
    · simp at h

theorem resList_sound (hI : Inv P G0 w0 G w s (fun t => a.tmps.getD t undef)) {own : Bool} : ∀ (rs : List ResultVar) (rs' : List VRes) (vs : List AV), trRes P own rs = some rs' → resList s rs' = some vs →
    ∃ us : List Value, (rs.mapM (resSem a.tmps)).run P w = .ok us w ∧ RepL G w vs us ∧ ∀ v ∈ vs, notOwn v
  | [], rs', vs, ht, hr => by
    simp [trRes] at ht; subst ht
    simp [resList] at hr; subst hr
    exact ⟨[], by simp, ⟨rfl, fun i a v h => by simp at h⟩, by simp⟩
  | r :: rest, rs', vs, ht, hr => by
    obtain ⟨r', rs1, h1, h2, rfl⟩ := trRes_cons ht
    simp only [resList] at hr
    split at hr
    · rename_i v vs1 hv hvs
      simp only [Option.some.injEq] at hr; subst hr
      obtain ⟨u, k1, k2, k3⟩ := resOf_sound (P := P) hI h1 hv
      obtain ⟨us, j1, j2, j3⟩ := resList_sound hI rest rs1 vs1 h2 hvs
      refine ⟨u :: us, ?_, ⟨by simp [j2.1], fun i a v' ha hv' => ?_⟩, ?_⟩
      · simp only [List.mapM_cons, Sem.run_bind, k1, Result.andThen_ok, j1, Sem.run_pure]
      · cases i with
        | zero => simp at ha hv'; subst ha; subst hv'; exact k2
        | succ i => exact j2.2 i a v' (by simpa using ha) (by simpa using hv')
      · intro x hx
        rcases List.mem_cons.1 hx with rfl | hx
        · exact k3
        · exact j3 x hx
    · simp at hr

theorem result_sound (hI : Inv P G0 w0 G w s (fun t => a.tmps.getD t undef)) {fn : Func} {rs : List VRes} {v : AV} {own : Bool} (ht : trRes P own fn.results.toList = some rs) (hr : result s rs = some v) :
    ∃ u, (results fn a.tmps).run P w = .ok u w ∧ Rep G w v u ∧ notOwn v := by
  have hlist : ∀ vs, resList s rs = some vs → ∃ us : List Value, (fn.results.mapM (resSem a.tmps)).run P w = .ok us.toArray w ∧ RepL G w vs us ∧ ∀ v ∈ vs, notOwn v := by
    intro vs h
    obtain ⟨us, k1, k2, k3⟩ := resList_sound hI fn.results.toList rs vs ht h
    refine ⟨us, ?_, k2, k3⟩
    rw [Array.mapM_eq_mapM_toList]
    simp only [Sem.run_map, k1, Result.andThen_ok]
  unfold result at hr
  split at hr
  · rename_i v' hv
    simp only [Option.some.injEq] at hr; subst hr
    obtain ⟨us, k1, k2, k3⟩ := hlist _ hv
    have hl := k2.1
    match us, hl, k1, k2 with
    | [u], _, k1, k2 =>
      refine ⟨u, ?_, k2.2 0 _ _ rfl rfl, k3 _ (by simp)⟩
      rw [results_eq]
      simp only [Sem.run_bind]
      rw [k1]
      simp
  · rename_i vs hne hvs
    simp only [Option.some.injEq] at hr; subst hr
    obtain ⟨us, k1, k2, k3⟩ := hlist _ hvs
    have hl : us.length ≠ 1 := by
      intro e
      rw [← k2.1] at e
      match vs, e with
      | [v], _ => exact hne v rfl
    refine ⟨.tuple us.toArray, ?_, .tup vs us.toArray (by simpa using k2.1) (fun i h1 h2 => by
      have := k2.2 i _ _ (List.getElem?_eq_getElem h1) (List.getElem?_eq_getElem (by simpa using h2))
      simpa using this), trivial⟩
    rw [results_eq]
    simp only [Sem.run_bind]
    rw [k1]
    simp [hl]
  · simp at hr

/-- What a call leaves, whatever its slots hold. -/
theorem Inv.toPost0 {tv : Nat → Value} (hI : Inv P G0 w0 G w s tv) {v : AV} {u : Value} (hr : Rep G w v u) (hn : notOwn v) :
    ∃ G', Inv P G0 w0 G' w (resSt v s.mem) (fun _ => u) := by
  let G' : Gh := { G with lb := fun _ _ => none }
  have l : Le G w G' w := ⟨fun _ _ _ h h' => ⟨h, h'⟩, fun _ _ e => e, fun _ _ e => e⟩
  refine ⟨G', { os := hI.os, tape := hI.tape, output := hI.output, size := hI.size, tmp := fun t => ?_, own := fun t => ?_, obj := fun x o e => ?_, ext := hI.ext, le := hI.le.trans l, mlen := hI.mlen, llen := fun _ _ _ => rfl, glob := hI.glob }⟩
  · show RepT G' w (if t = 0 then v else .undef) u
    split
    · exact .of (hr.mono l)
    · exact .of (.undef _)
  · show OwnAt G' w _ (if t = 0 then v else .undef) u
    split
    · exact OwnAt.of_notOwn hn
    · exact OwnAt.of_notOwn trivial
  · cases x with
    | loc t k => simp [St.obj, resSt] at e
    | mem i =>
      obtain ⟨b, h1, h2, h3⟩ := hI.obj (.mem i) o e
      exact ⟨b, h1, h2, h3.keep l (Nat.le_refl _) (fun _ => ⟨rfl, rfl⟩) fun _ _ _ _ _ _ => ⟨rfl, fun k h1 h2 => ⟨h1, h2⟩⟩⟩

/-- What a call leaves. -/
theorem Inv.toPost (hI : Inv P G0 w0 G w s (fun t => a.tmps.getD t undef)) {v : AV} {u : Value} (hr : Rep G w v u) (hn : notOwn v) :
    ∃ G', Inv P G0 w0 G' w (resSt v s.mem) (fun _ => u) := by
  let G' : Gh := { G with lb := fun _ _ => none }
  have l : Le G w G' w := ⟨fun _ _ _ h h' => ⟨h, h'⟩, fun _ _ e => e, fun _ _ e => e⟩
  refine ⟨G', { os := hI.os, tape := hI.tape, output := hI.output, size := hI.size, tmp := fun t => ?_, own := fun t => ?_, obj := fun x o e => ?_, ext := hI.ext, le := hI.le.trans l, mlen := hI.mlen, llen := fun _ _ _ => rfl, glob := hI.glob }⟩
  · show RepT G' w (if t = 0 then v else .undef) u
    split
    · exact .of (hr.mono l)
    · exact .of (.undef _)
  · show OwnAt G' w _ (if t = 0 then v else .undef) u
    split
    · exact OwnAt.of_notOwn hn
    · exact OwnAt.of_notOwn trivial
  · cases x with
    | loc t k => simp [St.obj, resSt] at e
    | mem i =>
      obtain ⟨b, h1, h2, h3⟩ := hI.obj (.mem i) o e
      exact ⟨b, h1, h2, h3.keep l (Nat.le_refl _) (fun _ => ⟨rfl, rfl⟩) fun _ _ _ _ _ _ => ⟨rfl, fun k h1 h2 => ⟨h1, h2⟩⟩⟩

theorem result_mem (vs : List AV) (m : Mem) : ∀ rs : List VRes, (∀ r ∈ rs, ∃ t, r = .tmp t) → result (natSt vs m) rs = result (natSt vs []) rs := by
  intro rs h
  have : resList (natSt vs m) rs = resList (natSt vs []) rs := by
    induction rs with
    | nil => rfl
    | cons r rest ih =>
      obtain ⟨t, rfl⟩ := h r (by simp)
      simp only [resList]
      rw [ih fun r hr => h r (by simp [hr])]
      rfl
  unfold result
  rw [this]
theorem xOf_results {f : FuncId} {vf : VF} (h : xOf P f = some vf) : ∀ r ∈ vf.results, ∃ t, r = .tmp t := by
  unfold xOf at h
  split at h
  · split at h
    · simp only [Option.some.injEq] at h; subst h; simp
    · split at h
      · split at h
        · simp only [Option.some.injEq] at h; subst h; simp
        · simp at h
      · simp at h
  · simp at h
/-- What is behind a call that only adds blocks. -/
theorem Inv.below {tv : Nat → Value} {w' : World} (h : Inv P G0 w0 G w s tv) (hb : RowKit.Below w.heap.size w w') : Inv P G0 w0 G w' s tv :=
  h.grow { os := hb.os, tape := hb.tape, output := hb.output, size := hb.size, old := fun b h => ⟨hb.block b h, rfl⟩, mb := rfl, lb := rfl }
theorem native_ok (hx : XOK P) {f : FuncId} {vf : VF} (hxo : xOf P f = some vf) {k : Nat} {C : CallF} {args : List AV} {mem m' : Mem} {v : AV} (hlen : args.length = vf.nparams)
    {s : St} {e : VExit} (hrun : run C k vf.body (St.init args mem) = some (e, s)) (hres : result s vf.results = some v) (hm : m' = s.mem) :
    notOwn v ∧ HasBody P f ∧ ∀ (G : Gh) (w : World) (vs : Array Value), args.length = vs.size → Inv P G w G w (St.init args mem) (fun t => vs.getD t undef) → G.lb = (fun _ _ => none) → Calls P f vs w (Post P G w v m') := by
  obtain ⟨kk, hbody, hhb, hk⟩ := hx f vf hxo
  rw [hbody] at hrun
  simp only [run] at hrun
  have hargs : (List.range vf.nparams).map (St.init args mem).get = args := by
    rw [← hlen]
    apply List.ext_getElem (by simp)
    intro i h1 h2
    simp [St.get, St.init, List.getD, h2]
  rw [hargs] at hrun
  split at hrun
  · rename_i outs hnat
    simp only [Option.some.injEq, Prod.mk.injEq] at hrun
    obtain ⟨rfl, rfl⟩ := hrun
    rw [result_mem _ _ _ (xOf_results hxo)] at hres
    obtain ⟨hno, hc⟩ := hk args outs v hlen hnat hres
    refine ⟨hno, hhb, fun G w vs hl hpre hlb => ?_⟩
    have hxw := hpre.glob.xw
    refine (hc G w vs hl (fun t => hpre.tmp t) hxw).mono fun e' w' hp => ?_
    obtain ⟨u, rfl, hb, hr⟩ := hp
    have i1 := hpre.below hb
    obtain ⟨G2, i2⟩ := Inv.toPost0 i1 (hr G) hno
    subst hm
    exact ⟨u, G2, rfl, i2⟩
  · simp at hrun
theorem callN_ok (hX : XOK P) {heap eff : FuncId → List Nat} {ok : Array Oper → List VI → Option (List (Bool × VO × VO))} {T : FuncId → Option VF} (hT : ∀ f vf, T f = some vf → trF P heap eff ok f = some vf)
    (hF : ∀ m, FrameOK (callN T m)) (hD : ∀ C, CallOK P C → FrameOK C → ∀ n heap takes eff, DrawOK P C n heap takes eff ok) : ∀ m, CallOK P (callN T m)
  | 0 => by intro f args mem v m' h; simp [callN] at h
  | m + 1 => by
    have ih := callN_ok hX hT hF hD m
    intro f args mem v m' h
    simp only [callN] at h
    split at h
    · simp at h
    · rename_i vf hvf
      have htr := hT f vf hvf
      unfold trF at htr
      split at htr
      · rename_i vf' hxo
        simp only [Option.some.injEq] at htr
        subst htr
        split at h
        · rename_i hlen
          split at h
          · rename_i s hrun
            split at h
            · rename_i v' hres
              simp only [Option.some.injEq, Prod.mk.injEq] at h
              obtain ⟨rfl, rfl⟩ := h
              exact native_ok hX hxo hlen hrun hres rfl
            · simp at h
          · rename_i s hrun
            split at h
            · rename_i v' hres
              simp only [Option.some.injEq, Prod.mk.injEq] at h
              obtain ⟨rfl, rfl⟩ := h
              exact native_ok hX hxo hlen hrun hres rfl
            · simp at h
          · simp at h
        · simp at h
      split at htr
      · rename_i fn hfn
        split at htr
        · rename_i c hbody
          split at htr
          · rename_i hcond
            split at htr
            · rename_i vc rs hvc hrs
              simp only [Option.some.injEq] at htr
              subst htr
              split at h
              · rename_i hlen
                -- one exit for both ways
                have fin : ∀ (e : VExit) (s : St), run (callN T m) m vc (St.init args mem) = some (e, s) → (e = .normal ∨ e = .ret) → result s rs = some v → m' = s.mem →
                    notOwn v ∧ HasBody P f ∧ ∀ (G : Gh) (w : World) (vs : Array Value), args.length = vs.size → Inv P G w G w (St.init args mem) (fun t => vs.getD t undef) → G.lb = (fun _ _ => none) → Calls P f vs w (Post P G w v m') := by
                  intro e s hrun he hres hm
                  have hno : notOwn v := by
                    unfold result at hres
                    have hv : ∀ l vs, resList s l = some vs → ∀ v ∈ vs, notOwn v := by
                      intro l
                      induction l with
                      | nil => intro vs h; simp [resList] at h; subst h; simp
                      | cons r l ih =>
                        intro vs h
                        simp only [resList] at h
                        split at h
                        · rename_i v1 vs1 h1 h2
                          simp only [Option.some.injEq] at h; subst h
                          intro x hx
                          rcases List.mem_cons.1 hx with rfl | hx
                          · cases r with
                            | tmp t =>
                              simp only [resOf] at h1
                              split at h1
                              · simp only [Option.some.injEq] at h1; subst h1; exact notOwn_view _
                              · simp at h1
                            | tmpO t =>
                              simp only [resOf] at h1
                              split at h1
                              · simp only [Option.some.injEq] at h1; subst h1; exact notOwn_pass _
                              · simp at h1
                            | cell t agg =>
                              simp only [resOf] at h1
                              split at h1
                              · split at h1
                                · cases agg with
                                  | none =>
                                    simp only [part?] at h1
                                    split at h1
                                    · simp only [Option.some.injEq] at h1; subst h1; exact notOwn_view _
                                    · simp at h1
                                  | some sz =>
                                    simp only [part?] at h1
                                    split at h1
                                    · simp only [Option.some.injEq] at h1; subst h1; trivial
                                    · simp at h1
                                · simp at h1
                              · simp at h1
                          · exact ih _ h2 x hx
                        · simp at h
                    split at hres
                    · rename_i v' hv'
                      simp only [Option.some.injEq] at hres; subst hres
                      exact hv _ _ hv' _ (by simp)
                    · simp only [Option.some.injEq] at hres; subst hres; trivial
                    · simp at hres
                  refine ⟨hno, ⟨fn, c, hfn, hbody, hcond.2⟩, fun G w vs hl hpre hlb => ?_⟩
                  subst hm
                  have hvs : vs.size ≤ fn.ntmps := by rw [← hl, hlen]; exact hcond.1
                  have hget : (fun t => (vs ++ Array.replicate (fn.ntmps - vs.size) undef).getD t undef) = fun t => vs.getD t undef := by
                    funext t
                    simp only [Array.getD_eq_getD_getElem?, Array.getElem?_append]
                    split
                    · rfl
                    · rename_i hh
                      rw [Array.getElem?_eq_none (by omega : vs.size ≤ t)]
                      simp only [Array.getElem?_replicate]
                      split <;> rfl
                  have hst : StOK P G w fn.ntmps (St.init args mem) { tmps := vs ++ Array.replicate (fn.ntmps - vs.size) undef, defers := [] } w :=
                    ⟨rfl, by simp; omega, G, by rw [hget]; exact hpre⟩
                  refine calls_of_wp hfn hbody (run_sound ih (hF m) (hD _ ih (hF m) _ _ _ _) m c vc _ _ s _ w e hvc hrun hst fun a' w' hI => ?_)
                  obtain ⟨h0, hn, G1, hinv⟩ := hI
                  obtain ⟨u, k1, k2, k3⟩ := result_sound hinv hrs hres
                  obtain ⟨G2, hpost⟩ := hinv.toPost k2 k3
                  have : bodyPost P fn (Post P G w v s.mem) (exitOf e) a' w' := by
                    rcases he with rfl | rfl <;> exact ⟨h0, u, k1, u, G2, rfl, hpost⟩
                  exact this
                split at h
                · rename_i s hrun
                  split at h
                  · rename_i v' hres
                    simp only [Option.some.injEq, Prod.mk.injEq] at h
                    obtain ⟨rfl, rfl⟩ := h
                    exact fin _ _ hrun (.inl rfl) hres rfl
                  · simp at h
                · rename_i s hrun
                  split at h
                  · rename_i v' hres
                    simp only [Option.some.injEq, Prod.mk.injEq] at h
                    obtain ⟨rfl, rfl⟩ := h
                    exact fin _ _ hrun (.inr rfl) hres rfl
                  · simp at h
                · simp at h
              · simp at h
            · simp at htr
          · simp at htr
        · simp at htr
      · simp at htr

end
end Go.Vm
/- What an operation depends on, and what it leaves alone. -/
namespace Go.Vm

def tmpsO : VO → List Nat
  | .t n => [n]
  | .k _ => []
def tmpsOpt : Option VO → List Nat
  | some x => tmpsO x
  | none => []
def tmpsL (l : List VO) : List Nat := l.flatMap tmpsO

def opTmps : VOp → List Nat
  | .move x => tmpsO x
  | .take t => [t]
  | .assign x => tmpsO x
  | .pick c a b => tmpsO c ++ tmpsO a ++ tmpsO b
  | .alloc _ _ => []
  | .box _ x => tmpsO x
  | .build _ ps => tmpsL (ps.map fun p => p.2.2)
  | .buildSl _ _ _ ps => tmpsL (ps.map fun p => p.2)
  | .load _ a => tmpsO a
  | .loadTake a => tmpsO a
  | .loadO a => tmpsO a
  | .store _ a x => tmpsO a ++ tmpsO x
  | .nilck x => tmpsO x
  | .bin _ x y => tmpsO x ++ tmpsO y
  | .eqBool _ x y => tmpsO x ++ tmpsO y
  | .eqNil _ _ x => tmpsO x
  | .eqAgg _ _ x y => tmpsO x ++ tmpsO y
  | .un _ x => tmpsO x
  | .cint _ x => tmpsO x
  | .cstr x => tmpsO x
  | .bytesOf x => tmpsO x
  | .strOf x => tmpsO x
  | .mkfn _ cs => tmpsL cs
  | .mksl _ _ _ _ l c => tmpsO l ++ tmpsO c
  | .slStr x lo hi => tmpsO x ++ tmpsOpt lo ++ tmpsOpt hi
  | .slArr _ _ x lo hi => tmpsO x ++ tmpsOpt lo ++ tmpsOpt hi
  | .slSl _ x lo hi mx => tmpsO x ++ tmpsOpt lo ++ tmpsOpt hi ++ tmpsOpt mx
  | .faddr _ x => tmpsO x
  | .field _ _ x => tmpsO x
  | .iaddrSl _ x i => tmpsO x ++ tmpsO i
  | .iaddrArr _ _ x i => tmpsO x ++ tmpsO i
  | .idxArr _ _ _ x i => tmpsO x ++ tmpsO i
  | .idxStr x i => tmpsO x ++ tmpsO i
  | .ext x _ => tmpsO x
  | .lenSl x => tmpsO x
  | .lenStr x => tmpsO x
  | .append _ _ s x => tmpsO s ++ tmpsO x
  | .appStr _ s x => tmpsO s ++ tmpsO x
  | .strOfM x => tmpsO x
  | .bytesObj _ x => tmpsO x
  | .mkslObj _ _ _ _ l c => tmpsO l ++ tmpsO c
  | .slZ x => tmpsO x
  | .buildZ => []
  | .appendRow _ _ s x => tmpsO s ++ tmpsO x
  | .appendO _ _ s x => tmpsO s ++ tmpsO x
  | .minmax _ xs => tmpsL xs
  | .mkIface _ x => tmpsO x
  | .extn _ xs => tmpsL xs
  | .range x => tmpsO x
  | .next x => tmpsO x
  | .mkmap => []
  | .minsert _ m k v => tmpsO m ++ tmpsO k ++ tmpsO v
  | .mlook _ _ _ m k => tmpsO m ++ tmpsO k
  | .call f args => tmpsO f ++ tmpsL args
  | .callP f args => tmpsO f ++ tmpsL args
  | .callR f args => tmpsO f ++ tmpsL args
  | .callO f args => tmpsO f ++ tmpsL args
  | .unsf _ _ _ x y => tmpsO x ++ tmpsO y
  | .upure _ _ x y => tmpsO x ++ tmpsO y

section
variable {s s1 s2 : St} {t : Nat} {u : AV}

theorem set_comm (s : St) {a b : Nat} (x y : AV) (h : a ≠ b) : (s.set a x).set b y = (s.set b y).set a x := by
  simp only [St.set, St.mk.injEq, and_true]
  funext j
  by_cases h1 : j = b
  · subst h1; simp [Ne.symm h]
  · simp [h1]

theorem get_set_ne (s : St) {a b : Nat} (x : AV) (h : b ≠ a) : (s.set a x).get b = s.get b := by
  simp [St.get, St.set, h]
theorem get_set_same (s : St) (a : Nat) (x : AV) : (s.set a x).get a = x := by
  simp [St.get, St.set]
theorem set_get (s : St) (t : Nat) : s.set t (s.tmp t) = s := by
  cases s
  simp only [St.set, St.mk.injEq, and_true]
  funext j
  split
  · rename_i h; subst h; rfl
  · rfl

theorem ev_set {x : VO} (h : t ∉ tmpsO x) : (s.set t u).ev x = s.ev x := by
  cases x with
  | t n => simp [tmpsO] at h; exact get_set_ne s u (Ne.symm h)
  | k v => rfl
theorem optV_set {x : Option VO} {d : AV} (h : t ∉ tmpsOpt x) : optV (s.set t u).ev x d = optV s.ev x d := by
  cases x with
  | none => rfl
  | some x => exact ev_set h
theorem mapOpt_set {x : Option VO} (h : t ∉ tmpsOpt x) : x.map (s.set t u).ev = x.map s.ev := by
  cases x with
  | none => rfl
  | some x => exact congrArg some (ev_set h)
theorem mapL_set {l : List VO} (h : t ∉ tmpsL l) : l.map (s.set t u).ev = l.map s.ev := by
  apply List.map_congr_left
  intro x hx
  exact ev_set fun hh => h (List.mem_flatMap.2 ⟨x, hx, hh⟩)

/-- A pure operation asks its operands alone. -/
theorem pval_congr {ev ev' : VO → AV} {op : VOp} (h : ∀ x : VO, (∀ n ∈ tmpsO x, n ∈ opTmps op) → ev x = ev' x) : pval ev op = pval ev' op := by
  have hL : ∀ l : List VO, (∀ x ∈ l, ∀ n ∈ tmpsO x, n ∈ opTmps op) → l.map ev = l.map ev' := fun l hl => List.map_congr_left fun x hx => h x (hl x hx)
  have hO : ∀ (x : Option VO) (d : AV), (∀ n ∈ tmpsOpt x, n ∈ opTmps op) → optV ev x d = optV ev' x d := by
    intro x d hx
    cases x with
    | none => rfl
    | some x => exact h x hx
  cases op with
  | build z ps =>
    have e : (ps.map fun p => (p.1, p.2.1, ev p.2.2)) = (ps.map fun p => (p.1, p.2.1, ev' p.2.2)) := List.map_congr_left fun p hp => by
      rw [h p.2.2 fun n hn => List.mem_flatMap.2 ⟨p.2.2, List.mem_map.2 ⟨p, hp, rfl⟩, hn⟩]
    have e2 : (ps.all fun p => (ev p.2.2).good) = (ps.all fun p => (ev' p.2.2).good) := by
      rw [Bool.eq_iff_iff]
      simp only [List.all_eq_true]
      constructor <;> intro hh p hp
      · rw [← h p.2.2 fun n hn => List.mem_flatMap.2 ⟨p.2.2, List.mem_map.2 ⟨p, hp, rfl⟩, hn⟩]; exact hh p hp
      · rw [h p.2.2 fun n hn => List.mem_flatMap.2 ⟨p.2.2, List.mem_map.2 ⟨p, hp, rfl⟩, hn⟩]; exact hh p hp
    simp only [pval, e, e2]
  | buildSl ez z n ps =>
    have e : (ps.map fun p => (p.1, ev p.2)) = (ps.map fun p => (p.1, ev' p.2)) := List.map_congr_left fun p hp => by
      rw [h p.2 fun n hn => List.mem_flatMap.2 ⟨p.2, List.mem_map.2 ⟨p, hp, rfl⟩, hn⟩]
    have e2 : (ps.all fun p => (ev p.2).good) = (ps.all fun p => (ev' p.2).good) := by
      rw [Bool.eq_iff_iff]
      simp only [List.all_eq_true]
      constructor <;> intro hh p hp
      · rw [← h p.2 fun n hn => List.mem_flatMap.2 ⟨p.2, List.mem_map.2 ⟨p, hp, rfl⟩, hn⟩]; exact hh p hp
      · rw [h p.2 fun n hn => List.mem_flatMap.2 ⟨p.2, List.mem_map.2 ⟨p, hp, rfl⟩, hn⟩]; exact hh p hp
    simp only [pval, e, e2]
  | minmax m xs =>
    simp only [pval, hL xs fun x hx n hn => List.mem_flatMap.2 ⟨x, hx, hn⟩]
  | extn k xs =>
    simp only [pval, hL xs fun x hx n hn => List.mem_flatMap.2 ⟨x, hx, hn⟩]
  | slArr n z x lo hi =>
    simp only [pval]
    rw [h x (fun n hn => by simp [opTmps, hn]), hO lo _ (fun n hn => by simp [opTmps, hn]), hO hi _ (fun n hn => by simp [opTmps, hn])]
  | slStr x lo hi =>
    simp only [pval]
    rw [h x (fun n hn => by simp [opTmps, hn]), hO lo _ (fun n hn => by simp [opTmps, hn])]
    split
    · rw [hO hi _ (fun n hn => by simp [opTmps, hn])]
    · rfl
  | mksl hp a b z l c =>
    cases hp
    · simp only [pval]
      rw [h l (fun n hn => by simp [opTmps, hn]), h c (fun n hn => by simp [opTmps, hn])]
    · rfl
  | move x => simp only [pval, h x (fun n hn => by simp [opTmps, hn])]
  | nilck x => simp only [pval, h x (fun n hn => by simp [opTmps, hn])]
  | eqNil k b x => simp only [pval, h x (fun n hn => by simp [opTmps, hn])]
  | un o x => simp only [pval, h x (fun n hn => by simp [opTmps, hn])]
  | cint k x => simp only [pval, h x (fun n hn => by simp [opTmps, hn])]
  | cstr x => simp only [pval, h x (fun n hn => by simp [opTmps, hn])]
  | bytesOf x => simp only [pval, h x (fun n hn => by simp [opTmps, hn])]
  | strOf x => simp only [pval, h x (fun n hn => by simp [opTmps, hn])]
  | faddr n x => simp only [pval, h x (fun n hn => by simp [opTmps, hn])]
  | field a b x => simp only [pval, h x (fun n hn => by simp [opTmps, hn])]
  | ext x i => simp only [pval, h x (fun n hn => by simp [opTmps, hn])]
  | lenSl x => simp only [pval, h x (fun n hn => by simp [opTmps, hn])]
  | lenStr x => simp only [pval, h x (fun n hn => by simp [opTmps, hn])]
  | mkIface a x => simp only [pval, h x (fun n hn => by simp [opTmps, hn])]
  | bin o x y => simp only [pval, h x (fun n hn => by simp [opTmps, hn]), h y (fun n hn => by simp [opTmps, hn])]
  | eqBool b x y => simp only [pval, h x (fun n hn => by simp [opTmps, hn]), h y (fun n hn => by simp [opTmps, hn])]
  | eqAgg b l x y => simp only [pval, h x (fun n hn => by simp [opTmps, hn]), h y (fun n hn => by simp [opTmps, hn])]
  | iaddrSl a x y => simp only [pval, h x (fun n hn => by simp [opTmps, hn]), h y (fun n hn => by simp [opTmps, hn])]
  | iaddrArr a b x y => simp only [pval, h x (fun n hn => by simp [opTmps, hn]), h y (fun n hn => by simp [opTmps, hn])]
  | idxArr a b c x y => simp only [pval, h x (fun n hn => by simp [opTmps, hn]), h y (fun n hn => by simp [opTmps, hn])]
  | idxStr x y => simp only [pval, h x (fun n hn => by simp [opTmps, hn]), h y (fun n hn => by simp [opTmps, hn])]
  | upure k n x y => simp only [pval, h x (fun n hn => by simp [opTmps, hn]), h y (fun n hn => by simp [opTmps, hn])]
  | pick x y z => simp only [pval, h x (fun n hn => by simp [opTmps, hn]), h y (fun n hn => by simp [opTmps, hn]), h z (fun n hn => by simp [opTmps, hn])]
  | _ => rfl

end
end Go.Vm
/- A slot that an operation does not name may be written before or behind it. -/
namespace Go.Vm

section
variable {s s1 s2 : St} {t : Nat} {u : AV}

theorem setObj_set (s : St) (x : Ix) (o : LObj) : (s.set t u).setObj x o = (s.setObj x o).set t u := by
  cases x <;> rfl
theorem setO_obj (s : St) (x : Ix) : (s.set t u).obj x = s.obj x := by
  cases x <;> rfl

theorem takeT_set {n : Nat} (h : t ≠ n) : (s.set t u).takeT n = ((s.takeT n).1, (s.takeT n).2.set t u) := by
  unfold St.takeT
  rw [get_set_ne s u (Ne.symm h)]
  split
  · simp only [Prod.mk.injEq, true_and]
    exact set_comm s _ _ h
  · rfl

theorem takeO_set {x : VO} (h : t ∉ tmpsO x) : (s.set t u).takeO x = ((s.takeO x).1, (s.takeO x).2.set t u) := by
  cases x with
  | t n => simp [tmpsO] at h; exact takeT_set h
  | k v => rfl

theorem capture_set : ∀ (as : List AV) (s : St), capture as (s.set t u) = (capture as s).map fun r => (r.1, r.2.set t u)
  | [], s => rfl
  | v :: rest, s => by
    simp only [capture]
    split
    · rw [setO_obj]
      split
      · rw [setObj_set, capture_set rest]
        cases capture rest _ with
        | none => rfl
        | some r => rfl
      · rfl
    · split
      · rw [capture_set rest]
        cases capture rest s with
        | none => rfl
        | some r => rfl
      · rfl

theorem exec_set {d : Nat} {op : VOp} (h : t ∉ opTmps op) : exec d op (s.set t u) = (exec d op s).map fun r => (r.1, r.2.set t u) := by
  by_cases hp : isPure op = true
  · rw [exec_pure hp, exec_pure hp, pval_congr (ev := (s.set t u).ev) (ev' := s.ev) fun x hx => ev_set fun hh => h (hx _ hh)]
    cases pval s.ev op <;> rfl
  · cases op with
    | take n =>
      simp [opTmps] at h
      simp only [exec, takeT_set h]
      rfl
    | assign x =>
      simp only [exec, takeO_set (x := x) h]
      rfl
    | alloc hp cs => simp only [exec]; split <;> rfl
    | box hp x =>
      simp only [exec, ev_set (x := x) h]
      split
      · split <;> rfl
      · rfl
    | load agg a =>
      simp only [exec, ev_set (x := a) h]
      split
      · split <;> rfl
      · rw [setO_obj]
        split
        · split <;> rfl
        · rfl
      · rfl
    | loadO a =>
      simp only [exec, ev_set (x := a) h]
      split
      · rw [setO_obj]
        split
        · split <;> rfl
        · rfl
      · rfl
    | loadTake a =>
      simp only [exec, ev_set (x := a) h]
      split
      · rw [setO_obj]
        split
        · split
          · rw [setObj_set]; rfl
          · rfl
          · rfl
        · rfl
      · rfl
    | store sz a x =>
      simp [opTmps] at h
      simp only [exec, ev_set (x := a) h.1, takeO_set (x := x) h.2]
      split
      · rw [setO_obj]
        split
        · split
          · split <;> (rw [setObj_set]; rfl)
          · rfl
        · rfl
      · rfl
    | mkfn f cs =>
      simp only [exec, mapL_set (l := cs) h, capture_set]
      cases capture (cs.map s.ev) s <;> rfl
    | slSl z x lo hi mx =>
      simp [opTmps] at h
      obtain ⟨h1, h2, h3, h4⟩ := h
      simp only [exec, ev_set (x := x) h1]
      split
      · rw [optV_set h2, optV_set h3, mapOpt_set h4]
        split <;> rfl
      · rw [optV_set h2, optV_set h3]
        split
        · split <;> rfl
        · rfl
      · rw [optV_set h2, optV_set h3]
        split
        · split <;> rfl
        · rfl
      · rw [optV_set h2, optV_set h3]
        split
        · split <;> rfl
        · rfl
      · rfl
    | append z b a x =>
      simp [opTmps] at h
      simp only [exec, ev_set (x := x) h.2, takeO_set (x := a) h.1]
      split
      · split
        · split <;> rfl
        · split <;> rfl
        · rfl
      · rfl
    | appStr b a x =>
      simp [opTmps] at h
      simp only [exec, ev_set (x := a) h.1, ev_set (x := x) h.2]
      split
      · rename_i bs _
        show (match appS b s.mem (s.ev a) bs with | some (v, m) => _ | none => none) = _
        cases appS b s.mem (s.ev a) bs <;> rfl
      · rfl
    | unsf k T n x y =>
      simp [opTmps] at h
      simp only [exec, ev_set (x := x) h.1, ev_set (x := y) h.2]
      show (match unsfV k T n s.mem (s.ev x) (s.ev y) with | some (v, m) => _ | none => none) = _
      cases unsfV k T n s.mem (s.ev x) (s.ev y) <;> rfl
    | strOfM x =>
      simp only [exec, ev_set (x := x) h]
      split
      · rw [setO_obj]
        split
        · split
          · split <;> rfl
          · rfl
        · rfl
      · split <;> rfl
      · rfl
    | bytesObj hq x =>
      simp only [exec, ev_set (x := x) h]
      split
      · cases hq <;> rfl
      · rfl
    | range x =>
      simp only [exec, ev_set (x := x) h]
      split <;> rfl
    | next x =>
      simp only [exec, ev_set (x := x) h]
      split
      · rw [setO_obj]
        split
        · split
          · split
            · rw [setObj_set]; rfl
            · rfl
          · rfl
        · rfl
      · rfl
    | mkslObj hq z b za l c =>
      simp [opTmps] at h
      simp only [exec, ev_set (x := l) h.1, ev_set (x := c) h.2]
      split
      · split
        · cases hq <;> rfl
        · rfl
      · rfl
    | slZ x =>
      simp only [exec, ev_set (x := x) h]
      split <;> rfl
    | appendRow z b a x =>
      simp [opTmps] at h
      simp only [exec, ev_set (x := a) h.1, ev_set (x := x) h.2]
      split
      · split
        · rfl
        · split <;> rfl
      · rfl
    | appendO z b a x =>
      simp [opTmps] at h
      simp only [exec, ev_set (x := a) h.1, ev_set (x := x) h.2]
      split
      · show (match appO z b s.mem (s.ev a) _ with | some (v, m) => _ | none => none) = _
        cases appO z b s.mem (s.ev a) _ <;> rfl
      · rfl
    | mkmap => rfl
    | minsert kd m k v =>
      simp [opTmps] at h
      simp only [exec, ev_set (x := m) h.1, ev_set (x := k) h.2.1, ev_set (x := v) h.2.2]
      split
      · rename_i i hv
        rw [show (s.set t u).obj (.mem i) = s.obj (.mem i) from rfl]
        split
        · split
          · split <;> rfl
          · rfl
        · rfl
      · rfl
    | mlook kd z both m k =>
      simp [opTmps] at h
      simp only [exec, ev_set (x := m) h.1, ev_set (x := k) h.2]
      split
      · rfl
      · rename_i i hv
        rw [show (s.set t u).obj (.mem i) = s.obj (.mem i) from rfl]
        split
        · split <;> rfl
        · rfl
      · rfl
    | call f args => rfl
    | callR f args => rfl
    | callO f args => rfl
    | callP f args => simp [isPure] at hp
    | _ => simp [isPure] at hp

/-- All slots that an operation names. -/
def slots (i : VI) : List Nat := (match i.guard with | some (j, _) => [j] | none => []) ++ i.dst.toList ++ opTmps i.op

theorem put_set {d : Option Nat} {v : AV} (h : t ∉ d.toList) : (s.set t u).put d v = (s.put d v).set t u := by
  cases d with
  | none => rfl
  | some d => simp at h; exact set_comm s _ _ h

theorem step_exec {C : CallF} {i : VI} (h : NoCall i.op) (s : St) : step C i s = match exec (i.dst.getD 0) i.op s with
    | some (v, s') => some (s'.put i.dst v)
    | none => none := by
  unfold step
  split
  · rename_i f args e; exact absurd e (h.c f args)
  · rename_i f args e; exact absurd e (h.p f args)
  · rename_i f args e; exact absurd e (h.r f args)
  · rename_i f args e; exact absurd e (h.o f args)
  · rfl

theorem step_set {C : CallF} {i : VI} (h : t ∉ slots i) : step C i (s.set t u) = (step C i s).map fun r => r.set t u := by
  have h2 : t ∉ i.dst.toList := fun hh => h (by simp only [slots, List.mem_append]; exact .inl (.inr hh))
  have h3 : t ∉ opTmps i.op := fun hh => h (by simp only [slots, List.mem_append]; exact .inr hh)
  by_cases hc : NoCall i.op
  · rw [step_exec hc, step_exec hc, exec_set h3]
    cases exec (i.dst.getD 0) i.op s with
    | none => rfl
    | some r => exact congrArg some (put_set h2)
  · have hargs : ∀ (f : VO) (args : List VO), t ∉ tmpsO f ++ tmpsL args → (s.set t u).ev f = s.ev f ∧ (args.all fun x => ((s.set t u).ev x).nl) = (args.all fun x => (s.ev x).nl) ∧
        (args.map fun x => ((s.set t u).ev x).view) = (args.map fun x => (s.ev x).view) ∧ (args.map fun x => ((s.set t u).ev x).pass) = (args.map fun x => (s.ev x).pass) := by
      intro f args hh
      simp only [List.mem_append, not_or] at hh
      have hx : ∀ x ∈ args, (s.set t u).ev x = s.ev x := fun x hx => ev_set fun h' => hh.2 (List.mem_flatMap.2 ⟨x, hx, h'⟩)
      refine ⟨ev_set hh.1, ?_, List.map_congr_left fun x hx' => by rw [hx x hx'], List.map_congr_left fun x hx' => by rw [hx x hx']⟩
      rw [Bool.eq_iff_iff]
      simp only [List.all_eq_true]
      constructor <;> intro k x hx'
      · rw [← hx x hx']; exact k x hx'
      · rw [hx x hx']; exact k x hx'
    unfold step
    cases hop : i.op with
    | call f args =>
      rw [hop] at h3
      obtain ⟨e1, e2, e3, e4⟩ := hargs f args h3
      simp only [e1, e2, e3]
      split
      · split
        · show (match C _ _ s.mem with | some (v, m) => _ | none => none) = _
          cases hC : C _ _ s.mem with
          | none => rfl
          | some r => exact congrArg some (put_set (s := { s with mem := r.2 }) h2)
        · rfl
      · rfl
    | callO f args =>
      rw [hop] at h3
      obtain ⟨e1, e2, e3, e4⟩ := hargs f args h3
      simp only [e1, e2, e4]
      split
      · split
        · show (match C _ _ s.mem with | some (v, m) => _ | none => none) = _
          cases hC : C _ _ s.mem with
          | none => rfl
          | some r => exact congrArg some (put_set (s := { s with mem := r.2 }) h2)
        · rfl
      · rfl
    | callP f args =>
      rw [hop] at h3
      obtain ⟨e1, e2, e3, e4⟩ := hargs f args h3
      simp only [e1, e2, e3]
      split
      · split
        · split
          · exact congrArg some (put_set h2)
          · rfl
        · rfl
      · rfl
    | callR f args =>
      rw [hop] at h3
      obtain ⟨e1, e2, e3, e4⟩ := hargs f args h3
      simp only [e1, e2, e3]
      split
      · split
        · show (match C _ _ s.mem with | some (v, m) => _ | none => none) = _
          cases hC : C _ _ s.mem with
          | none => rfl
          | some p =>
            simp only
            show (if eqMem p.2 s.mem then _ else none) = _
            split
            · exact congrArg some (put_set h2)
            · rfl
        · rfl
      · rfl
    | _ => exact absurd (noCall_of (by rw [hop]; rfl)) hc

theorem one_set {C : CallF} {i : VI} (h : t ∉ slots i) : one C i (s.set t u) = (one C i s).map fun r => r.set t u := by
  have h2 : t ∉ i.dst.toList := fun hh => h (by simp only [slots, List.mem_append]; exact .inl (.inr hh))
  unfold one
  cases hg : i.guard with
  | none => exact step_set h
  | some g =>
    obtain ⟨j, want⟩ := g
    have h1 : j ≠ t := by
      rintro rfl
      exact h (by simp [slots, hg])
    simp only [get_set_ne s u h1]
    split
    · split
      · exact step_set h
      · exact congrArg some (put_set h2)
    · rfl

/-- What an operation does not name stays. -/
theorem one_touch {C : CallF} {i : VI} {s s' : St} (h : one C i s = some s') {t : Nat} (ht : t ∉ slots i) : s'.tmp t = s.tmp t := by
  have := one_set (C := C) (i := i) (s := s) (u := s.tmp t) ht
  rw [set_get, h] at this
  simp only [Option.map_some, Option.some.injEq] at this
  rw [this]
  simp [St.set]

end
end Go.Vm
