/- A law that the small code answers with true, as its row says it. -/
import Derived.Test.YtdodnhbegabbpaaV29
import Derived.ChangeCalls
namespace Go.Vm
open Go.ChangeShapes Go.RowKit

/-- An argument of a known shape. -/
def ArgHas (agg : Bool) (ks : List CK) (a : AV) : Prop := ∃ cs, a = mkEl agg cs ∧ cs.length = ks.length ∧ ∀ (i : Nat) (k : CK) (c : AV), ks[i]? = some k → cs[i]? = some c → k.has c

def ArgsHave : List (Bool × List CK) → List AV → Prop
  | [], [] => True
  | p :: ps, a :: as => ArgHas p.1 p.2 a ∧ ArgsHave ps as
  | _, _ => False

def aggOk : List CK → Bool
  | [] => true
  | .slice ps false :: rest => (ps.length == 1) && aggOk rest
  | _ :: rest => aggOk rest

def shapesOf (P : Program) (ts : List TypeId) : List (Option (Bool × List CK)) := ts.map fun t => (kindsOf P 30 t).map fun ks => (isStruct P t, ks)

def CK.closed : CK → Bool
  | .slice ps false => ps.length == 1
  | _ => true

def shapeOk (p : Bool × List CK) : Bool := p.2.all CK.closed && (p.1 || p.2.length == 1)

theorem CK.notOwn {k : CK} {a : AV} (h : k.has a) : notOwn a := by
  cases k with
  | p k =>
    cases k with
    | int k => obtain ⟨_, rfl, _⟩ := h; trivial
    | bool => obtain ⟨_, rfl⟩ := h; trivial
    | str => obtain ⟨_, rfl, _⟩ := h; trivial
  | slice ps agg => obtain ⟨_, _, rfl, _⟩ := h; trivial

section
variable {H : Type} {enc : TypeId × Value → H} {P : Program} {w : World}

theorem spotless_cell {base : Nat} {t : TypeId} {v : Value} (h : Cell.okWide P w .any base t v) : spotless v := by
  rintro a len cap rfl
  cases hu : P.underlying t with
  | none => simp [Cell.okWide, Cell.ok, hu] at h
  | some d =>
    cases d <;> simp [Cell.okWide, Cell.ok, hu] at h
    exact h.2.2.2.1

theorem cells_of_scalar {t : TypeId} {base : Nat} {v : Value} (hns : isStruct P t = false) {m : Nat} {ks : List CK} (hk : kindsOf P m t = some ks) (hok : Value.okWide P w .any base t v) : v.cells = #[v] ∧ spotless v := by
  have hc : Cell.okWide P w .any base t v := by
    unfold Value.okWide at hok
    split at hok
    · rename_i fs hu
      simp [isStruct, hu] at hns
    · rename_i n e hu
      cases m with
      | zero => simp [kindsOf] at hk
      | succ m => simp [kindsOf, hu] at hk
    · exact hok
  refine ⟨?_, spotless_cell hc⟩
  cases v with
  | agg vs =>
    exfalso
    unfold Cell.okWide at hc
    split at hc <;> first | (rename_i h1 h2; cases h2; done) | skip
    unfold Cell.ok at hc
    split at hc <;> first | (rename_i h1 h2; cases h2; done) | exact hc
  | _ => rfl

theorem arg_rep {t : TypeId} {base m n : Nat} {ks : List CK} {v : Value} {x : DataW H × List MemPlace} {spare : Nat → Bool} {held : Bool} (hk : kindsOf P m t = some ks) (hsh : shapeOk (isStruct P t, ks) = true)
    (hok : Value.okWide P w .any base t v) (ht : DataW.trod enc P w 0 spare held n t v.cells.toList = some x) : ∃ a, ArgHas (isStruct P t) ks a ∧ Rep allExt w a v ∧ notOwn a := by
  have hall := trod_kinds m n t ks _ x hk ht
  simp only [shapeOk, Bool.and_eq_true] at hsh
  have hcl : ∀ k ∈ ks, ∀ ps, k = .slice ps false → ps.length = 1 := by
    rintro k hk' ps rfl
    have := List.all_eq_true.1 hsh.1 _ hk'
    simpa [CK.closed] using this
  cases hst : isStruct P t with
  | false =>
    rw [hst] at hsh
    obtain ⟨hcv, hsp⟩ := cells_of_scalar hst hk hok
    have hl1 : ks.length = 1 := by simpa using hsh.2
    rw [hcv] at hall
    obtain ⟨k, rfl⟩ := List.length_eq_one_iff.1 hl1
    obtain ⟨a, h1, h2⟩ := CK.rep (hall.2 0 k v rfl rfl) hsp (hcl k (by simp))
    refine ⟨a, ⟨[a], rfl, rfl, fun i k' c hk' hc => ?_⟩, h2, CK.notOwn h1⟩
    match i, hk', hc with
    | 0, hk', hc => simp at hk' hc; subst hk'; subst hc; exact h1
    | i + 1, hk', _ => simp at hk'
  | true =>
    unfold Value.okWide at hok
    split at hok
    · rename_i fs hu
      obtain ⟨cs, rfl, _, _, _, _, hrow⟩ := hok
      have hcc : (Value.agg cs).cells = cs := rfl
      rw [hcc] at hall
      have each : ∀ (i : Nat) (h : i < ks.length), ∃ a, (ks[i]).has a ∧ Rep allExt w a (cs.toList[i]'(by rw [hall.1]; exact h)) := by
        intro i h
        have hi : i < cs.toList.length := by rw [hall.1]; exact h
        have h1 := hall.2 i ks[i] cs.toList[i] (List.getElem?_eq_getElem h) (List.getElem?_eq_getElem hi)
        obtain ⟨u, _, hu2⟩ := hrow i cs.toList[i] (by
          have : i < cs.size := by simpa using hi
          simp [this])
        exact CK.rep h1 (spotless_cell hu2) (hcl _ (List.getElem_mem h))
      let f : Nat → AV := fun i => if h : i < ks.length then Classical.choose (each i h) else .undef
      have hf : ∀ i (h : i < ks.length), (ks[i]).has (f i) ∧ Rep allExt w (f i) (cs.toList[i]'(by rw [hall.1]; exact h)) := by
        intro i h
        simp only [f, h, dif_pos]
        exact Classical.choose_spec (each i h)
      refine ⟨.agg ((List.range ks.length).map f), ⟨(List.range ks.length).map f, rfl, by simp, fun i k c hk' hc => ?_⟩, .agg _ _ (by have := hall.1; simp at this ⊢; omega) fun i h1 h2 => ?_, trivial⟩
      · obtain ⟨hi, rfl⟩ := List.getElem?_eq_some_iff.1 hk'
        simp [hi] at hc
        subst hc
        exact (hf i hi).1
      · have hi : i < ks.length := by simpa using h1
        have := (hf i hi).2
        simpa using this
    · rename_i n' e hu
      simp [isStruct, hu] at hst
    · rename_i h1 h2
      unfold isStruct at hst
      split at hst
      · rename_i fs hu; exact absurd hu (h1 fs)
      · simp at hst

theorem args_rep : ∀ (ts : List TypeId) (vs : List Value) (ds : List (DataW H)) (p : List MemPlace) (pks : List (Bool × List CK)) (base : Nat),
    DataW.TrodAll enc P w 0 (fun _ => true) true ts vs ds p → shapesOf P ts = pks.map some → pks.all shapeOk = true → (∀ (j : Nat) t v, ts[j]? = some t → vs[j]? = some v → Value.okWide P w .any base t v) →
    ∃ as, ArgsHave pks as ∧ as.length = vs.length ∧ ∀ (i : Nat) (h1 : i < as.length) (h2 : i < vs.length), Rep allExt w as[i] vs[i] ∧ notOwn as[i]
  | [], vs, ds, p, pks, base, h, hs, _, _ => by
    obtain ⟨rfl, rfl, rfl⟩ := trodAll_nil h
    cases pks with
    | nil => exact ⟨[], trivial, rfl, fun i h1 => by simp at h1⟩
    | cons _ _ => simp [shapesOf] at hs
  | t :: ts, vs, ds, p, pks, base, h, hs, hok, hval => by
    obtain ⟨v, vs', d, ds', a, b, rfl, rfl, rfl, ⟨n, hx⟩, h2⟩ := trodAll_cons h
    cases pks with
    | nil => simp [shapesOf] at hs
    | cons q pks =>
      simp only [shapesOf, List.map_cons, List.cons.injEq, Option.map_eq_some_iff] at hs
      obtain ⟨⟨ks, hk, rfl⟩, hs2⟩ := hs
      simp only [List.all_cons, Bool.and_eq_true] at hok
      obtain ⟨x, hx1, hx2, hx3⟩ := arg_rep hk hok.1 (hval 0 t v rfl rfl) hx
      obtain ⟨as, k1, k2, k3⟩ := args_rep ts vs' ds' b pks base h2 hs2 hok.2 (fun j t' v' ht hv => hval (j + 1) t' v' (by simpa using ht) (by simpa using hv))
      refine ⟨x :: as, ⟨hx1, k1⟩, by simp [k2], fun i h1 h2 => ?_⟩
      cases i with
      | zero => exact ⟨hx2, hx3⟩
      | succ i => exact k3 i (by simpa using h1) (by simpa using h2)

theorem init_inv {as : List AV} {args : Array Value} (hl : as.length = args.toList.length) (h : ∀ (i : Nat) (h1 : i < as.length) (h2 : i < args.toList.length), Rep allExt w as[i] args.toList[i] ∧ notOwn as[i]) :
    Inv allExt w allExt w (St.init as []) (fun t => args.getD t undef) where
  os := rfl
  tape := rfl
  output := rfl
  size := Nat.le_refl _
  tmp t := by
    by_cases ht : t < as.length
    · have h2 : t < args.toList.length := by rw [← hl]; exact ht
      have := (h t ht h2).1
      have e1 : (St.init as []).tmp t = as[t] := by simp [St.init, ht]
      have e2 : args.getD t undef = args.toList[t] := by
        have h3 : t < args.size := by simpa using h2
        simp [h3]
      rw [e1, e2]
      exact .of this
    · have e1 : (St.init as []).tmp t = .undef := by simp [St.init, List.getD, List.getElem?_eq_none (Nat.le_of_not_lt ht)]
      rw [e1]; exact .of (.undef _)
  own t := by
    refine OwnAt.of_notOwn ?_
    by_cases ht : t < as.length
    · have h2 : t < args.toList.length := by rw [← hl]; exact ht
      have e1 : (St.init as []).tmp t = as[t] := by simp [St.init, ht]
      rw [e1]; exact (h t ht h2).2
    · have e1 : (St.init as []).tmp t = .undef := by simp [St.init, List.getD, List.getElem?_eq_none (Nat.le_of_not_lt ht)]
      rw [e1]; trivial
  obj x o e := by
    cases x with
    | loc t k => simp [St.obj, St.init] at e
    | mem i => simp [St.obj, St.init] at e
  ext b hb e := ⟨rfl, rfl⟩
  le := .refl _ _
  mlen i _ := rfl
  llen t k _ := rfl

theorem trodAll_stays {W W' : World} (hl : laidOutB P = true) (hb : Below W.heap.size W W') (sp : Nat → Bool) : ∀ (ts : List TypeId) (vs : List Value) (ds : List (DataW H)) (p : List MemPlace),
    (∀ t ∈ ts, P.readableRec t = true ∧ t < P.types.size) → DataW.TrodAll enc P W 0 (fun _ => true) true ts vs ds p → (∀ x ∈ p, x.block < W.heap.size) → (∀ x ∈ p, sp x.block = true) → DataW.TrodAll enc P W' 0 sp true ts vs ds p
  | [], vs, ds, p, _, h, _, _ => by
    obtain ⟨rfl, rfl, rfl⟩ := trodAll_nil h
    exact trodAll_mk0
  | t :: ts, vs, ds, p, hr, h, hlt, hsp => by
    obtain ⟨v, vs', d, ds', a, b, rfl, rfl, rfl, h1, h2⟩ := trodAll_cons h
    refine ⟨a, b, ?_, trodAll_stays hl hb sp ts vs' ds' b (fun t ht => hr t (by simp [ht])) h2 (fun x hx => hlt x (by simp [hx])) (fun x hx => hsp x (by simp [hx])), rfl⟩
    exact WideElems.Trod_stays hl (hr t (by simp)).1 (hr t (by simp)).2 h1 (fun x hx => hb.same (hlt x (by simp [hx]))) (fun x hx => hsp x (by simp [hx]))

/-- From a law of the small code to the row's contract. -/
theorem law_contract {fn : Func} {f : FuncId} {C : CallF} {s : ChangeSpec} {pks : List (Bool × List CK)} {bt : TypeId} (hl : laidOutB P = true) (hC : CallOK P C) (hvars : s.vars = [])
    (hres : fn.resultTypes = #[bt]) (hbt : P.underlying bt = some .bool)
    (hs : ∀ (H : Type) (ds : List (DataW H)), ds.length = pks.length → (s.fn H ds).results = [.lit (.bool true)] ∧ (s.fn H ds).args = ds ∧ (s.fn H ds).vars = [])
    (hkinds : shapesOf P fn.params.toList = pks.map some) (hok : pks.all shapeOk = true) (hread : ∀ t ∈ fn.params.toList, P.readableRec t = true ∧ t < P.types.size)
    {W : World} {base : Nat} {args : Array Value} {ds gs : List (DataW H)} {before : List MemPlace}
    (hlaw : ∀ as, ArgsHave pks as → ∃ m, C f as [] = some (.bool true, m))
    (hval : ∀ (j : Nat) t v, fn.params[j]? = some t → args[j]? = some v → Value.okWide P W .any base t v)
    (hW : DataW.Whole enc P fn.params.toList s.vars false W args.toList ds gs before) :
    Calls P f args W fun e W' => ∃ v, e = .returned v ∧ s.post enc P fn false true false false W args v W' := by
  have hW' := hW
  obtain ⟨p, q, hA, hV, rfl, hfz, hnd⟩ := hW
  rw [hvars] at hV
  obtain ⟨rfl, rfl⟩ := trodVars_none hV
  simp only [List.append_nil] at hW' hfz
  obtain ⟨as, h1, h2, h3⟩ := args_rep fn.params.toList args.toList ds p pks base hA hkinds hok (fun j t v ht hv => hval j t v (by simpa using ht) (by simpa using hv))
  obtain ⟨m, hm⟩ := hlaw as h1
  have hdl : ds.length = pks.length := by
    have := (trodAll_length hA).2
    rw [this, ← List.length_map (f := some) (as := pks), ← hkinds]
    simp [shapesOf]
  refine ((hC f as [] _ _ hm).2.2 allExt W args (by simpa using h2) (init_inv h2 h3) rfl).mono fun e W' hp => ?_
  obtain ⟨u, G', rfl, hinv⟩ := hp
  have hu : u = .bool true := (hinv.tmp 0).bool_inv
  subst hu
  have hb : Below W.heap.size W W' := ⟨hinv.os, hinv.tape, hinv.output, hinv.size, fun k hk => (hinv.ext k hk rfl).1⟩
  obtain ⟨r1, r2, r3⟩ := hs H ds hdl
  have hlt : ∀ x ∈ p, x.block < W.heap.size := fun x hx => by simpa using hW'.lt x hx
  refine ⟨_, rfl, ds, [], p, [], p, [], hW', ?_, ?_, ?_, World.keptBut_mono (fun x hx => hx.elim) (hb.frame fun _ => False), fun h => by cases h⟩
  · rw [List.append_nil, r1, hres]
    exact trodAll_mk1 (shut_bool hbt true)
  · rw [List.append_nil, r2]
    exact trodAll_stays hl hb _ _ _ _ _ hread hA hlt (fun x hx => by simpa using hlt x hx)
  · rw [List.append_nil, r3, hvars]
    rfl

end
end Go.Vm
