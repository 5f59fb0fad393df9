/- The pure operations, all together. -/
import Derived.Test.YtdodnhbegabbpaaV8
namespace Go.Vm

def trPureAll (P : Program) (o : Oper) : Option VOp :=
  match o.op with
  | .build t parts => match placeOf P t, zeroOf P t with
    | some place, some zv => match ofCells zv.cells.toList, partsAt place parts.toList with
      | some zcs, some aps => some (.build zcs aps)
      | _, _ => none
    | _, _ => none
  | .buildSlice t n parts => match P.underlying t with
    | some (.slice e) => match szOf P e, zeroOf P e, partsEls parts.toList with
      | some z, some zv, some aps => match AV.ofValue zv with
        | some za => if n * z ≤ 2 ^ 24 then some (.buildSl z za n aps) else none
        | none => none
      | _, _, _ => none
    | _ => none
  | .makeSlice t l c => match P.underlying t, trO l, trO c with
    | some (.slice e), some l, some c => match P.info? e with
      | some it => match it.zero with
        | some zv => match AV.ofValue zv with
          | some za => some (.mksl false it.size it.bytes za l c)
          | none => none
        | none => none
      | none => none
    | _, _, _ => none
  | _ => trPure P o

theorem ofValue_ne_undef {v : Value} {a : AV} (h : AV.ofValue v = some a) : a ≠ .undef := by
  rintro rfl
  unfold AV.ofValue at h
  split at h
  · split at h <;> simp at h
  · unfold AV.ofScalar at h
    split at h <;> simp at h

section
variable {P : Program} {ρ : Operand → Value} {G : Gh} {w : World} {ev : VO → AV} {d : Nat}

theorem trPure_sound {o : Oper} {vop : VOp} {r : AV} (h : trPure P o = some vop) (hp : pval ev vop = some r) (he : OkEv G w ev ρ) (hc : EvConst ρ) : Yields P ρ o G w d r := by
  unfold trPure at h
  split at h
  · rename_i x ho
    split at h
    · rename_i y hx
      simp only [Option.some.injEq] at h; subst h
      simp only [pval, Option.some.injEq] at hp; subst hp
      exact pure_move ho hx he
    · simp at h
  · rename_i c a b ho
    split at h
    · rename_i c' a' b' hc' ha' hb'
      simp only [Option.some.injEq] at h; subst h
      exact pure_pick ho hc' ha' hb' hp he
    · simp at h
  · rename_i x ho
    split at h
    · rename_i y hx
      simp only [Option.some.injEq] at h; subst h
      exact pure_nilck ho hx hp he
    · simp at h
  · rename_i op t x y yt ho
    exact pure_bin ho h hp he hc
  · rename_i op t x ho
    split at h
    · rename_i y hx
      simp only [Option.some.injEq] at h; subst h
      exact pure_un ho hx hp he
    · simp at h
  · rename_i src dst x ho
    split at h
    · rename_i k' k y hs hd hx
      simp only [Option.some.injEq] at h; subst h
      exact pure_cint ho hs hd hx hp he
    · rename_i y hs hd hx
      simp only [Option.some.injEq] at h; subst h
      exact pure_cstr ho hs hd hx hp he
    · rename_i e y hs hd hx
      split at h
      · rename_i hel
        simp only [Option.some.injEq] at h; subst h
        exact pure_bytesOf ho hs hd hel hx hp he
      · simp at h
    · simp at h
  · rename_i t x i ho
    split at h
    · rename_i fs y ht hx
      split at h
      · rename_i f hf
        split at h
        · rename_i n hn
          simp only [Option.some.injEq] at h; subst h
          exact pure_faddr ho ht hf hn hx hp he
        · simp at h
      · simp at h
    · simp at h
  · rename_i t x i ho
    split at h
    · rename_i fs y ht hx
      split at h
      · rename_i f hf
        split at h
        · rename_i ag ha
          simp only [Option.some.injEq] at h; subst h
          exact pure_field ho ht hf ha hx hp he
        · simp at h
      · simp at h
    · simp at h
  · rename_i t x i ho
    split at h
    · rename_i e y j ht hx hi
      split at h
      · rename_i n hn
        simp only [Option.some.injEq] at h; subst h
        exact pure_iaddrSl ho ht hn hx hi hp he
      · simp at h
    · rename_i len e y j ht hx hi
      split at h
      · rename_i n hn
        simp only [Option.some.injEq] at h; subst h
        exact pure_iaddrArr ho ht hn hx hi hp he
      · simp at h
    · simp at h
  · rename_i t x i ho
    split at h
    · rename_i y j ht hx hi
      simp only [Option.some.injEq] at h; subst h
      exact pure_idxStr ho ht hx hi hp he
    · rename_i len e y j ht hx hi
      split at h
      · rename_i n ag hn ha
        simp only [Option.some.injEq] at h; subst h
        exact pure_idxArr ho ht hn ha hx hi hp he
      · simp at h
    · simp at h
  · rename_i x i ho
    split at h
    · rename_i y hx
      simp only [Option.some.injEq] at h; subst h
      exact pure_ext ho hx hp he
    · simp at h
  · rename_i t x lo hi mx ho
    split at h
    · rename_i y lo' hi' ht hx hlo hhi
      split at h
      · rename_i hm
        simp only [Option.some.injEq] at h; subst h
        have : mx = none := by simpa using hm
        subst this
        exact pure_slStr ho ht hx hlo hhi hp he
      · simp at h
    · simp at h
  · rename_i args argTypes ho
    split at h
    · rename_i t y ht hxs
      have hts : argTypes = #[t] := by rw [← Array.toList_inj]; exact ht
      have hx : ∃ x, args = #[x] ∧ trO x = some y := by
        cases hl : args.toList with
        | nil => rw [hl] at hxs; simp [trList] at hxs
        | cons z zs =>
          rw [hl] at hxs
          simp only [trList] at hxs
          split at hxs
          · rename_i y' r hy hr
            simp only [Option.some.injEq, List.cons.injEq] at hxs
            obtain ⟨rfl, rfl⟩ := hxs
            cases zs with
            | nil => exact ⟨z, by rw [← Array.toList_inj]; exact hl, hy⟩
            | cons a b =>
              simp only [trList] at hr
              split at hr <;> simp at hr
          · simp at hxs
      obtain ⟨x, rfl, hx⟩ := hx
      split at h
      · rename_i hu
        simp only [Option.some.injEq] at h; subst h
        exact pure_lenStr ⟨_, ho, rfl, rfl, hts⟩ hu hx hp he
      · rename_i hu
        simp only [Option.some.injEq] at h; subst h
        exact pure_lenSl ⟨_, ho, rfl, rfl, hts⟩ hu hx hp he
      · simp at h
    · simp at h
  · rename_i args argTypes ho
    split at h
    · rename_i xs hxs
      simp only [Option.some.injEq] at h; subst h
      exact pure_minmax ⟨_, ho, rfl, hxs⟩ hp he
    · simp at h
  · rename_i args argTypes ho
    split at h
    · rename_i xs hxs
      simp only [Option.some.injEq] at h; subst h
      exact pure_minmax ⟨_, ho, rfl, hxs⟩ hp he
    · simp at h
  · rename_i t x ho
    split at h
    · rename_i hcn
      split at h
      · rename_i y hx
        simp only [Option.some.injEq] at h; subst h
        exact pure_mkIface ho hcn hx hp he
      · simp at h
    · simp at h
  · simp at h

theorem trPureAll_sound {o : Oper} {vop : VOp} {r : AV} (h : trPureAll P o = some vop) (hp : pval ev vop = some r) (he : OkEv G w ev ρ) (hc : EvConst ρ) : Yields P ρ o G w d r := by
  unfold trPureAll at h
  split at h
  · rename_i t parts ho
    split at h
    · rename_i place zv hpl hz
      split at h
      · rename_i zcs aps hzc ha
        simp only [Option.some.injEq] at h; subst h
        exact pure_build ho hpl hz hzc ha hp he
      · simp at h
    · simp at h
  · rename_i t n parts ho
    split at h
    · rename_i e ht
      split at h
      · rename_i z zv aps hs hz ha
        split at h
        · rename_i za hza
          split at h
          · rename_i hsm
            simp only [Option.some.injEq] at h; subst h
            exact pure_buildSl ho ht hs hz hza (ofValue_ne_undef hza) hsm ha hp he
          · simp at h
        · simp at h
      · simp at h
    · simp at h
  · rename_i t l c ho
    split at h
    · rename_i e l' c' ht hl hc'
      split at h
      · rename_i it hi
        split at h
        · rename_i zv hz
          split at h
          · rename_i za hza
            simp only [Option.some.injEq] at h; subst h
            exact pure_mksl ho ht hi rfl rfl hz hza (ofValue_ne_undef hza) hl hc' hp he
          · simp at h
        · simp at h
      · simp at h
    · simp at h
  · exact trPure_sound h hp he hc

end
end Go.Vm
