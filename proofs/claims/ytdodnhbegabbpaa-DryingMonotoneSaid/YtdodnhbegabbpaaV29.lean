/- What a law is handed, as abstract values. -/
import Derived.Test.YtdodnhbegabbpaaV28
import Derived.ProofKit
namespace Go.Vm

inductive PK where
  | int (k : IntKind)
  | bool
  | str

inductive CK where
  | p (k : PK)
  | slice (ks : List PK) (agg : Bool)

def PK.ok : PK → Value → Prop
  | .int k, v => ∃ n, v = .int k n ∧ k.min ≤ n ∧ n ≤ k.max
  | .bool, v => ∃ b, v = .bool b
  | .str, v => ∃ s : ByteArray, v = .string s ∧ s.size ≤ maxLen

def CK.ok (w : World) : CK → Value → Prop
  | .p k, v => k.ok v
  | .slice ps _, v => v = .slice none 0 0 ∨ ∃ a len cap, v = .slice (some a) len cap ∧ len ≤ cap ∧ cap ≤ maxLen ∧
      ∀ i, i < len → ∀ (j : Nat) (k : PK), ps[j]? = some k → ∃ u, w.cell? ((a.add (i * ps.length)).add j) = some u ∧ k.ok u

def allP : List CK → Option (List PK)
  | [] => some []
  | .p k :: rest => match allP rest with
    | some ps => some (k :: ps)
    | none => none
  | _ => none

def fieldKinds (kinds : TypeId → Option (List CK)) (P : Program) : Nat → List Field → Option (List CK)
  | _, [] => some []
  | pos, f :: fs =>
    if f.offset = pos then
      match kinds f.type with
      | some ks => if P.cellsOf f.type = ks.length then match fieldKinds kinds P (pos + ks.length) fs with
          | some r => some (ks ++ r)
          | none => none
        else none
      | none => none
    else none

def isStruct (P : Program) (t : TypeId) : Bool :=
  match P.underlying t with
  | some (.struct _) => true
  | _ => false

def kindsOf (P : Program) : Nat → TypeId → Option (List CK)
  | 0, _ => none
  | n + 1, t => match P.underlying t with
    | some (.int k) => some [.p (.int k)]
    | some .bool => some [.p .bool]
    | some .string => some [.p .str]
    | some (.slice e) => match kindsOf P n e with
      | some ks => match allP ks with
        | some ps => if P.cellsOf e = ps.length then some [.slice ps (isStruct P e)] else none
        | none => none
      | none => none
    | some (.struct fs) => match fieldKinds (kindsOf P n) P 0 fs.toList with
      | some ks => if P.cellsOf t = ks.length then some ks else none
      | none => none
    | _ => none

theorem allP_len : ∀ {ks : List CK} {ps : List PK}, allP ks = some ps → ks = ps.map .p
  | [], ps, h => by simp [allP] at h; subst h; rfl
  | .p k :: rest, ps, h => by
    simp only [allP] at h
    split at h
    · rename_i qs hq
      simp at h; subst h
      rw [allP_len hq]; rfl
    · simp at h
  | .slice _ _ :: _, ps, h => by simp [allP] at h

def AllOk (w : World) (ks : List CK) (cs : List Value) : Prop := cs.length = ks.length ∧ ∀ (i : Nat) (k : CK) (v : Value), ks[i]? = some k → cs[i]? = some v → k.ok w v

section
variable {H : Type} {enc : TypeId × Value → H} {P : Program} {w : World} {base : Nat} {spare : Nat → Bool} {held : Bool}

theorem AllOk.one {k : CK} {v : Value} (h : k.ok w v) : AllOk w [k] [v] := by
  refine ⟨rfl, fun i k' v' hk hv => ?_⟩
  match i, hk, hv with
  | 0, hk, hv =>
    simp at hk hv
    subst hk; subst hv; exact h
  | i + 1, hk, _ => simp at hk

theorem fields_ok {kinds : TypeId → Option (List CK)} {cs : List Value} (n : Nat)
    (ih : ∀ t ks cs (x : DataW H × List MemPlace), kinds t = some ks → DataW.trod enc P w base spare held n t cs = some x → AllOk w ks cs) :
    ∀ (fs : List Field) (pos : Nat) (ks : List CK), fieldKinds kinds P pos fs = some ks →
      (∀ (i : Nat) (f : Field), fs[i]? = some f → ∃ x, DataW.trod enc P w base spare held n f.type ((cs.drop f.offset).take (P.cellsOf f.type)) = some x) →
      cs.length = pos + ks.length → AllOk w ks (cs.drop pos)
  | [], pos, ks, h, _, hl => by
    simp [fieldKinds] at h
    subst h
    exact ⟨by simp at hl ⊢; omega, fun i k v hk => by simp at hk⟩
  | f :: fs, pos, ks, h, hf, hl => by
    simp only [fieldKinds] at h
    split at h
    · rename_i hpos
      split at h
      · rename_i k1 hk1
        split at h
        · rename_i hc
          split at h
          · rename_i r hr
            simp at h; subst h
            obtain ⟨x, hx⟩ := hf 0 f rfl
            have h1 := ih _ _ _ x hk1 hx
            rw [hpos, hc] at h1
            have h2 := fields_ok n ih fs (pos + k1.length) r hr (fun i g hg => hf (i + 1) g (by simpa using hg)) (by simp at hl; omega)
            refine ⟨by simp at hl ⊢; omega, fun i k v hk hv => ?_⟩
            by_cases hi : i < k1.length
            · rw [List.getElem?_append_left hi] at hk
              refine h1.2 i k v hk ?_
              rw [List.getElem?_take, if_pos hi]; exact hv
            · rw [List.getElem?_append_right (by omega)] at hk
              refine h2.2 (i - k1.length) k v hk ?_
              rw [List.getElem?_drop] at hv ⊢
              rw [← hv]; congr 1; omega
          · simp at h
        · simp at h
      · simp at h
    · simp at h

theorem trod_kinds : ∀ (m n : Nat) (t : TypeId) (ks : List CK) (cs : List Value) (x : DataW H × List MemPlace), kindsOf P m t = some ks → DataW.trod enc P w base spare held n t cs = some x → AllOk w ks cs
  | 0, n, t, ks, cs, x, h, _ => by simp [kindsOf] at h
  | m + 1, n, t, ks, cs, x, h, hx => by
    simp only [kindsOf] at h
    split at h
    · rename_i k hu
      simp at h; subst h
      obtain ⟨z, rfl, _, hw⟩ := DataW.trod_int hu hx
      simp only [Lit.wf, Bool.and_eq_true, decide_eq_true_eq] at hw
      exact .one ⟨z, rfl, hw.1, hw.2⟩
    · rename_i hu
      simp at h; subst h
      obtain ⟨b, rfl, _⟩ := DataW.trod_bool hu hx
      exact .one ⟨b, rfl⟩
    · rename_i hu
      simp at h; subst h
      obtain ⟨s, rfl, _, hs⟩ := DataW.trod_string hu hx
      exact .one ⟨s, rfl, hs⟩
    · rename_i e hu
      split at h
      · rename_i ks' hk
        split at h
        · rename_i ps hp
          split at h
          · rename_i hc
            simp at h; subst h
            have hmap := allP_len hp
            rcases DataW.trod_slice hu hx with ⟨rfl, _⟩ | ⟨a, len, cap, elems, rest, n', _, rfl, _, _, hlc, hcap, hel, hat, _⟩
            · exact .one (.inl rfl)
            · refine .one (.inr ⟨a, len, cap, rfl, hlc, hcap, fun i hi j k hj => ?_⟩)
              have h1 := hat i hi
              rw [List.getElem?_eq_getElem (by omega)] at h1
              simp only [Option.bind_eq_some_iff] at h1
              obtain ⟨ci, h2, h3⟩ := h1
              obtain ⟨_, hl, hcell⟩ := World.cells?_some h2
              have h4 := trod_kinds m n' e ks' ci _ hk h3
              have hjl : j < ps.length := (List.getElem?_eq_some_iff.1 hj).1
              have h5 := hcell j (by omega)
              rw [List.getElem?_eq_getElem (by omega)] at h5
              rw [hc] at h5
              refine ⟨_, h5, ?_⟩
              have := h4.2 j (.p k) ci[j] (by rw [hmap]; simp [hj]) (List.getElem?_eq_getElem _)
              exact this
          · simp at h
        · simp at h
      · simp at h
    · rename_i fs hu
      split at h
      · rename_i ks' hk
        split at h
        · rename_i hc
          simp at h; subst h
          obtain ⟨xs, n', _, _, hl, hxl, hf⟩ := DataW.trod_struct hu hx
          have := fields_ok (enc := enc) (w := w) (base := base) (spare := spare) (held := held) (cs := cs) n' (fun t ks cs x h1 h2 => trod_kinds m n' t ks cs x h1 h2) fs.toList 0 ks' hk (fun i f hif => by
            have h1 := hf i f (by simpa using hif)
            have : i < xs.length := by rw [hxl]; have := (List.getElem?_eq_some_iff.1 hif).1; simpa using this
            rw [List.getElem?_eq_getElem this] at h1
            exact ⟨_, h1⟩) (by omega)
          simpa using this
        · simp at h
      · simp at h
    · simp at h

/-! ### the abstract values -/

def PK.has : PK → AV → Prop
  | .int k, v => ∃ n, v = .int k n ∧ k.min ≤ n ∧ n ≤ k.max
  | .bool, v => ∃ b, v = .bool b
  | .str, v => ∃ s : List UInt8, v = .str s ∧ s.length ≤ maxLen

def mkEl (agg : Bool) (cs : List AV) : AV := if agg then .agg cs else cs.headD .undef

/-- The cells of an element. -/
def ElHas (ps : List PK) (cs : List AV) : Prop := cs.length = ps.length ∧ ∀ (i : Nat) (k : PK) (c : AV), ps[i]? = some k → cs[i]? = some c → k.has c

def CK.has : CK → AV → Prop
  | .p k, v => k.has v
  | .slice ps agg, v => ∃ nn xs, v = .vec none nn xs ∧ (nn = false → xs = []) ∧ xs.length ≤ maxLen ∧ ∀ x ∈ xs, ∃ cs, x = mkEl agg cs ∧ ElHas ps cs

def scal : Value → AV
  | .int k n => .int k n
  | .bool b => .bool b
  | .string s => .str s.data.toList
  | _ => .undef

theorem PK.scal_ok {k : PK} {v : Value} (h : k.ok v) (G : Gh) (w : World) : k.has (scal v) ∧ Rep G w (scal v) v := by
  cases k with
  | int k => obtain ⟨n, rfl, h1, h2⟩ := h; exact ⟨⟨n, rfl, h1, h2⟩, .int k n⟩
  | bool => obtain ⟨b, rfl⟩ := h; exact ⟨⟨b, rfl⟩, .bool b⟩
  | str => obtain ⟨s, rfl, h1⟩ := h; exact ⟨⟨_, rfl, by simpa using h1⟩, .str s⟩

def spotless (v : Value) : Prop := ∀ a len cap, v = .slice (some a) len cap → a.spot = none

def allExt : Gh := { role := fun _ => (.ext, none), mb := fun _ => none, lb := fun _ _ => none }

theorem flat_mk {c : Nat} (agg : Bool) (ha : agg = false → c = 1) (f : Nat → AV) (hs : ∀ p, (f p).cells = [f p]) : ∀ len : Nat,
    flat ((List.range len).map fun i => mkEl agg ((List.range c).map fun j => f (i * c + j))) = (List.range (len * c)).map f
  | 0 => by simp [flat]
  | len + 1 => by
    rw [List.range_succ, List.map_append, flat_append, flat_mk agg ha f hs len, Nat.succ_mul, List.range_add, List.map_append]
    congr 1
    simp only [List.map_cons, List.map_nil, flat, List.flatMap_cons, List.flatMap_nil, List.append_nil, List.map_map]
    cases agg with
    | true => simp [mkEl, AV.cells, Function.comp_def]
    | false =>
      have := ha rfl
      subst this
      simp [mkEl, hs, Function.comp_def]

theorem scal_cells (v : Value) : (scal v).cells = [scal v] := by cases v <;> rfl

theorem CK.rep {k : CK} {v : Value} (h : k.ok w v) (hs : spotless v) (hagg : ∀ ps, k = .slice ps false → ps.length = 1) : ∃ a, k.has a ∧ Rep allExt w a v := by
  cases k with
  | p k => exact ⟨scal v, (PK.scal_ok h allExt w).1, (PK.scal_ok h allExt w).2⟩
  | slice ps agg =>
    rcases h with rfl | ⟨a, len, cap, rfl, hlc, hcap, hel⟩
    · exact ⟨.vec none false [], ⟨false, [], rfl, fun _ => rfl, by simp, by simp⟩, .nilvec none⟩
    · have hspot := hs a len cap rfl
      obtain ⟨b, off, sp⟩ := a
      simp only at hspot
      subst hspot
      have hadd : ∀ i j : Nat, ((⟨b, off, none⟩ : Addr).add (i * ps.length)).add j = ⟨b, off + (i * ps.length + j), none⟩ := by
        intro i j; rw [add_off, add_off]; congr 1; omega
      let val : Nat → Value := fun p => (w.cell? ⟨b, off + p, none⟩).getD undef
      have hval : ∀ i, i < len → ∀ (j : Nat) (k : PK), ps[j]? = some k → w.cell? ⟨b, off + (i * ps.length + j), none⟩ = some (val (i * ps.length + j)) ∧ k.ok (val (i * ps.length + j)) := by
        intro i hi j k hj
        obtain ⟨u, h1, h2⟩ := hel i hi j k hj
        rw [hadd] at h1
        have : val (i * ps.length + j) = u := by simp [val, h1]
        rw [this]; exact ⟨h1, h2⟩
      let xs : List AV := (List.range len).map fun i => mkEl agg ((List.range ps.length).map fun j => scal (val (i * ps.length + j)))
      have hxl : xs.length = len := by simp [xs]
      have hfl : flat xs = (List.range (len * ps.length)).map fun p => scal (val p) :=
        flat_mk agg (fun e => hagg ps (by rw [e])) (fun p => scal (val p)) (fun p => scal_cells _) len
      have hsplit : ∀ p, p < len * ps.length → w.cell? ⟨b, off + p, none⟩ = some (val p) ∧ ∃ k : PK, k.ok (val p) := by
        intro p hp
        have hc0 : 0 < ps.length := Nat.pos_of_ne_zero (by intro e; rw [e] at hp; simp at hp)
        have hi : p / ps.length < len := Nat.div_lt_of_lt_mul (by rw [Nat.mul_comm]; exact hp)
        have hj : p % ps.length < ps.length := Nat.mod_lt _ hc0
        have he : p / ps.length * ps.length + p % ps.length = p := by rw [Nat.mul_comm]; exact Nat.div_add_mod p ps.length
        have := hval _ hi _ _ (List.getElem?_eq_getElem hj)
        rw [he] at this
        exact ⟨this.1, _, this.2⟩
      refine ⟨.vec none true xs, ⟨true, xs, rfl, by simp, by rw [hxl]; omega, fun x hx => ?_⟩, ?_⟩
      · obtain ⟨i, hi, rfl⟩ := List.mem_map.1 hx
        have hi : i < len := by simpa using hi
        refine ⟨_, rfl, by simp, fun j k c hk hc => ?_⟩
        simp only [List.getElem?_map, Option.map_eq_some_iff] at hc
        obtain ⟨j', hj', rfl⟩ := hc
        have : j' = j := by
          have hjl := (List.getElem?_eq_some_iff.1 hk).1
          rw [List.getElem?_range hjl] at hj'
          exact (Option.some.inj hj').symm
        subst this
        exact (PK.scal_ok (hval i hi j' k hk).2 allExt w).1
      · have := Rep.vec (G := allExt) (w := w) none xs b off cap ps.length val (by rw [hxl]; exact hlc)
          (fun x hx => by
            obtain ⟨i, _, rfl⟩ := List.mem_map.1 hx
            cases agg with
            | true => simp [mkEl, AV.cells]
            | false =>
              have h1 := hagg ps rfl
              simp [mkEl, h1, scal_cells])
          (fun j hj => by
            rw [hfl] at hj
            exact ⟨by simp [stable, allExt], (hsplit j (by simpa using hj)).1⟩)
          (fun j hj => by
            have hj2 : j < len * ps.length := by rw [hfl] at hj; simpa using hj
            have e : (flat xs)[j] = scal (val j) := by simp [hfl]
            rw [e]
            obtain ⟨k, hk⟩ := (hsplit j hj2).2
            exact (PK.scal_ok hk allExt w).2)
        rw [hxl] at this
        exact this

end
end Go.Vm
