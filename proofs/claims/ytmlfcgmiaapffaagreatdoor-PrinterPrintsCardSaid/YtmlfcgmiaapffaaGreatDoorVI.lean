/- A small machine and its soundness, part VI. -/
import Derived.Test.YtmlfcgmiaapffaaGreatDoorVE
import Derived.SizedLaws
import Derived.Test.YtmlfcgmiaapffaaGreatDoorVF
/- From a law of the small code to the row's contract, with the bound on the size of slices that are arguments. -/
namespace Go.Vm
open Go.ChangeShapes Go.RowKit
section
variable {H : Type} {enc : TypeId × Value → H} {P : Program} {w : World}

theorem len_bound {G : Gh} {w' : World} {base n : Nat} {spare : Nat → Bool} {held : Bool} {t e : TypeId} {o : Option Nat} {nn : Bool} {xs : List AV} {v : Value} {x : DataW H × List MemPlace} (hr : Rep G w' (.vec o nn xs) v)
    (hx : DataW.trod enc P w base spare held n t v.cells.toList = some x) (hu : P.underlying t = some (.slice e)) (hw : (x.1.weights P t).all (· ≤ reachBytes) = true) : xs.length * P.bytesOf e ≤ reachBytes := by
  cases hr with
  | nilvec _ => simp
  | evec _ a => simp
  | vec _ _ b off cap st vals hcap hst hc h =>
    rcases DataW.trod_slice hu hx with ⟨hcs, _⟩ | ⟨a, len, cap', elems, rest, n', _, hcs, hxe, _, _, _, hel, _⟩
    · have hcs' : [Value.slice (some ⟨b, off, none⟩) xs.length cap] = [.slice none 0 0] := hcs
      cases hcs'
    · have hcs' : [Value.slice (some ⟨b, off, none⟩) xs.length cap] = [.slice (some a) len cap'] := hcs
      have hlen : xs.length = len := by injection hcs' with h1 _; injection h1
      subst hxe
      simp only [DataW.weights, hu, List.all_cons, Bool.and_eq_true, decide_eq_true_eq, List.length_map] at hw
      refine Nat.le_trans (Nat.mul_le_mul_right _ ?_) hw.1
      omega

theorem weights_at : ∀ (ts : List TypeId) (ds : List (DataW H)), (DataW.weightsEach P ts ds).all (· ≤ reachBytes) = true → ∀ (j : Nat) t d, ts[j]? = some t → ds[j]? = some d → (d.weights P t).all (· ≤ reachBytes) = true
  | [], _, _, j, t, d, h, _ => by simp at h
  | _ :: _, [], _, j, t, d, _, h => by simp at h
  | t0 :: ts, d0 :: ds, hw, j, t, d, ht, hd => by
    simp only [DataW.weightsEach, List.all_append, Bool.and_eq_true] at hw
    cases j with
    | zero => simp at ht hd; subst ht; subst hd; exact hw.1
    | succ j => exact weights_at ts ds hw.2 j t d (by simpa using ht) (by simpa using hd)

theorem trodAll_at : ∀ (ts : List TypeId) (vs : List Value) (ds : List (DataW H)) (p : List MemPlace), DataW.TrodAll enc P w 0 (fun _ => true) true ts vs ds p → ∀ (j : Nat) t v, ts[j]? = some t → vs[j]? = some v → ∃ d n q, ds[j]? = some d ∧ DataW.trod enc P w 0 (fun _ => true) true n t v.cells.toList = some (d, q)
  | [], vs, ds, p, h, j, t, v, ht, _ => by simp at ht
  | t0 :: ts, vs, ds, p, h, j, t, v, ht, hv => by
    obtain ⟨v0, vs', d0, ds', a, b, rfl, rfl, rfl, ⟨n, hx⟩, h2⟩ := trodAll_cons h
    cases j with
    | zero =>
      simp at ht hv; subst ht; subst hv
      exact ⟨d0, n, a, rfl, hx⟩
    | succ j =>
      obtain ⟨d, n, q, h3, h4⟩ := trodAll_at ts vs' ds' b h2 j t v (by simpa using ht) (by simpa using hv)
      exact ⟨d, n, q, by simpa using h3, h4⟩

/-- Slices that are arguments are no larger than memory. -/
def Sized (P : Program) (fn : Func) (as : List AV) : Prop := ∀ (j : Nat) t e o nn xs, fn.params.toList[j]? = some t → P.underlying t = some (.slice e) → as[j]? = some (.vec o nn xs) → xs.length * P.bytesOf e ≤ reachBytes

theorem law_contract_sized {fn : Func} {f : FuncId} {C : CallF} {s : ChangeSpec} {pks : List (Bool × List CK)} {bt : TypeId} (hl : laidOutB P = true) (hC : CallOK P C) (hvars : s.vars = [])
    (hres : fn.resultTypes = #[bt]) (hbt : P.underlying bt = some .bool)
    (hs : ∀ (H : Type) (ds : List (DataW H)), ds.length = pks.length → (s.fn H ds).results = [.lit (.bool true)] ∧ (s.fn H ds).args = ds ∧ (s.fn H ds).vars = [])
    (hkinds : shapesOf P fn.params.toList = pks.map some) (hok : pks.all shapeOk = true) (hread : ∀ t ∈ fn.params.toList, P.readableRec t = true ∧ t < P.types.size)
    {W : World} {base : Nat} {args : Array Value} {ds gs : List (DataW H)} {before : List MemPlace}
    (hlaw : ∀ as, ArgsHave pks as → Sized P fn as → ∃ m, C f as [] = some (.bool true, m))
    (hval : ∀ (j : Nat) t v, fn.params[j]? = some t → args[j]? = some v → Value.okWide P W .any base t v)
    (hW : DataW.Whole enc P fn.params.toList s.vars false W args.toList ds gs before)
    (hwt : (DataW.weightsEach P (fn.params.toList ++ s.plain.varTypes P) (ds ++ gs)).all (· ≤ reachBytes) = true) (hgl : GlobOK P W) :
    Calls P f args W fun e W' => ∃ v, e = .returned v ∧ s.post enc P fn false true false false W args v W' := by
  have hW' := hW
  obtain ⟨p, q, hA, hV, rfl, hfz, hnd⟩ := hW
  rw [hvars] at hV
  obtain ⟨rfl, rfl⟩ := trodVars_none hV
  simp only [List.append_nil] at hW' hfz
  obtain ⟨as, h1, h2, h3⟩ := args_rep fn.params.toList args.toList ds p pks base hA hkinds hok (fun j t v ht hv => hval j t v (by simpa using ht) (by simpa using hv))
  have hsz : Sized P fn as := fun j t e o nn xs ht hu ha => by
    have hj : j < as.length := (List.getElem?_eq_some_iff.1 ha).1
    have hja : j < args.toList.length := by omega
    have hv : args.toList[j]? = some args.toList[j] := List.getElem?_eq_getElem hja
    obtain ⟨d, n, q, hd, hx⟩ := trodAll_at _ _ _ _ hA j t _ ht hv
    have hr := (h3 j hj hja).1
    have ha' : as[j] = .vec o nn xs := (List.getElem?_eq_some_iff.1 ha).2
    rw [ha'] at hr
    have hw := weights_at _ _ hwt j t d (by
      have : j < fn.params.toList.length := (List.getElem?_eq_some_iff.1 ht).1
      rw [List.getElem?_append_left this]; exact ht) (by
      have : j < ds.length := (List.getElem?_eq_some_iff.1 hd).1
      rw [List.getElem?_append_left this]; exact hd)
    exact len_bound hr hx hu hw
  obtain ⟨m, hm⟩ := hlaw as h1 hsz
  have hdl : ds.length = pks.length := by
    have := (trodAll_length hA).2
    rw [this, ← List.length_map (f := some) (as := pks), ← hkinds]
    simp [shapesOf]
  refine ((hC f as [] _ _ hm).2.2 allExt W args (by simpa using h2) (init_inv hgl h2 h3) rfl).mono fun e W' hp => ?_
  obtain ⟨u, G', rfl, hinv⟩ := hp
  have hu : u = .bool true := (hinv.tmp 0).bool_inv
  subst hu
  have hb : Below W.heap.size W W' := ⟨hinv.os, hinv.tape, hinv.output, hinv.size, fun k hk => (hinv.ext k hk rfl).1⟩
  obtain ⟨r1, r2, r3⟩ := hs H ds hdl
  have hlt : ∀ x ∈ p, x.block < W.heap.size := fun x hx => by simpa using hW'.lt x hx
  refine ⟨_, rfl, ds, [], p, [], p, [], hW', ?_, ?_, ?_, World.keptBut_mono (fun x hx => hx.elim) (hb.frame fun _ => False), fun h => by cases h⟩
  · rw [List.append_nil, r1, hres]
    exact trodAll_mk1 (shut_bool hbt true)
  · rw [List.append_nil, r2]
    exact trodAll_stays hl hb _ _ _ _ _ hread hA hlt (fun x hx => by simpa using hlt x hx)
  · rw [List.append_nil, r3, hvars]
    rfl
end
end Go.Vm
/- Arguments of a law as abstract values of known shape. -/
namespace Go.Vm
theorem callL_ok {P : Program} {T : FuncId → Option VF} (h : ∀ k, CallOK P (callN T k)) : CallOK P (callL T) := by
  intro f args m v m' hc
  obtain ⟨k, hk⟩ := callL_some hc
  exact h k f args m v m' hk
def inI (n : Int) : Prop := -9223372036854775808 ≤ n ∧ n ≤ 9223372036854775807
def inL (n : Nat) : Prop := (n : Int) ≤ 9223372036854775807
theorem inL_of {n : Nat} (h : n ≤ maxLen) : inL n := by
  have e : maxLen = 9223372036854775807 := by decide
  unfold inL; omega
theorem pk_int {v : AV} (h : PK.has (.int .i64) v) : ∃ n, v = .int .i64 n ∧ inI n := by
  obtain ⟨n, rfl, h1, h2⟩ := h
  refine ⟨n, rfl, ?_, ?_⟩
  · have e : IntKind.min .i64 = -9223372036854775808 := by decide
    omega
  · have e : IntKind.max .i64 = 9223372036854775807 := by decide
    omega
theorem pk_u8 {v : AV} (h : PK.has (.int .u8) v) : ∃ n : UInt8, v = .int .u8 n.toNat := by
  obtain ⟨n, rfl, h1, h2⟩ := h
  have e1 : IntKind.min .u8 = 0 := by decide
  have e2 : IntKind.max .u8 = 255 := by decide
  refine ⟨UInt8.ofNat n.toNat, ?_⟩
  have : (UInt8.ofNat n.toNat).toNat = n.toNat := by simp; omega
  rw [this]
  congr 1
  omega
theorem pk_str {v : AV} (h : PK.has .str v) : ∃ b : List UInt8, v = .str b ∧ inL b.length := by
  obtain ⟨b, rfl, h1⟩ := h
  exact ⟨b, rfl, inL_of h1⟩
theorem pk_bool {v : AV} (h : PK.has .bool v) : ∃ b : Bool, v = .bool b := h
theorem ck_int {v : AV} (h : CK.has (.p (.int .i64)) v) : ∃ n, v = .int .i64 n ∧ inI n := pk_int h
theorem ck_u8 {v : AV} (h : CK.has (.p (.int .u8)) v) : ∃ n : UInt8, v = .int .u8 n.toNat := pk_u8 h
theorem ck_str {v : AV} (h : CK.has (.p .str) v) : ∃ b : List UInt8, v = .str b ∧ inL b.length := pk_str h
theorem ck_bool {v : AV} (h : CK.has (.p .bool) v) : ∃ b : Bool, v = .bool b := h
theorem els_map {α : Type} (e : α → AV) (P : α → Prop) : ∀ (xs : List AV), (∀ x ∈ xs, ∃ z, x = e z ∧ P z) → ∃ zs : List α, xs = zs.map e ∧ ∀ z ∈ zs, P z
  | [], _ => ⟨[], rfl, by simp⟩
  | x :: r, h => by
    obtain ⟨zs, rfl, hz⟩ := els_map e P r fun y hy => h y (by simp [hy])
    obtain ⟨z, rfl, hp⟩ := h x (by simp)
    exact ⟨z :: zs, rfl, fun w hw => by
      rcases List.mem_cons.1 hw with rfl | h
      · exact hp
      · exact hz w h⟩
theorem ck_els {agg : Bool} {ks : List PK} {α : Type} (e : α → AV) (Q : α → Prop) {v : AV} (h : CK.has (.slice ks agg) v)
    (helem : ∀ cs, cs.length = ks.length → (∀ (i : Nat) (k : PK) (c : AV), ks[i]? = some k → cs[i]? = some c → k.has c) → ∃ z, mkEl agg cs = e z ∧ Q z) :
    ∃ nn zs, v = vv none nn e zs ∧ inL zs.length ∧ ∀ z ∈ zs, Q z := by
  obtain ⟨nn, xs, rfl, -, hlen, hx⟩ := h
  obtain ⟨zs, rfl, hz⟩ := els_map e Q xs fun x hxm => by
    obtain ⟨cs, rfl, hl, hc⟩ := hx x hxm
    exact helem cs hl hc
  exact ⟨nn, zs, rfl, by rw [List.length_map] at hlen; exact inL_of hlen, hz⟩
theorem ck_ints {v : AV} (h : CK.has (.slice [.int .i64] false) v) : ∃ nn zs, v = vv none nn (AV.int .i64) zs ∧ inL zs.length ∧ ∀ z ∈ zs, inI z :=
  ck_els (AV.int .i64) inI h fun cs hl hc => by
    match cs, hl with
    | [c], _ =>
      obtain ⟨n, rfl, hn⟩ := pk_int (hc 0 _ c rfl rfl)
      exact ⟨n, rfl, hn⟩
theorem ck_strs {v : AV} (h : CK.has (.slice [.str] false) v) : ∃ nn zs, v = vv none nn AV.str zs ∧ inL zs.length ∧ ∀ z ∈ zs, inL z.length :=
  ck_els AV.str (fun z => inL z.length) h fun cs hl hc => by
    match cs, hl with
    | [c], _ =>
      obtain ⟨n, rfl, hn⟩ := pk_str (hc 0 _ c rfl rfl)
      exact ⟨n, rfl, hn⟩
theorem arg_one {k : CK} {a : AV} (h : ArgHas false [k] a) : k.has a := by
  obtain ⟨cs, rfl, hl, hc⟩ := h
  match cs, hl with
  | [c], _ => exact hc 0 _ c rfl rfl
theorem args1 {p1 : Bool × List CK} {T : FuncId → Option VF} {f : FuncId} (h : ∀ a, ArgHas p1.1 p1.2 a → ∃ m, callL T f [a] [] = some (.bool true, m)) : ∀ as, ArgsHave [p1] as → ∃ m, callL T f as [] = some (.bool true, m)
  | [a], hh => h a hh.1
  | [], hh => hh.elim
  | _ :: _ :: _, hh => hh.2.elim
theorem args2 {p1 p2 : Bool × List CK} {T : FuncId → Option VF} {f : FuncId} (h : ∀ a b, ArgHas p1.1 p1.2 a → ArgHas p2.1 p2.2 b → ∃ m, callL T f [a, b] [] = some (.bool true, m)) : ∀ as, ArgsHave [p1, p2] as → ∃ m, callL T f as [] = some (.bool true, m)
  | [a, b], hh => h a b hh.1 hh.2.1
  | [], hh => hh.elim
  | [_], hh => hh.2.elim
  | _ :: _ :: _ :: _, hh => hh.2.2.elim
theorem args3 {p1 p2 p3 : Bool × List CK} {T : FuncId → Option VF} {f : FuncId} (h : ∀ a b c, ArgHas p1.1 p1.2 a → ArgHas p2.1 p2.2 b → ArgHas p3.1 p3.2 c → ∃ m, callL T f [a, b, c] [] = some (.bool true, m)) : ∀ as, ArgsHave [p1, p2, p3] as → ∃ m, callL T f as [] = some (.bool true, m)
  | [a, b, c], hh => h a b c hh.1 hh.2.1 hh.2.2.1
  | [], hh => hh.elim
  | [_], hh => hh.2.elim
  | [_, _], hh => hh.2.2.elim
  | _ :: _ :: _ :: _ :: _, hh => hh.2.2.2.elim
theorem args4 {p1 p2 p3 p4 : Bool × List CK} {T : FuncId → Option VF} {f : FuncId} (h : ∀ a b c d, ArgHas p1.1 p1.2 a → ArgHas p2.1 p2.2 b → ArgHas p3.1 p3.2 c → ArgHas p4.1 p4.2 d → ∃ m, callL T f [a, b, c, d] [] = some (.bool true, m)) : ∀ as, ArgsHave [p1, p2, p3, p4] as → ∃ m, callL T f as [] = some (.bool true, m)
  | [a, b, c, d], hh => h a b c d hh.1 hh.2.1 hh.2.2.1 hh.2.2.2.1
  | [], hh => hh.elim
  | [_], hh => hh.2.elim
  | [_, _], hh => hh.2.2.elim
  | [_, _, _], hh => hh.2.2.2.elim
  | _ :: _ :: _ :: _ :: _ :: _, hh => hh.2.2.2.2.elim
theorem args5 {p1 p2 p3 p4 p5 : Bool × List CK} {T : FuncId → Option VF} {f : FuncId} (h : ∀ a b c d e, ArgHas p1.1 p1.2 a → ArgHas p2.1 p2.2 b → ArgHas p3.1 p3.2 c → ArgHas p4.1 p4.2 d → ArgHas p5.1 p5.2 e → ∃ m, callL T f [a, b, c, d, e] [] = some (.bool true, m)) : ∀ as, ArgsHave [p1, p2, p3, p4, p5] as → ∃ m, callL T f as [] = some (.bool true, m)
  | [a, b, c, d, e], hh => h a b c d e hh.1 hh.2.1 hh.2.2.1 hh.2.2.2.1 hh.2.2.2.2.1
  | [], hh => hh.elim
  | [_], hh => hh.2.elim
  | [_, _], hh => hh.2.2.elim
  | [_, _, _], hh => hh.2.2.2.elim
  | [_, _, _, _], hh => hh.2.2.2.2.elim
  | _ :: _ :: _ :: _ :: _ :: _ :: _, hh => hh.2.2.2.2.2.elim
abbrev intS : Bool × List CK := (false, [.p (.int .i64)])
abbrev strS : Bool × List CK := (false, [.p .str])
abbrev strsS : Bool × List CK := (false, [.slice [.str] false])
end Go.Vm
/- Arguments of any depth: ints, truth values, strings, slices and structs of these. -/
namespace Go.Vm
open Go.ChangeShapes Go.RowKit

/-- The abstract cells of a value of a type. -/
def HasT (P : Program) : Nat → TypeId → List AV → Prop
  | 0, _, _ => False
  | n + 1, t, cs => match P.underlying t with
    | some (.int k) => ∃ i, cs = [.int k i] ∧ k.min ≤ i ∧ i ≤ k.max
    | some .bool => ∃ b, cs = [.bool b]
    | some .string => ∃ s : List UInt8, cs = [.str s] ∧ s.length ≤ maxLen
    | some (.slice e) => ∃ nn xs, cs = [.vec none nn xs] ∧ (nn = false → xs = []) ∧ xs.length ≤ maxLen ∧ ∀ x ∈ xs, ∃ es, x = mkEl (isStruct P e) es ∧ HasT P n e es
    | some (.struct fs) => ∃ css : List (List AV), cs = css.flatten ∧ css.length = fs.toList.length ∧ ∀ (i : Nat) (f : Field) (c : List AV), fs.toList[i]? = some f → css[i]? = some c → HasT P n f.type c
    | _ => False

def fieldsAt (P : Program) : Nat → List Field → Option Nat
  | pos, [] => some pos
  | pos, f :: fs => if f.offset = pos then fieldsAt P (pos + P.cellsOf f.type) fs else none

def okT (P : Program) (S : List TypeId) (t : TypeId) : Bool := match P.underlying t with
  | some (.int _) => P.cellsOf t == 1
  | some .bool => P.cellsOf t == 1
  | some .string => P.cellsOf t == 1
  | some (.slice e) => P.cellsOf t == 1 && S.contains e && decide (0 < P.cellsOf e)
  | some (.struct fs) => (fs.toList.all fun f => S.contains f.type) && (fieldsAt P 0 fs.toList == some (P.cellsOf t))
  | _ => false

section
variable {H : Type} {enc : TypeId × Value → H} {P : Program} {w : World} {S : List TypeId}

theorem HasT.plain {n : Nat} {t : TypeId} {cs : List AV} (h : HasT P n t cs) (hs : isStruct P t = false) : ∃ a, cs = [a] ∧ a.cells = [a] ∧ notOwn a := by
  cases n with
  | zero => exact h.elim
  | succ n =>
    simp only [HasT] at h
    split at h
    · obtain ⟨i, rfl, _⟩ := h; exact ⟨_, rfl, rfl, trivial⟩
    · obtain ⟨i, rfl⟩ := h; exact ⟨_, rfl, rfl, trivial⟩
    · obtain ⟨i, rfl, _⟩ := h; exact ⟨_, rfl, rfl, trivial⟩
    · obtain ⟨nn, xs, rfl, _⟩ := h; exact ⟨_, rfl, rfl, trivial⟩
    · rename_i fs hu
      simp [isStruct, hu] at hs
    · exact h.elim
theorem mkEl_cells {n : Nat} {t : TypeId} {cs : List AV} (h : HasT P n t cs) : (mkEl (isStruct P t) cs).cells = cs := by
  cases hs : isStruct P t with
  | true => rfl
  | false =>
    obtain ⟨a, rfl, h2, _⟩ := h.plain hs
    simpa [mkEl] using h2
theorem flat_rep {c : Nat} {val : Nat → Value} : ∀ (xs : List AV) (k : Nat), (∀ x ∈ xs, x.cells.length = c) → (∀ (i : Nat) (h : i < xs.length), RepL allExt w xs[i].cells ((List.range c).map fun j => val (k + i * c + j))) → RepL allExt w (flat xs) ((List.range (xs.length * c)).map fun j => val (k + j))
  | [], k, _, _ => ⟨by simp [flat], fun i a v ha => by simp [flat] at ha⟩
  | x :: xs, k, hl, h => by
    have h0 := h 0 (by simp)
    simp only [List.getElem_cons_zero, Nat.zero_mul, Nat.add_zero] at h0
    have ih := flat_rep xs (k + c) (fun y hy => hl y (by simp [hy])) fun i hi => by
      have := h (i + 1) (by simpa using hi)
      simp only [List.getElem_cons_succ] at this
      have e : ∀ j, k + (i + 1) * c + j = k + c + i * c + j := fun j => by rw [Nat.add_mul]; omega
      simpa only [e] using this
    have e1 : flat (x :: xs) = x.cells ++ flat xs := by simp [flat]
    have e2 : (List.range ((x :: xs).length * c)).map (fun j => val (k + j)) = (List.range c).map (fun j => val (k + j)) ++ (List.range (xs.length * c)).map fun j => val (k + c + j) := by
      rw [List.length_cons, Nat.add_mul, Nat.one_mul, Nat.add_comm (xs.length * c) c, List.range_add, List.map_append, List.map_map]
      congr 1
      apply List.map_congr_left
      intro j _
      simp [Nat.add_assoc]
    rw [e1, e2]
    exact h0.append ih
theorem fields_rep (n : Nat) {cs : List Value}
    (ih : ∀ t vs (x : DataW H × List MemPlace), S.contains t = true → DataW.trod enc P w 0 (fun _ => true) true n t vs = some x → ∃ as, HasT P n t as ∧ vs.length = P.cellsOf t ∧ RepL allExt w as vs) :
    ∀ (fs : List Field) (pos tot : Nat), (fs.all fun f => S.contains f.type) = true → fieldsAt P pos fs = some tot → cs.length = tot →
      (∀ (i : Nat) (f : Field), fs[i]? = some f → ∃ x, DataW.trod enc P w 0 (fun _ => true) true n f.type ((cs.drop f.offset).take (P.cellsOf f.type)) = some x) →
      ∃ css : List (List AV), css.length = fs.length ∧ (∀ (i : Nat) (f : Field) (c : List AV), fs[i]? = some f → css[i]? = some c → HasT P n f.type c) ∧ RepL allExt w css.flatten (cs.drop pos)
  | [], pos, tot, _, hf, hl, _ => by
    simp only [fieldsAt, Option.some.injEq] at hf
    refine ⟨[], rfl, fun i f c h => by simp at h, ?_, fun i a v ha => by simp at ha⟩
    simp; omega
  | f :: fs, pos, tot, hall, hf, hl, hx => by
    simp only [fieldsAt] at hf
    split at hf
    · rename_i hpos
      simp only [List.all_cons, Bool.and_eq_true] at hall
      obtain ⟨x, h0⟩ := hx 0 f rfl
      obtain ⟨as, h1, h2, h3⟩ := ih _ _ x hall.1 h0
      rw [hpos] at h2 h3
      obtain ⟨css, g1, g2, g3⟩ := fields_rep n ih fs _ tot hall.2 hf hl fun i g hg => hx (i + 1) g (by simpa using hg)
      refine ⟨as :: css, by simp [g1], fun i g c hg hc => ?_, ?_⟩
      · cases i with
        | zero => simp at hg hc; subst hg; subst hc; exact h1
        | succ i => exact g2 i g c (by simpa using hg) (by simpa using hc)
      · have := h3.append g3
        rw [← List.drop_drop, List.take_append_drop] at this
        simpa using this
    · simp at hf
theorem trod_rep (hS : S.all (okT P S) = true) : ∀ (n : Nat) (t : TypeId) (vs : List Value) (x : DataW H × List MemPlace), S.contains t = true → DataW.trod enc P w 0 (fun _ => true) true n t vs = some x → ∃ as, HasT P n t as ∧ vs.length = P.cellsOf t ∧ RepL allExt w as vs
  | 0, t, vs, x, _, hx => by simp [DataW.trod] at hx
  | n + 1, t, vs, x, ht, hx => by
    have hok := List.all_eq_true.1 hS t (by simpa using ht)
    unfold okT at hok
    have one : ∀ {a : AV} {v : Value}, Rep allExt w a v → RepL allExt w [a] [v] := fun {a v} h => ⟨rfl, fun i a' v' ha hv => by
      cases i with
      | zero => simp at ha hv; subst ha; subst hv; exact h
      | succ i => simp at ha⟩
    split at hok
    · rename_i k hu
      obtain ⟨z, rfl, _, hw⟩ := DataW.trod_int hu hx
      simp only [Lit.wf, Bool.and_eq_true, decide_eq_true_eq] at hw
      exact ⟨[.int k z], by simp only [HasT, hu]; exact ⟨z, rfl, hw.1, hw.2⟩, by simpa using (beq_iff_eq.1 hok).symm, one (.int k z)⟩
    · rename_i hu
      obtain ⟨b, rfl, _⟩ := DataW.trod_bool hu hx
      exact ⟨[.bool b], by simp only [HasT, hu]; exact ⟨b, rfl⟩, by simpa using (beq_iff_eq.1 hok).symm, one (.bool b)⟩
    · rename_i hu
      obtain ⟨s, rfl, _, hs⟩ := DataW.trod_string hu hx
      exact ⟨[.str s.data.toList], by simp only [HasT, hu]; exact ⟨_, rfl, by simpa using hs⟩, by simpa using (beq_iff_eq.1 hok).symm, one (.str s)⟩
    · rename_i e hu
      simp only [Bool.and_eq_true, decide_eq_true_eq, beq_iff_eq] at hok
      obtain ⟨⟨hc1, heS⟩, hc⟩ := hok
      rcases DataW.trod_slice hu hx with ⟨rfl, _⟩ | ⟨a, len, cap, elems, rest, n', hn, rfl, _, _, hlc, hcap, hel, hat, hsp, _⟩
      · exact ⟨[.vec none false []], by simp only [HasT, hu]; exact ⟨false, [], rfl, fun _ => rfl, by simp, by simp⟩, by simpa using hc1.symm, one (.nilvec none)⟩
      · obtain rfl : n = n' := by omega
        -- each element
        have each : ∀ i, i < len → ∃ es, HasT P n e es ∧ ∃ ci : List Value, ci.length = P.cellsOf e ∧ (∀ j, j < P.cellsOf e → w.cell? ((a.add (i * P.cellsOf e)).add j) = ci[j]?) ∧ RepL allExt w es ci := by
          intro i hi
          have h1 := hat i hi
          rw [List.getElem?_eq_getElem (by omega)] at h1
          simp only [Option.bind_eq_some_iff] at h1
          obtain ⟨ci, h2, h3⟩ := h1
          obtain ⟨_, hl, hcell⟩ := World.cells?_some h2
          obtain ⟨es, g1, g2, g3⟩ := trod_rep hS n e ci _ heS h3
          exact ⟨es, g1, ci, hl, hcell, g3⟩
        by_cases hcz : cap = 0
        · obtain rfl : len = 0 := by omega
          subst hcz
          exact ⟨[.vec none true []], by simp only [HasT, hu]; exact ⟨true, [], rfl, by simp, by simp, by simp⟩, by simpa using hc1.symm, one (.evec none a)⟩
        have hspot : a.spot = none := by
          have key : ∀ u, w.cell? a = some u → a.spot = none := by
            intro u h
            cases hs : a.spot with
            | none => rfl
            | some p =>
              unfold World.cell? at h
              split at h
              · simp [hs] at h
              · simp at h
          by_cases hl0 : len = 0
          · obtain ⟨_, hr⟩ := hsp rfl
            have h1 := hr 0 (by omega)
            have hrl : 0 < rest.length := by omega
            rw [List.getElem?_eq_getElem hrl] at h1
            simp only [Option.bind_eq_some_iff] at h1
            obtain ⟨ci, h2, _⟩ := h1
            obtain ⟨_, hl, hcell⟩ := World.cells?_some h2
            have h4 := hcell 0 hc
            rw [hl0] at h4
            simp only [Nat.add_zero, Nat.zero_mul] at h4
            rw [show (a.add 0).add 0 = a from rfl, List.getElem?_eq_getElem (by omega)] at h4
            exact key _ h4
          · obtain ⟨es, _, ci, hl, hcell, _⟩ := each 0 (by omega)
            have h4 := hcell 0 hc
            simp only [Nat.zero_mul] at h4
            rw [show (a.add 0).add 0 = a from rfl, List.getElem?_eq_getElem (by omega)] at h4
            exact key _ h4
        obtain ⟨b, off, sp⟩ := a
        simp only at hspot
        subst hspot
        have hadd : ∀ i j : Nat, ((⟨b, off, none⟩ : Addr).add (i * P.cellsOf e)).add j = ⟨b, off + (i * P.cellsOf e + j), none⟩ := by
          intro i j; rw [add_off, add_off]; congr 1; omega
        let val : Nat → Value := fun p => (w.cell? ⟨b, off + p, none⟩).getD undef
        let el : Nat → List AV := fun i => if h : i < len then Classical.choose (each i h) else []
        have hel2 : ∀ i, i < len → HasT P n e (el i) ∧ RepL allExt w (el i) ((List.range (P.cellsOf e)).map fun j => val (i * P.cellsOf e + j)) ∧ ∀ j, j < P.cellsOf e → w.cell? ⟨b, off + (i * P.cellsOf e + j), none⟩ = some (val (i * P.cellsOf e + j)) := by
          intro i h
          have hs := Classical.choose_spec (each i h)
          have e1 : el i = Classical.choose (each i h) := by simp only [el, h, dif_pos]
          rw [← e1] at hs
          obtain ⟨g1, ci, g2, g3, g4⟩ := hs
          have hv : ∀ j (hj : j < P.cellsOf e), val (i * P.cellsOf e + j) = ci[j] := by
            intro j hj
            have := g3 j hj
            rw [hadd, List.getElem?_eq_getElem (by omega)] at this
            simp only [val, this, Option.getD_some]
          refine ⟨g1, ?_, fun j hj => ?_⟩
          · have e2 : ((List.range (P.cellsOf e)).map fun j => val (i * P.cellsOf e + j)) = ci := by
              apply List.ext_getElem
              · simp [g2]
              · intro j h1 h2
                simp only [List.getElem_map, List.getElem_range]
                exact hv j (by omega)
            rw [e2]; exact g4
          · have := g3 j hj
            rw [hadd, List.getElem?_eq_getElem (by omega)] at this
            rw [this, hv j hj]
        let xs : List AV := (List.range len).map fun i => mkEl (isStruct P e) (el i)
        have hxl : xs.length = len := by simp [xs]
        have hxc : ∀ i (h : i < xs.length), xs[i].cells = el i := by
          intro i h
          have hi : i < len := by omega
          simp only [xs, List.getElem_map, List.getElem_range]
          exact mkEl_cells (hel2 i hi).1
        have hcl : ∀ x ∈ xs, x.cells.length = P.cellsOf e := by
          intro x hx
          obtain ⟨i, hi, rfl⟩ := List.mem_iff_getElem.1 hx
          rw [hxc i hi, (hel2 i (by omega)).2.1.1]
          simp
        have hfr := flat_rep (w := w) (c := P.cellsOf e) (val := val) xs 0 hcl fun i hi => by
          rw [hxc i hi]
          simpa using (hel2 i (by omega)).2.1
        simp only [Nat.zero_add] at hfr
        have hfl : (flat xs).length = len * P.cellsOf e := by rw [hfr.1]; simp [hxl]
        have hex : ∀ x ∈ xs, ∃ es, x = mkEl (isStruct P e) es ∧ HasT P n e es := by
          intro x hx
          obtain ⟨i, hi, rfl⟩ := List.mem_map.1 hx
          exact ⟨_, rfl, (hel2 i (by simpa using hi)).1⟩
        refine ⟨[.vec none true xs], by simp only [HasT, hu]; exact ⟨true, xs, rfl, by simp, by omega, hex⟩, by simpa using hc1.symm, ?_⟩
        · have := Rep.vec (G := allExt) (w := w) none xs b off cap (P.cellsOf e) val (by omega) hcl
            (fun j hj => by
              rw [hfl] at hj
              refine ⟨by simp [stable, allExt], ?_⟩
              have hi : j / P.cellsOf e < len := Nat.div_lt_of_lt_mul (by rw [Nat.mul_comm]; exact hj)
              have hm : j % P.cellsOf e < P.cellsOf e := Nat.mod_lt _ hc
              have he : j / P.cellsOf e * P.cellsOf e + j % P.cellsOf e = j := by rw [Nat.mul_comm]; exact Nat.div_add_mod j _
              have := (hel2 _ hi).2.2 _ hm
              rw [he] at this
              exact this)
            (fun j hj => by
              have h1 : j < ((List.range (xs.length * P.cellsOf e)).map fun j => val j).length := by rw [← hfr.1]; exact hj
              have := hfr.get j hj h1
              simpa using this)
          rw [hxl] at this
          exact one this
    · rename_i fs hu
      simp only [Bool.and_eq_true, beq_iff_eq] at hok
      obtain ⟨xs, n', hn, _, hl, hxl, hf⟩ := DataW.trod_struct hu hx
      obtain rfl : n = n' := by omega
      obtain ⟨css, g1, g2, g3⟩ := fields_rep (S := S) n (cs := vs) (fun t vs x h1 h2 => trod_rep hS n t vs x h1 h2) fs.toList 0 _ hok.1 hok.2 hl fun i f hif => by
        have h1 := hf i f (by simpa using hif)
        have : i < xs.length := by rw [hxl]; have := (List.getElem?_eq_some_iff.1 hif).1; simpa using this
        rw [List.getElem?_eq_getElem this] at h1
        exact ⟨_, h1⟩
      exact ⟨css.flatten, by simp only [HasT, hu]; exact ⟨css, rfl, g1, g2⟩, hl, by simpa using g3⟩
    · simp at hok

def ArgT (P : Program) (t : TypeId) (a : AV) : Prop := ∃ n cs, a = mkEl (isStruct P t) cs ∧ HasT P n t cs
def ArgsT (P : Program) : List TypeId → List AV → Prop
  | [], [] => True
  | t :: ts, a :: as => ArgT P t a ∧ ArgsT P ts as
  | _, _ => False
theorem argT_rep (hS : S.all (okT P S) = true) {t : TypeId} {base n : Nat} {v : Value} {x : DataW H × List MemPlace} (ht : S.contains t = true) (hok : Value.okWide P w .any base t v) (hx : DataW.trod enc P w 0 (fun _ => true) true n t v.cells.toList = some x) :
    ∃ a, ArgT P t a ∧ Rep allExt w a v ∧ notOwn a := by
  obtain ⟨as, h1, h2, h3⟩ := trod_rep hS n t _ x ht hx
  cases hst : isStruct P t with
  | true =>
    unfold Value.okWide at hok
    split at hok
    · obtain ⟨cs, rfl, _⟩ := hok
      have hcc : (Value.agg cs).cells = cs := rfl
      rw [hcc] at h3
      obtain ⟨g1, g2⟩ := h3.to_array
      exact ⟨.agg as, ⟨n, as, by rw [hst]; rfl, h1⟩, .agg _ _ g1 g2, trivial⟩
    · rename_i n' e hu
      simp [isStruct, hu] at hst
    · rename_i h1 h2
      unfold isStruct at hst
      split at hst
      · rename_i fs hu; exact absurd hu (h1 fs)
      · simp at hst
  | false =>
    obtain ⟨a, rfl, h4, h5⟩ := h1.plain hst
    have hc : v.cells = #[v] := by
      have ho := List.all_eq_true.1 hS t (by simpa using ht)
      unfold okT at ho
      have hcell : Cell.okWide P w .any base t v := by
        unfold Value.okWide at hok
        split at hok
        · rename_i fs hu
          simp [isStruct, hu] at hst
        · rename_i n e hu
          simp [hu] at ho
        · exact hok
      cases v with
      | agg vs =>
        exfalso
        unfold Cell.okWide at hcell
        split at hcell <;> first | (rename_i h1 h2; cases h2; done) | skip
        unfold Cell.ok at hcell
        split at hcell <;> first | (rename_i h1 h2; cases h2; done) | exact hcell
      | _ => rfl
    rw [hc] at h3
    exact ⟨a, ⟨n, [a], by rw [hst]; rfl, h1⟩, h3.2 0 a v rfl rfl, h5⟩
theorem argsT_rep (hS : S.all (okT P S) = true) : ∀ (ts : List TypeId) (vs : List Value) (ds : List (DataW H)) (p : List MemPlace) (base : Nat),
    DataW.TrodAll enc P w 0 (fun _ => true) true ts vs ds p → (ts.all fun t => S.contains t) = true → (∀ (j : Nat) t v, ts[j]? = some t → vs[j]? = some v → Value.okWide P w .any base t v) →
    ∃ as, ArgsT P ts as ∧ as.length = vs.length ∧ ∀ (i : Nat) (h1 : i < as.length) (h2 : i < vs.length), Rep allExt w as[i] vs[i] ∧ notOwn as[i]
  | [], vs, ds, p, _, h, _, _ => by
    obtain ⟨rfl, rfl, rfl⟩ := trodAll_nil h
    exact ⟨[], trivial, rfl, fun i h1 => by simp at h1⟩
  | t :: ts, vs, ds, p, base, h, hs, hval => by
    obtain ⟨v, vs', d, ds', a, b, rfl, rfl, rfl, ⟨n, hx⟩, h2⟩ := trodAll_cons h
    simp only [List.all_cons, Bool.and_eq_true] at hs
    obtain ⟨x, hx1, hx2, hx3⟩ := argT_rep hS hs.1 (hval 0 t v rfl rfl) hx
    obtain ⟨as, k1, k2, k3⟩ := argsT_rep hS ts vs' ds' b base h2 hs.2 (fun j t' v' ht hv => hval (j + 1) t' v' (by simpa using ht) (by simpa using hv))
    refine ⟨x :: as, ⟨hx1, k1⟩, by simp [k2], fun i h1 h2 => ?_⟩
    cases i with
    | zero => exact ⟨hx2, hx3⟩
    | succ i => exact k3 i (by simpa using h1) (by simpa using h2)
/-- From a law of the small code to the row's contract: arguments of any depth. -/
theorem law_contract_deep {fn : Func} {f : FuncId} {C : CallF} {s : ChangeSpec} {np : Nat} {bt : TypeId} (S : List TypeId) (hl : laidOutB P = true) (hC : CallOK P C) (hvars : s.vars = [])
    (hres : fn.resultTypes = #[bt]) (hbt : P.underlying bt = some .bool)
    (hs : ∀ (H : Type) (ds : List (DataW H)), ds.length = np → (s.fn H ds).results = [.lit (.bool true)] ∧ (s.fn H ds).args = ds ∧ (s.fn H ds).vars = [])
    (hS : S.all (okT P S) = true) (hin : (fn.params.toList.all fun t => S.contains t) = true) (hnp : fn.params.toList.length = np) (hread : ∀ t ∈ fn.params.toList, P.readableRec t = true ∧ t < P.types.size)
    {W : World} {base : Nat} {args : Array Value} {ds gs : List (DataW H)} {before : List MemPlace}
    (hlaw : ∀ as, ArgsT P fn.params.toList as → ∃ m, C f as [] = some (.bool true, m))
    (hval : ∀ (j : Nat) t v, fn.params[j]? = some t → args[j]? = some v → Value.okWide P W .any base t v)
    (hW : DataW.Whole enc P fn.params.toList s.vars false W args.toList ds gs before) (hgl : GlobOK P W) :
    Calls P f args W fun e W' => ∃ v, e = .returned v ∧ s.post enc P fn false true false false W args v W' := by
  have hW' := hW
  obtain ⟨p, q, hA, hV, rfl, hfz, hnd⟩ := hW
  rw [hvars] at hV
  obtain ⟨rfl, rfl⟩ := trodVars_none hV
  simp only [List.append_nil] at hW' hfz
  obtain ⟨as, h1, h2, h3⟩ := argsT_rep hS fn.params.toList args.toList ds p base hA hin (fun j t v ht hv => hval j t v (by simpa using ht) (by simpa using hv))
  obtain ⟨m, hm⟩ := hlaw as h1
  have hdl : ds.length = np := by rw [(trodAll_length hA).2, hnp]
  refine ((hC f as [] _ _ hm).2.2 allExt W args (by simpa using h2) (init_inv hgl h2 h3) rfl).mono fun e W' hp => ?_
  obtain ⟨u, G', rfl, hinv⟩ := hp
  have hu : u = .bool true := (hinv.tmp 0).bool_inv
  subst hu
  have hb : Below W.heap.size W W' := ⟨hinv.os, hinv.tape, hinv.output, hinv.size, fun k hk => (hinv.ext k hk rfl).1⟩
  obtain ⟨r1, r2, r3⟩ := hs H ds hdl
  have hlt : ∀ x ∈ p, x.block < W.heap.size := fun x hx => by simpa using hW'.lt x hx
  refine ⟨_, rfl, ds, [], p, [], p, [], hW', ?_, ?_, ?_, World.keptBut_mono (fun x hx => hx.elim) (hb.frame fun _ => False), fun h => by cases h⟩
  · rw [List.append_nil, r1, hres]
    exact trodAll_mk1 (shut_bool hbt true)
  · rw [List.append_nil, r2]
    exact trodAll_stays hl hb _ _ _ _ _ hread hA hlt (fun x hx => by simpa using hlt x hx)
  · rw [List.append_nil, r3, hvars]
    rfl
end
end Go.Vm
