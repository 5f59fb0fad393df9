/- A small machine and its soundness, part VI. -/
import Derived.Test.YtmncbcgcahfdcaaGreatDoorVE
import Derived.SizedLaws
import Derived.Test.YtmncbcgcahfdcaaGreatDoorVF
/- From a law of the small code to the row's contract, with the bound on the size of slices that are arguments. -/
namespace Go.Vm
open Go.ChangeShapes Go.RowKit
section
variable {H : Type} {enc : TypeId × Value → H} {P : Program} {w : World}

theorem len_bound {G : Gh} {w' : World} {base n : Nat} {spare : Nat → Bool} {held : Bool} {t e : TypeId} {o : Option Nat} {nn : Bool} {xs : List AV} {v : Value} {x : DataW H × List MemPlace} (hr : Rep G w' (.vec o nn xs) v)
    (hx : DataW.trod enc P w base spare held n t v.cells.toList = some x) (hu : P.underlying t = some (.slice e)) (hw : (x.1.weights P t).all (· ≤ reachBytes) = true) : xs.length * P.bytesOf e ≤ reachBytes := by
  cases hr with
  | nilvec _ => simp
  | evec _ a => simp
  | vec _ _ b off cap st vals hcap hst hc h =>
    rcases DataW.trod_slice hu hx with ⟨hcs, _⟩ | ⟨a, len, cap', elems, rest, n', _, hcs, hxe, _, _, _, hel, _⟩
    · have hcs' : [Value.slice (some ⟨b, off, none⟩) xs.length cap] = [.slice none 0 0] := hcs
      cases hcs'
    · have hcs' : [Value.slice (some ⟨b, off, none⟩) xs.length cap] = [.slice (some a) len cap'] := hcs
      have hlen : xs.length = len := by injection hcs' with h1 _; injection h1
      subst hxe
      simp only [DataW.weights, hu, List.all_cons, Bool.and_eq_true, decide_eq_true_eq, List.length_map] at hw
      refine Nat.le_trans (Nat.mul_le_mul_right _ ?_) hw.1
      omega

theorem weights_at : ∀ (ts : List TypeId) (ds : List (DataW H)), (DataW.weightsEach P ts ds).all (· ≤ reachBytes) = true → ∀ (j : Nat) t d, ts[j]? = some t → ds[j]? = some d → (d.weights P t).all (· ≤ reachBytes) = true
  | [], _, _, j, t, d, h, _ => by simp at h
  | _ :: _, [], _, j, t, d, _, h => by simp at h
  | t0 :: ts, d0 :: ds, hw, j, t, d, ht, hd => by
    simp only [DataW.weightsEach, List.all_append, Bool.and_eq_true] at hw
    cases j with
    | zero => simp at ht hd; subst ht; subst hd; exact hw.1
    | succ j => exact weights_at ts ds hw.2 j t d (by simpa using ht) (by simpa using hd)

theorem trodAll_at : ∀ (ts : List TypeId) (vs : List Value) (ds : List (DataW H)) (p : List MemPlace), DataW.TrodAll enc P w 0 (fun _ => true) true ts vs ds p → ∀ (j : Nat) t v, ts[j]? = some t → vs[j]? = some v → ∃ d n q, ds[j]? = some d ∧ DataW.trod enc P w 0 (fun _ => true) true n t v.cells.toList = some (d, q)
  | [], vs, ds, p, h, j, t, v, ht, _ => by simp at ht
  | t0 :: ts, vs, ds, p, h, j, t, v, ht, hv => by
    obtain ⟨v0, vs', d0, ds', a, b, rfl, rfl, rfl, ⟨n, hx⟩, h2⟩ := trodAll_cons h
    cases j with
    | zero =>
      simp at ht hv; subst ht; subst hv
      exact ⟨d0, n, a, rfl, hx⟩
    | succ j =>
      obtain ⟨d, n, q, h3, h4⟩ := trodAll_at ts vs' ds' b h2 j t v (by simpa using ht) (by simpa using hv)
      exact ⟨d, n, q, by simpa using h3, h4⟩

/-- Slices that are arguments are no larger than memory. -/
def Sized (P : Program) (fn : Func) (as : List AV) : Prop := ∀ (j : Nat) t e o nn xs, fn.params.toList[j]? = some t → P.underlying t = some (.slice e) → as[j]? = some (.vec o nn xs) → xs.length * P.bytesOf e ≤ reachBytes

theorem law_contract_sized {fn : Func} {f : FuncId} {C : CallF} {s : ChangeSpec} {pks : List (Bool × List CK)} {bt : TypeId} (hl : laidOutB P = true) (hC : CallOK P C) (hvars : s.vars = [])
    (hres : fn.resultTypes = #[bt]) (hbt : P.underlying bt = some .bool)
    (hs : ∀ (H : Type) (ds : List (DataW H)), ds.length = pks.length → (s.fn H ds).results = [.lit (.bool true)] ∧ (s.fn H ds).args = ds ∧ (s.fn H ds).vars = [])
    (hkinds : shapesOf P fn.params.toList = pks.map some) (hok : pks.all shapeOk = true) (hread : ∀ t ∈ fn.params.toList, P.readableRec t = true ∧ t < P.types.size)
    {W : World} {base : Nat} {args : Array Value} {ds gs : List (DataW H)} {before : List MemPlace}
    (hlaw : ∀ as, ArgsHave pks as → Sized P fn as → ∃ m, C f as [] = some (.bool true, m))
    (hval : ∀ (j : Nat) t v, fn.params[j]? = some t → args[j]? = some v → Value.okWide P W .any base t v)
    (hW : DataW.Whole enc P fn.params.toList s.vars false W args.toList ds gs before)
    (hwt : (DataW.weightsEach P (fn.params.toList ++ s.plain.varTypes P) (ds ++ gs)).all (· ≤ reachBytes) = true) (hgl : GlobOK P W) :
    Calls P f args W fun e W' => ∃ v, e = .returned v ∧ s.post enc P fn false true false false W args v W' := by
  have hW' := hW
  obtain ⟨p, q, hA, hV, rfl, hfz, hnd⟩ := hW
  rw [hvars] at hV
  obtain ⟨rfl, rfl⟩ := trodVars_none hV
  simp only [List.append_nil] at hW' hfz
  obtain ⟨as, h1, h2, h3⟩ := args_rep fn.params.toList args.toList ds p pks base hA hkinds hok (fun j t v ht hv => hval j t v (by simpa using ht) (by simpa using hv))
  have hsz : Sized P fn as := fun j t e o nn xs ht hu ha => by
    have hj : j < as.length := (List.getElem?_eq_some_iff.1 ha).1
    have hja : j < args.toList.length := by omega
    have hv : args.toList[j]? = some args.toList[j] := List.getElem?_eq_getElem hja
    obtain ⟨d, n, q, hd, hx⟩ := trodAll_at _ _ _ _ hA j t _ ht hv
    have hr := (h3 j hj hja).1
    have ha' : as[j] = .vec o nn xs := (List.getElem?_eq_some_iff.1 ha).2
    rw [ha'] at hr
    have hw := weights_at _ _ hwt j t d (by
      have : j < fn.params.toList.length := (List.getElem?_eq_some_iff.1 ht).1
      rw [List.getElem?_append_left this]; exact ht) (by
      have : j < ds.length := (List.getElem?_eq_some_iff.1 hd).1
      rw [List.getElem?_append_left this]; exact hd)
    exact len_bound hr hx hu hw
  obtain ⟨m, hm⟩ := hlaw as h1 hsz
  have hdl : ds.length = pks.length := by
    have := (trodAll_length hA).2
    rw [this, ← List.length_map (f := some) (as := pks), ← hkinds]
    simp [shapesOf]
  refine ((hC f as [] _ _ hm).2.2 allExt W args (by simpa using h2) (init_inv hgl h2 h3) rfl).mono fun e W' hp => ?_
  obtain ⟨u, G', rfl, hinv⟩ := hp
  have hu : u = .bool true := (hinv.tmp 0).bool_inv
  subst hu
  have hb : Below W.heap.size W W' := ⟨hinv.os, hinv.tape, hinv.output, hinv.size, fun k hk => (hinv.ext k hk rfl).1⟩
  obtain ⟨r1, r2, r3⟩ := hs H ds hdl
  have hlt : ∀ x ∈ p, x.block < W.heap.size := fun x hx => by simpa using hW'.lt x hx
  refine ⟨_, rfl, ds, [], p, [], p, [], hW', ?_, ?_, ?_, World.keptBut_mono (fun x hx => hx.elim) (hb.frame fun _ => False), fun h => by cases h⟩
  · rw [List.append_nil, r1, hres]
    exact trodAll_mk1 (shut_bool hbt true)
  · rw [List.append_nil, r2]
    exact trodAll_stays hl hb _ _ _ _ _ hread hA hlt (fun x hx => by simpa using hlt x hx)
  · rw [List.append_nil, r3, hvars]
    rfl
end
end Go.Vm
/- Arguments of a law as abstract values of known shape. -/
namespace Go.Vm
theorem callL_ok {P : Program} {T : FuncId → Option VF} (h : ∀ k, CallOK P (callN T k)) : CallOK P (callL T) := by
  intro f args m v m' hc
  obtain ⟨k, hk⟩ := callL_some hc
  exact h k f args m v m' hk
def inI (n : Int) : Prop := -9223372036854775808 ≤ n ∧ n ≤ 9223372036854775807
def inL (n : Nat) : Prop := (n : Int) ≤ 9223372036854775807
theorem inL_of {n : Nat} (h : n ≤ maxLen) : inL n := by
  have e : maxLen = 9223372036854775807 := by decide
  unfold inL; omega
theorem pk_int {v : AV} (h : PK.has (.int .i64) v) : ∃ n, v = .int .i64 n ∧ inI n := by
  obtain ⟨n, rfl, h1, h2⟩ := h
  refine ⟨n, rfl, ?_, ?_⟩
  · have e : IntKind.min .i64 = -9223372036854775808 := by decide
    omega
  · have e : IntKind.max .i64 = 9223372036854775807 := by decide
    omega
theorem pk_u8 {v : AV} (h : PK.has (.int .u8) v) : ∃ n : UInt8, v = .int .u8 n.toNat := by
  obtain ⟨n, rfl, h1, h2⟩ := h
  have e1 : IntKind.min .u8 = 0 := by decide
  have e2 : IntKind.max .u8 = 255 := by decide
  refine ⟨UInt8.ofNat n.toNat, ?_⟩
  have : (UInt8.ofNat n.toNat).toNat = n.toNat := by simp; omega
  rw [this]
  congr 1
  omega
theorem pk_str {v : AV} (h : PK.has .str v) : ∃ b : List UInt8, v = .str b ∧ inL b.length := by
  obtain ⟨b, rfl, h1⟩ := h
  exact ⟨b, rfl, inL_of h1⟩
theorem pk_bool {v : AV} (h : PK.has .bool v) : ∃ b : Bool, v = .bool b := h
theorem ck_int {v : AV} (h : CK.has (.p (.int .i64)) v) : ∃ n, v = .int .i64 n ∧ inI n := pk_int h
theorem ck_u8 {v : AV} (h : CK.has (.p (.int .u8)) v) : ∃ n : UInt8, v = .int .u8 n.toNat := pk_u8 h
theorem ck_str {v : AV} (h : CK.has (.p .str) v) : ∃ b : List UInt8, v = .str b ∧ inL b.length := pk_str h
theorem ck_bool {v : AV} (h : CK.has (.p .bool) v) : ∃ b : Bool, v = .bool b := h
theorem els_map {α : Type} (e : α → AV) (P : α → Prop) : ∀ (xs : List AV), (∀ x ∈ xs, ∃ z, x = e z ∧ P z) → ∃ zs : List α, xs = zs.map e ∧ ∀ z ∈ zs, P z
  | [], _ => ⟨[], rfl, by simp⟩
  | x :: r, h => by
    obtain ⟨zs, rfl, hz⟩ := els_map e P r fun y hy => h y (by simp [hy])
    obtain ⟨z, rfl, hp⟩ := h x (by simp)
    exact ⟨z :: zs, rfl, fun w hw => by
      rcases List.mem_cons.1 hw with rfl | h
      · exact hp
      · exact hz w h⟩
theorem ck_els {agg : Bool} {ks : List PK} {α : Type} (e : α → AV) (Q : α → Prop) {v : AV} (h : CK.has (.slice ks agg) v)
    (helem : ∀ cs, cs.length = ks.length → (∀ (i : Nat) (k : PK) (c : AV), ks[i]? = some k → cs[i]? = some c → k.has c) → ∃ z, mkEl agg cs = e z ∧ Q z) :
    ∃ nn zs, v = vv none nn e zs ∧ inL zs.length ∧ ∀ z ∈ zs, Q z := by
  obtain ⟨nn, xs, rfl, -, hlen, hx⟩ := h
  obtain ⟨zs, rfl, hz⟩ := els_map e Q xs fun x hxm => by
    obtain ⟨cs, rfl, hl, hc⟩ := hx x hxm
    exact helem cs hl hc
  exact ⟨nn, zs, rfl, by rw [List.length_map] at hlen; exact inL_of hlen, hz⟩
theorem ck_ints {v : AV} (h : CK.has (.slice [.int .i64] false) v) : ∃ nn zs, v = vv none nn (AV.int .i64) zs ∧ inL zs.length ∧ ∀ z ∈ zs, inI z :=
  ck_els (AV.int .i64) inI h fun cs hl hc => by
    match cs, hl with
    | [c], _ =>
      obtain ⟨n, rfl, hn⟩ := pk_int (hc 0 _ c rfl rfl)
      exact ⟨n, rfl, hn⟩
theorem ck_strs {v : AV} (h : CK.has (.slice [.str] false) v) : ∃ nn zs, v = vv none nn AV.str zs ∧ inL zs.length ∧ ∀ z ∈ zs, inL z.length :=
  ck_els AV.str (fun z => inL z.length) h fun cs hl hc => by
    match cs, hl with
    | [c], _ =>
      obtain ⟨n, rfl, hn⟩ := pk_str (hc 0 _ c rfl rfl)
      exact ⟨n, rfl, hn⟩
theorem arg_one {k : CK} {a : AV} (h : ArgHas false [k] a) : k.has a := by
  obtain ⟨cs, rfl, hl, hc⟩ := h
  match cs, hl with
  | [c], _ => exact hc 0 _ c rfl rfl
theorem args1 {p1 : Bool × List CK} {T : FuncId → Option VF} {f : FuncId} (h : ∀ a, ArgHas p1.1 p1.2 a → ∃ m, callL T f [a] [] = some (.bool true, m)) : ∀ as, ArgsHave [p1] as → ∃ m, callL T f as [] = some (.bool true, m)
  | [a], hh => h a hh.1
  | [], hh => hh.elim
  | _ :: _ :: _, hh => hh.2.elim
theorem args2 {p1 p2 : Bool × List CK} {T : FuncId → Option VF} {f : FuncId} (h : ∀ a b, ArgHas p1.1 p1.2 a → ArgHas p2.1 p2.2 b → ∃ m, callL T f [a, b] [] = some (.bool true, m)) : ∀ as, ArgsHave [p1, p2] as → ∃ m, callL T f as [] = some (.bool true, m)
  | [a, b], hh => h a b hh.1 hh.2.1
  | [], hh => hh.elim
  | [_], hh => hh.2.elim
  | _ :: _ :: _ :: _, hh => hh.2.2.elim
theorem args3 {p1 p2 p3 : Bool × List CK} {T : FuncId → Option VF} {f : FuncId} (h : ∀ a b c, ArgHas p1.1 p1.2 a → ArgHas p2.1 p2.2 b → ArgHas p3.1 p3.2 c → ∃ m, callL T f [a, b, c] [] = some (.bool true, m)) : ∀ as, ArgsHave [p1, p2, p3] as → ∃ m, callL T f as [] = some (.bool true, m)
  | [a, b, c], hh => h a b c hh.1 hh.2.1 hh.2.2.1
  | [], hh => hh.elim
  | [_], hh => hh.2.elim
  | [_, _], hh => hh.2.2.elim
  | _ :: _ :: _ :: _ :: _, hh => hh.2.2.2.elim
theorem args4 {p1 p2 p3 p4 : Bool × List CK} {T : FuncId → Option VF} {f : FuncId} (h : ∀ a b c d, ArgHas p1.1 p1.2 a → ArgHas p2.1 p2.2 b → ArgHas p3.1 p3.2 c → ArgHas p4.1 p4.2 d → ∃ m, callL T f [a, b, c, d] [] = some (.bool true, m)) : ∀ as, ArgsHave [p1, p2, p3, p4] as → ∃ m, callL T f as [] = some (.bool true, m)
  | [a, b, c, d], hh => h a b c d hh.1 hh.2.1 hh.2.2.1 hh.2.2.2.1
  | [], hh => hh.elim
  | [_], hh => hh.2.elim
  | [_, _], hh => hh.2.2.elim
  | [_, _, _], hh => hh.2.2.2.elim
  | _ :: _ :: _ :: _ :: _ :: _, hh => hh.2.2.2.2.elim
theorem args5 {p1 p2 p3 p4 p5 : Bool × List CK} {T : FuncId → Option VF} {f : FuncId} (h : ∀ a b c d e, ArgHas p1.1 p1.2 a → ArgHas p2.1 p2.2 b → ArgHas p3.1 p3.2 c → ArgHas p4.1 p4.2 d → ArgHas p5.1 p5.2 e → ∃ m, callL T f [a, b, c, d, e] [] = some (.bool true, m)) : ∀ as, ArgsHave [p1, p2, p3, p4, p5] as → ∃ m, callL T f as [] = some (.bool true, m)
  | [a, b, c, d, e], hh => h a b c d e hh.1 hh.2.1 hh.2.2.1 hh.2.2.2.1 hh.2.2.2.2.1
  | [], hh => hh.elim
  | [_], hh => hh.2.elim
  | [_, _], hh => hh.2.2.elim
  | [_, _, _], hh => hh.2.2.2.elim
  | [_, _, _, _], hh => hh.2.2.2.2.elim
  | _ :: _ :: _ :: _ :: _ :: _ :: _, hh => hh.2.2.2.2.2.elim
abbrev intS : Bool × List CK := (false, [.p (.int .i64)])
abbrev strS : Bool × List CK := (false, [.p .str])
abbrev strsS : Bool × List CK := (false, [.slice [.str] false])
end Go.Vm
