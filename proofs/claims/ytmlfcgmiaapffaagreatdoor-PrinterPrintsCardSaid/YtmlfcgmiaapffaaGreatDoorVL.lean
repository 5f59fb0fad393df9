/- A small machine and its soundness, part VL. -/
import Derived.Test.YtmlfcgmiaapffaaGreatDoorVE
import Derived.Lib.ConvBytes
/- Library functions that are met by their contracts: what has to be known of them. -/
namespace Go.Vm
set_option maxRecDepth 10000
open Go.RowKit
section
variable {P : Program}
def named (P : Program) (n : String) (f : FuncId) : Bool := match P.funcs[f]? with
  | some fn => decide (fn.name = n)
  | none => false
/-- FormatInt is number f alone; or there is none. -/
def onlyAt (P : Program) (n : String) (f : FuncId) : Bool := (List.range P.funcs.size).all fun i => !named P n i || i == f
theorem onlyAt_inv {n : String} {f i : FuncId} {fn : Func} (h : onlyAt P n f = true) (hi : P.funcs[i]? = some fn) (hn : fn.name = n) : i = f := by
  have hlt : i < P.funcs.size := (Array.getElem?_eq_some_iff.1 hi).1
  have := List.all_eq_true.1 h i (List.mem_range.2 hlt)
  unfold named at this
  rw [hi] at this
  simpa [hn] using this
def FormatOK (P : Program) (f : FuncId) : Prop := HasBody P f ∧ ∀ (n : Int) (_ : -9223372036854775808 ≤ n) (_ : n ≤ 9223372036854775807) (w : World) (_ : Lib.TabIs P w "internal/strconv.uint64pow10" .u64 Lib.pow10Tab),
  Calls P f #[.int .i64 n, .int .i64 10] w fun e w' => e = .returned (.string ⟨(Lib.itoa n).toArray⟩) ∧ Below w.heap.size w w'
def ParseOK (P : Program) (f : FuncId) : Prop := HasBody P f ∧ ∀ T, P.typeNamed8 "*strconv.NumError" = some T →
  (∀ (s : ByteArray) (_ : s.size ≤ 281474976710656) (v : Int) (_ : Lib.parseIntB 64 s.data.toList = .ok v) (w : World),
    Calls P f #[.string s, .int .i64 10, .int .i64 64] w fun e w' => e = .returned (.tuple #[.int .i64 v, .nilIface]) ∧ Below w.heap.size w w') ∧
  (∀ (s : ByteArray) (_ : s.size ≤ 281474976710656) (_ : Lib.parseIntB 64 s.data.toList = .«syntax») (w : World) (_ : XW P w),
    Calls P f #[.string s, .int .i64 10, .int .i64 64] w fun e w' => ∃ u, e = .returned (.tuple #[.int .i64 0, .iface T u]) ∧ Below w.heap.size w w') ∧
  (∀ (s : ByteArray) (_ : s.size ≤ 281474976710656) (_ : Lib.parseIntB 64 s.data.toList = .range) (w : World) (_ : XW P w),
    Calls P f #[.string s, .int .i64 10, .int .i64 64] w fun e w' => ∃ u, e = .returned (.tuple #[.int .i64 (Lib.intSat 64 s.data.toList), .iface T u]) ∧ Below w.heap.size w w')
theorem repT_str {G : Gh} {w : World} {s : List UInt8} {v : Value} (h : RepT G w (.str s) v) : ∃ b : ByteArray, v = .string b ∧ b.data.toList = s := by
  cases h with
  | of h => cases h with
    | str b => exact ⟨b, rfl, rfl⟩
theorem repT_int {G : Gh} {w : World} {k : IntKind} {n : Int} {v : Value} (h : RepT G w (.int k n) v) : v = .int k n := by
  cases h with
  | of h => cases h with
    | int => rfl
theorem rep_str' (G : Gh) (w : World) (s : List UInt8) : Rep G w (.str s) (.string ⟨s.toArray⟩) := by
  have := Rep.str (G := G) (w := w) ⟨s.toArray⟩
  simpa using this
theorem rep_tup2 {G : Gh} {w : World} {a b : AV} {u v : Value} (h1 : Rep G w a u) (h2 : Rep G w b v) : Rep G w (.tup [a, b]) (.tuple #[u, v]) := by
  refine .tup [a, b] #[u, v] rfl fun i k1 k2 => ?_
  match i, k1 with
  | 0, _ => exact h1
  | 1, _ => exact h2
theorem arr2 {vs : Array Value} (h : 2 = vs.size) : vs = #[vs.getD 0 undef, vs.getD 1 undef] := by
  apply Array.ext
  · simp [← h]
  · intro i h1 h2
    have : i = 0 ∨ i = 1 := by simp at h2; omega
    rcases this with rfl | rfl <;> simp [Array.getD, h1]
theorem arr3 {vs : Array Value} (h : 3 = vs.size) : vs = #[vs.getD 0 undef, vs.getD 1 undef, vs.getD 2 undef] := by
  apply Array.ext
  · simp [← h]
  · intro i h1 h2
    have : i = 0 ∨ i = 1 ∨ i = 2 := by simp at h2; omega
    rcases this with rfl | rfl | rfl <;> simp [Array.getD, h1]
theorem natV_1 {args outs : List AV} (h : natV 1 args = some outs) : ∃ n, args = [.int .i64 n, .int .i64 10] ∧ -9223372036854775808 ≤ n ∧ n ≤ 9223372036854775807 ∧ outs = [.str (Lib.itoa n)] := by
  unfold natV at h
  split at h
  · split at h
    · rename_i hc
      simp only [Option.some.injEq] at h
      obtain ⟨rfl, h1, h2⟩ := hc
      exact ⟨_, rfl, h1, h2, h.symm⟩
    · simp at h
  · simp at h
  · simp at h
theorem natV_p {T : Nat} {args outs : List AV} (h : natV (1000 + T) args = some outs) : ∃ s, args = [.str s, .int .i64 10, .int .i64 64] ∧ s.length ≤ 281474976710656 ∧
    match Lib.parseIntB 64 s with
      | .ok v => outs = [.int .i64 v, .nilIface]
      | .syntax => outs = [.int .i64 0, .iface T .undef]
      | .range => outs = [.int .i64 (Lib.intSat 64 s), .iface T .undef] := by
  generalize hk : 1000 + T = k at h
  unfold natV at h
  split at h
  · omega
  · split at h
    · rename_i s b c hc
      obtain ⟨-, rfl, rfl, hl⟩ := hc
      have e : k - 1000 = T := by omega
      refine ⟨s, rfl, hl, ?_⟩
      cases hp : Lib.parseIntB 64 s <;> simp only [hp, Option.some.injEq, e] at h ⊢ <;> exact h.symm
    · simp at h
  · simp at h
/-- The contracts of both, from what the shelf lays. -/
theorem xok_mk (fF fP : FuncId) (h1 : onlyAt P "strconv.FormatInt" fF = true) (h2 : onlyAt P "strconv.ParseInt" fP = true)
    (hF : named P "strconv.FormatInt" fF = true → FormatOK P fF) (hP : named P "strconv.ParseInt" fP = true → ParseOK P fP)
    (hpow : (P.globalNamed "internal/strconv.uint64pow10").isSome = true) : XOK P := by
  intro f vf h
  unfold xOf at h
  split at h
  · rename_i fn hfn
    split at h
    · rename_i hn
      simp only [Option.some.injEq] at h
      subst h
      have e := onlyAt_inv h1 hfn hn
      subst e
      obtain ⟨hb, hc⟩ := hF (by unfold named; rw [hfn]; simpa using hn)
      refine ⟨1, rfl, hb, fun args outs v hl hnat hres => ?_⟩
      obtain ⟨nn, rfl, n1, n2, rfl⟩ := natV_1 hnat
      have hv : v = .str (Lib.itoa nn) := by
        simp [result, resList, resOf, natSt, St.get, AV.nl, AV.view] at hres
        exact hres.symm
      subst hv
      refine ⟨trivial, fun G w vs hl hr hx => ?_⟩
      have e0 := repT_int (hr 0)
      have e1 := repT_int (hr 1)
      rw [arr2 hl, e0, e1]
      obtain ⟨g, hg⟩ := Option.isSome_iff_exists.1 hpow
      refine (hc nn n1 n2 w (hx.1 g hg)).mono fun e w' hp => ?_
      obtain ⟨rfl, hb⟩ := hp
      exact ⟨_, rfl, hb, fun G' => rep_str' G' w' _⟩
    · split at h
      · rename_i hn
        split at h
        · rename_i T hT
          simp only [Option.some.injEq] at h
          subst h
          have e := onlyAt_inv h2 hfn hn
          subst e
          obtain ⟨hb, hc⟩ := hP (by unfold named; rw [hfn]; simpa using hn)
          obtain ⟨c1, c2, c3⟩ := hc T hT
          refine ⟨1000 + T, rfl, hb, fun args outs v hl hnat hres => ?_⟩
          obtain ⟨s, rfl, hlen, hnat⟩ := natV_p hnat
          have hargs : ∀ (G : Gh) (w : World) (vs : Array Value), 3 = vs.size → (∀ t, RepT G w ([AV.str s, .int .i64 10, .int .i64 64].getD t .undef) (vs.getD t undef)) →
              ∃ y : ByteArray, vs = #[.string y, .int .i64 10, .int .i64 64] ∧ y.data.toList = s ∧ y.size ≤ 281474976710656 := by
            intro G w vs hl hr
            obtain ⟨y, e0, ey⟩ := repT_str (hr 0)
            have e1 := repT_int (hr 1)
            have e2 := repT_int (hr 2)
            refine ⟨y, ?_, ey, ?_⟩
            · rw [arr3 hl, e0, e1, e2]
            · have : y.size = s.length := by rw [← ey]; exact Array.length_toList.symm
              omega
          split at hnat
          · rename_i x hx
            subst hnat
            have hv : v = .tup [.int .i64 x, .nilIface] := by
              simp [result, resList, resOf, natSt, St.get, AV.nl, AV.view] at hres
              exact hres.symm
            subst hv
            refine ⟨trivial, fun G w vs hl hr hxw => ?_⟩
            obtain ⟨y, rfl, ey, hy⟩ := hargs G w vs hl hr
            refine (c1 y hy x (by rw [ey]; exact hx) w).mono fun e w' hp => ?_
            obtain ⟨rfl, hb⟩ := hp
            exact ⟨_, rfl, hb, fun G' => rep_tup2 (.int _ _) .nilIface⟩
          · rename_i hx
            subst hnat
            have hv : v = .tup [.int .i64 0, .iface T .undef] := by
              simp [result, resList, resOf, natSt, St.get, AV.nl, AV.view] at hres
              exact hres.symm
            subst hv
            refine ⟨trivial, fun G w vs hl hr hxw => ?_⟩
            obtain ⟨y, rfl, ey, hy⟩ := hargs G w vs hl hr
            refine (c2 y hy (by rw [ey]; exact hx) w hxw).mono fun e w' hp => ?_
            obtain ⟨u, rfl, hb⟩ := hp
            exact ⟨_, rfl, hb, fun G' => rep_tup2 (.int _ _) (.iface _ _ _ (.undef _))⟩
          · rename_i hx
            subst hnat
            have hv : v = .tup [.int .i64 (Lib.intSat 64 s), .iface T .undef] := by
              simp [result, resList, resOf, natSt, St.get, AV.nl, AV.view] at hres
              exact hres.symm
            subst hv
            refine ⟨trivial, fun G w vs hl hr hxw => ?_⟩
            obtain ⟨y, rfl, ey, hy⟩ := hargs G w vs hl hr
            refine (c3 y hy (by rw [ey]; exact hx) w hxw).mono fun e w' hp => ?_
            obtain ⟨u, rfl, hb⟩ := hp
            rw [ey]
            exact ⟨_, rfl, hb, fun G' => rep_tup2 (.int _ _) (.iface _ _ _ (.undef _))⟩
        · simp at h
      · simp at h
  · simp at h
end
end Go.Vm
