/- Chapter 11: what its functions compute. -/
import Derived.Test.YtmlfcgmiaapffaaGreatDoorC11zp
import Derived.Test.YtmlfcgmiaapffaaGreatDoorVI
namespace Go.Vm.Ch11
open _root_.Ch11 (T11)
set_option maxRecDepth 10000
structure Ty11 (P : Program) : Prop where
  u2 : P.underlying 2 = some (.int .i64)
  u3 : P.underlying 3 = some (.int .i64)
  u4 : P.underlying 4 = some .bool
  u9 : P.underlying 9 = some .string
  u38 : P.underlying 38 = some (.slice 9)
  u22 : P.underlying 22 = some (.slice 72)
  u70 : P.underlying 70 = some (.slice 36)
  u72 : ∃ fs : Array Field, P.underlying 72 = some (.struct fs) ∧ fs.toList.map (fun f => f.type) = [70, 4, 22, 3]
  u36 : ∃ fs : Array Field, P.underlying 36 = some (.struct fs) ∧ fs.toList.map (fun f => f.type) = [3, 9, 2, 3]
variable {P : Program}
theorem hasT_int (H : Ty11 P) {n : Nat} {cs : List AV} (h : HasT P n 3 cs) : ∃ i, cs = [AV.int .i64 i] := by
  cases n with
  | zero => exact h.elim
  | succ n =>
    simp only [HasT, H.u3] at h
    obtain ⟨i, rfl, _⟩ := h
    exact ⟨i, rfl⟩
theorem hasT_int2 (H : Ty11 P) {n : Nat} {cs : List AV} (h : HasT P n 2 cs) : ∃ i, cs = [AV.int .i64 i] ∧ inI i := by
  cases n with
  | zero => exact h.elim
  | succ n =>
    simp only [HasT, H.u2] at h
    obtain ⟨i, rfl, h1, h2⟩ := h
    exact ⟨i, rfl, h1, h2⟩
theorem hasT_bool (H : Ty11 P) {n : Nat} {cs : List AV} (h : HasT P n 4 cs) : ∃ b, cs = [.bool b] := by
  cases n with
  | zero => exact h.elim
  | succ n =>
    simp only [HasT, H.u4] at h
    exact h
theorem hasT_str (H : Ty11 P) {n : Nat} {cs : List AV} (h : HasT P n 9 cs) : ∃ s, cs = [.str s] := by
  cases n with
  | zero => exact h.elim
  | succ n =>
    simp only [HasT, H.u9] at h
    obtain ⟨s, rfl, _⟩ := h
    exact ⟨s, rfl⟩
theorem hasT_fields {n : Nat} {t a b c d : TypeId} {cs : List AV} (hu : ∃ fs : Array Field, P.underlying t = some (.struct fs) ∧ fs.toList.map (fun f => f.type) = [a, b, c, d]) (h : HasT P n t cs) :
    ∃ n' c0 c1 c2 c3, n = n' + 1 ∧ cs = c0 ++ (c1 ++ (c2 ++ c3)) ∧ HasT P n' a c0 ∧ HasT P n' b c1 ∧ HasT P n' c c2 ∧ HasT P n' d c3 := by
  obtain ⟨fs, hu, hf⟩ := hu
  cases n with
  | zero => exact h.elim
  | succ n =>
    simp only [HasT, hu] at h
    obtain ⟨css, rfl, hl, hc⟩ := h
    have hfl : fs.toList.length = 4 := by
      have := congrArg List.length hf
      simpa using this
    rw [hfl] at hl
    match css, hl, hc with
    | [c0, c1, c2, c3], _, hc =>
      have get : ∀ (i : Nat) (t' : TypeId) (ci : List AV), [a, b, c, d][i]? = some t' → [c0, c1, c2, c3][i]? = some ci → HasT P n t' ci := by
        intro i t' ci ht hi
        rw [← hf, List.getElem?_map] at ht
        simp only [Option.map_eq_some_iff] at ht
        obtain ⟨f, hfi, rfl⟩ := ht
        exact hc i f ci hfi hi
      exact ⟨n, c0, c1, c2, c3, rfl, by simp, get 0 _ _ rfl rfl, get 1 _ _ rfl rfl, get 2 _ _ rfl rfl, get 3 _ _ rfl rfl⟩
theorem isSt {t : TypeId} {l : List TypeId} (hu : ∃ fs : Array Field, P.underlying t = some (.struct fs) ∧ fs.toList.map (fun f => f.type) = l) : isStruct P t = true := by
  obtain ⟨fs, hu, _⟩ := hu
  simp [isStruct, hu]
def nOK (p : Tk) : Bool := decide (-9223372036854775808 ≤ p.n) && decide (p.n ≤ 9223372036854775807)
theorem hasT_toks (H : Ty11 P) {n : Nat} {cs : List AV} (h : HasT P n 70 cs) : ∃ nt T, cs = [vv none nt tv T] ∧ (nt = false → T = []) ∧ T.all nOK = true := by
  cases n with
  | zero => exact h.elim
  | succ n =>
    simp only [HasT, H.u70] at h
    obtain ⟨nn, xs, rfl, hnn, _, hx⟩ := h
    obtain ⟨zs, rfl, hz⟩ := els_map tv (fun p => nOK p = true) xs fun x hxm => by
      obtain ⟨es, rfl, he⟩ := hx x hxm
      rw [isSt H.u36]
      obtain ⟨n', c0, c1, c2, c3, rfl, rfl, h0, h1, h2, h3⟩ := hasT_fields H.u36 he
      obtain ⟨i0, rfl⟩ := hasT_int H h0
      obtain ⟨s1, rfl⟩ := hasT_str H h1
      obtain ⟨i2, rfl, hi2⟩ := hasT_int2 H h2
      obtain ⟨i3, rfl⟩ := hasT_int H h3
      exact ⟨⟨i0, s1, i2, i3⟩, rfl, by simp only [nOK, Bool.and_eq_true, decide_eq_true_eq]; exact hi2⟩
    exact ⟨nn, zs, rfl, fun hn => by simpa using hnn hn, List.all_eq_true.2 hz⟩
structure LA where
  nt : Bool
  T : List Tk
  h : Bool
  kv : AV
  K : List Ln
  a : Int
instance : Inhabited LA := ⟨⟨false, [], false, .undef, [], 0⟩⟩
def LA.cs (z : LA) : List AV := [vv none z.nt tv z.T, .bool z.h, z.kv, AV.int .i64 z.a]
def LA.ln (z : LA) : Ln := .mk z.T z.h z.K z.a
theorem allL_map {f : Tk → Bool} : ∀ {zs : List LA}, (∀ z ∈ zs, allN f z.ln = true) → allL f (zs.map LA.ln) = true
  | [], _ => rfl
  | z :: zs, h => by
    rw [List.map_cons, allL, h z (by simp), allL_map fun y hy => h y (List.mem_cons_of_mem _ hy)]
    rfl
theorem hasT_lines (H : Ty11 P) : ∀ (n : Nat) (cs : List AV), HasT P n 22 cs → ∃ K v, cs = [v] ∧ v.view = v ∧ TV [] 0 0 K v ∧ allL nOK K = true
  | 0, _, h => h.elim
  | n + 1, cs, h => by
    simp only [HasT, H.u22] at h
    obtain ⟨nn, xs, rfl, hnn, _, hx⟩ := h
    obtain ⟨zs, rfl, hz⟩ := els_map (fun z : LA => AV.agg z.cs) (fun z => (z.nt = false → z.T = []) ∧ z.kv.view = z.kv ∧ TV [] 0 0 z.K z.kv ∧ z.T.all nOK = true ∧ allL nOK z.K = true) xs fun x hxm => by
      obtain ⟨es, rfl, he⟩ := hx x hxm
      rw [isSt H.u72]
      obtain ⟨n', c0, c1, c2, c3, rfl, rfl, h0, h1, h2, h3⟩ := hasT_fields H.u72 he
      obtain ⟨nt, T, rfl, hT, hTn⟩ := hasT_toks H h0
      obtain ⟨b, rfl⟩ := hasT_bool H h1
      obtain ⟨K, kv, rfl, hv, hK, hKn⟩ := hasT_lines H n' _ h2
      obtain ⟨a, rfl⟩ := hasT_int H h3
      exact ⟨⟨nt, T, b, kv, K, a⟩, rfl, hT, hv, hK, hTn, hKn⟩
    have hgi : ∀ j, j < zs.length → gi (zs.map LA.ln) (j : Int) = (gi zs (j : Int)).ln := fun j hj => by
      rw [gi_nat hj, gi_nat (by simpa using hj)]
      simp
    have hmem : ∀ j, j < zs.length → gi zs (j : Int) ∈ zs := fun j hj => by rw [gi_nat hj]; exact List.getElem_mem _
    refine ⟨zs.map LA.ln, _, rfl, rfl, .mk _ _ (fun j => (gi zs (j : Int)).nt) (fun j => (gi zs (j : Int)).kv) (.inl ⟨nn, ?_, fun hn => ?_⟩) (fun j hj => ?_) fun j hj => ?_, ?_⟩
    · simp only [vv, List.length_map]
      congr 1
      apply List.ext_getElem
      · simp
      · intro j h1 h2
        have hj : j < zs.length := by simpa using h1
        simp only [List.getElem_map, List.getElem_range, hgi j hj]
        rw [← gi_nat hj]
        rfl
    · have := hnn hn
      simp at this
      subst this
      rfl
    · have hj : j < zs.length := by simpa using hj
      rw [hgi j hj]
      exact (hz _ (hmem j hj)).1
    · have hj : j < zs.length := by simpa using hj
      obtain ⟨-, h2, h3, -⟩ := hz _ (hmem j hj)
      rw [hgi j hj]
      simp only [h2]
      exact h3
    · exact allL_map fun z hzm => by
        obtain ⟨-, -, -, h4, h5⟩ := hz z hzm
        rw [LA.ln, allN, h4, h5]
        rfl
theorem argT_lines (H : Ty11 P) {a : AV} (h : ArgT P 22 a) : ∃ K, TV [] 0 0 K a ∧ allL nOK K = true := by
  obtain ⟨n, cs, rfl, h⟩ := h
  obtain ⟨K, v, rfl, _, hK, hn⟩ := hasT_lines H n cs h
  have : isStruct P 22 = false := by simp [isStruct, H.u22]
  rw [this]
  exact ⟨K, hK, hn⟩
end Go.Vm.Ch11
