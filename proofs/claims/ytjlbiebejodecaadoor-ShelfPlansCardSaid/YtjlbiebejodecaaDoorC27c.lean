/- Chapter 27: what its functions compute. -/
import Derived.Test.YtjlbiebejodecaaDoorC27b
import Derived.Test.YtjlbiebejodecaaDoorVH
namespace Go.Vm.Ch27
open _root_.Ch27 (T27 c13 c15 c16 c17 c18 c19 c45 c46 c47 c48 c49 c70)
open Go.Vm.Stable
set_option maxRecDepth 10000
set_option maxHeartbeats 4000000
theorem q15 (xs : List Prt) (nn : Bool) (hlen : xs.length ≤ 1000000) (m : Mem) : callL T27 15 [pv nn xs] m = some (pv true xs, m) := by
  apply callL_body (vf := c15) rfl rfl
  simp [c15]
  refine wp_loop (fun w s => ∃ i : Nat, w = xs.length - i ∧ i ≤ xs.length ∧ s.get 0 = pv nn xs ∧ s.get 3 = vv (some 3) true (fun b => .agg (ep b)) (xs.take i) ∧ s.get 4 = AV.int IntKind.i64 i ∧ s.mem = m) ?_ xs.length _ ?_
  rotate_left
  · exact ⟨0, by simp, by simp, by simp, by simp [vv], by simp, by simp⟩
  rintro w s ⟨i, hn, hi, h0, h3, h4, hm⟩
  have w1 : IntKind.wrap .i64 ((i : Int) + 1) = (i : Int) + 1 := wrap64 (by omega) (by omega)
  simp [h0, h3, h4, hm, w1, ep, Nat.min_eq_left hi]
  refine ⟨fun h => ⟨h, ?_⟩, fun h => ?_⟩
  · simp only [gi_nat h]
    refine ⟨by omega, xs.length - (i + 1), by omega, i + 1, rfl, by omega, ?_, by omega⟩
    exact vv_snoc (e := fun b => .agg (ep b)) h
  · have : i = xs.length := by omega
    subst this
    simp; rfl
theorem q13 (xs : List Prt) (nn : Bool) (n : Int) (hlen : (xs.length : Int) ≤ 9223372036854775807) (m : Mem) : callL T27 13 [pv nn xs, AV.int IntKind.i64 n] m = some (.bool (decide (xs.length ≤ n ∧ ∀ b ∈ xs, b.name.length ≤ 60)), m) := by
  apply callL_body (vf := c13) rfl rfl
  simp [c13]
  refine ⟨fun h => by omega, fun h => ?_⟩
  refine wp_loop (fun w s => ∃ i : Nat, w = xs.length - i ∧ i ≤ xs.length ∧ s.get 0 = pv nn xs ∧ s.get 5 = AV.int IntKind.i64 i ∧ s.mem = m ∧ ∀ j (h : j < xs.length), j < i → xs[j].name.length ≤ 60) ?_ xs.length _ ?_
  rotate_left
  · exact ⟨0, by simp⟩
  rintro w s ⟨i, hn, hi, h0, h5, hm, hbef⟩
  simp [h0, h5, hm, ep]
  refine ⟨fun h => ⟨h, ?_⟩, fun h => ?_⟩
  · have w1 : IntKind.wrap .i64 ((i : Int) + 1) = (i : Int) + 1 := wrap64 (by omega) (by omega)
    rw [gi_nat h, w1]
    refine ⟨fun hl => ?_, fun hl => ⟨xs.length - (i + 1), by omega, i + 1, rfl, by omega, by omega, fun j hj hlt => ?_⟩⟩
    · intro _
      exact ⟨_, List.getElem_mem h, by omega⟩
    · by_cases e : j = i
      · subst e; omega
      · exact hbef j hj (by omega)
  · refine ⟨by omega, fun b hb => ?_⟩
    obtain ⟨j, hj, rfl⟩ := List.getElem_of_mem hb
    exact hbef j hj (by omega)
theorem q70 (t : Int) (m : Mem) : callL T27 70 [AV.int IntKind.i64 t] m = some (.bool false, m) := by
  apply callL_body (vf := c70) rfl rfl
  simp [c70]
def cmpI (a b : Int) : Int := if a < b then -1 else if b < a then 1 else 0
theorem q48 (a b : Int) (m : Mem) : callL T27 48 [AV.int IntKind.i64 a, AV.int IntKind.i64 b] m = some (AV.int IntKind.i64 (cmpI a b), m) := by
  apply callL_body (vf := c48) rfl rfl
  unfold cmpI
  by_cases h1 : a < b
  · simp [c48, q70, h1]
  · by_cases h2 : b < a <;> simp [c48, q70, h1, h2]
def fstNZ : List Int → Int
  | [] => 0
  | z :: r => if z = 0 then fstNZ r else z
theorem q47 (zs : List Int) (nn : Bool) (hlen : (zs.length : Int) < 4611686018427387904) (m : Mem) : callL T27 47 [iv nn zs] m = some (AV.int IntKind.i64 (fstNZ zs), m) := by
  apply callL_body (vf := c47) rfl rfl
  simp [c47]
  refine wp_loop (fun w s => ∃ i : Nat, w = zs.length - i ∧ i ≤ zs.length ∧ s.get 6 = iv nn zs ∧ s.get 3 = AV.int IntKind.i64 0 ∧ s.get 7 = AV.int IntKind.i64 zs.length ∧ s.get 8 = AV.int IntKind.i64 i ∧ s.mem = m ∧ fstNZ zs = fstNZ (zs.drop i)) ?_ zs.length _ ?_
  rotate_left
  · exact ⟨0, by simp⟩
  rintro w s ⟨i, hn, hi, e6, e3, e7, e8, hm, hbef⟩
  have w1 : IntKind.wrap .i64 ((i : Int) + 1) = (i : Int) + 1 := wrap64 (by omega) (by omega)
  by_cases h : i < zs.length
  · have hd : zs.drop i = zs[i] :: zs.drop (i + 1) := by simp
    rw [hd, fstNZ] at hbef
    by_cases hz : zs[i] = 0
    · rw [if_pos hz] at hbef
      simp [e6, e3, e7, e8, hm, h, gi_nat h, hz, w1]
      exact ⟨zs.length - (i + 1), by omega, i + 1, rfl, by omega, rfl, hbef⟩
    · rw [if_neg hz] at hbef
      simp [e6, e3, e7, e8, hm, h, gi_nat h, hz, hbef]
  · have he : i = zs.length := by omega
    subst he
    simp [fstNZ] at hbef
    simp [e3, e7, e8, hm, hbef]
/-- How two parts stand in the order. -/
def cmpx (P : List Prt) (x y : Int) : Int := fstNZ [cmpI (gi P y).h (gi P x).h, cmpI (gi P y).w (gi P x).w]
theorem q46 (P : List Prt) (nn : Bool) (x y : Int) (hx : 0 ≤ x ∧ x < P.length) (hy : 0 ≤ y ∧ y < P.length) (m : Mem) : callL T27 46 [AV.int IntKind.i64 x, AV.int IntKind.i64 y, .vptr [pv nn P] 0] m = some (AV.int IntKind.i64 (cmpx P x y), m) := by
  have h47 := q47 [cmpI (gi P y).h (gi P x).h, cmpI (gi P y).w (gi P x).w] true (by simp) []
  apply callL_body (vf := c46) rfl rfl
  simp [vv] at h47
  simp [c46, hx, hy, q48, h47, cmpx]
def ltx (P : List Prt) (x y : Int) : Bool := decide ((gi P y).h < (gi P x).h ∨ (gi P x).h = (gi P y).h ∧ (gi P y).w < (gi P x).w)
theorem ltx_cmp (P : List Prt) (x y : Int) : decide (cmpx P x y < 0) = ltx P x y := by
  unfold cmpx ltx cmpI
  congr 1
  rw [eq_iff_iff]
  by_cases h1 : (gi P y).h < (gi P x).h
  · simp [h1, fstNZ]
  · by_cases h2 : (gi P x).h < (gi P y).h
    · have : ¬ (gi P x).h = (gi P y).h := by omega
      simp [h1, h2, fstNZ, this]
    · have : (gi P x).h = (gi P y).h := by omega
      by_cases h3 : (gi P y).w < (gi P x).w
      · simp [fstNZ, this, h3]
      · by_cases h4 : (gi P x).w < (gi P y).w <;> simp [fstNZ, this, h3, h4]
abbrev Px (P : List Prt) := { z : Int // 0 ≤ z ∧ z < P.length }
abbrev cmpS (P : List Prt) (x y : Px P) : Int := cmpx P x.1 y.1
theorem swoS (P : List Prt) : SWO (ltc (cmpS P)) := by
  refine ⟨fun x y => ?_, fun x y z => ?_⟩
  · unfold ltc cmpS; rw [ltx_cmp, ltx_cmp]; unfold ltx; simp; omega
  · unfold ltc cmpS; rw [ltx_cmp, ltx_cmp, ltx_cmp]; unfold ltx; simp; omega
def eS {P : List Prt} (x : Px P) : List AV := [AV.int IntKind.i64 x.1]
theorem elwS {P : List Prt} : Elw none (eS (P := P)) (fun x => AV.int IntKind.i64 x.1) 1 :=
  { len := fun _ => rfl
    view := fun _ => rfl
    one := fun _ => rfl
    vw := fun _ => rfl
    nl := fun _ => rfl
    tk := fun _ _ _ => rfl
    get := fun cs o x h h2 => by
      have hl : o < cs.length := by omega
      rw [List.drop_eq_getElem_cons hl] at h2
      simp only [List.take_succ_cons, List.take_zero, eS, List.cons.injEq, and_true] at h2
      simp [hl, h2]
    put := fun cs o x h => by
      have hl : o < cs.length := by omega
      rw [stCells_one rfl, if_pos ⟨rfl, h⟩]
      simp only [eS, putCells, List.length_cons, List.length_nil, Nat.zero_add]
      rw [List.set_eq_take_append_cons_drop, if_pos hl]
      simp }
/-- The indices of the parts. -/
def ixs (P : List Prt) : List (Px P) := (List.range P.length).attach.map fun i => ⟨(i.1 : Int), by omega, by have := List.mem_range.1 i.2; omega⟩
theorem ixs_val (P : List Prt) : (ixs P).map (·.1) = (List.range P.length).map fun i : Nat => (i : Int) := by
  unfold ixs
  rw [List.map_map]
  show (List.range P.length).attach.map (fun i => ((i.1 : Nat) : Int)) = _
  simp
theorem ixs_len (P : List Prt) : (ixs P).length = P.length := by simp [ixs]
/-- The order of the parts. -/
def ord (P : List Prt) : List Int := (srt (ltc (cmpS P)) (ixs P)).map (·.1)
theorem ord_len (P : List Prt) : (ord P).length = P.length := by simp [ord, srt_len (swoS P), ixs_len]
theorem rowc_eS {P : List Prt} (xs : List (Px P)) : rowc eS xs = (xs.map (·.1)).map (AV.int .i64) := by
  unfold rowc eS
  induction xs with
  | nil => rfl
  | cons x r ih => simp at ih ⊢; exact ih
theorem q45 {P : List Prt} {nn : Bool} {m : Mem} {ix : Nat} (hix : ix < m.length) {A : List (Px P)} {N : Nat} (hN : N = A.length) (hmax : N < 1152921504606846976) :
    callL T27 45 [.row (.mem ix) 0 N, .fn (.func 46) [.vptr [pv nn P] 0]] (mrow eS m ix A) = some (.tup [], mrow eS m ix (srt (ltc (cmpS P)) A)) :=
  ct_sortStableG (ag := none) (wv := fun x => AV.int IntKind.i64 x.1) (f := 45) (ft := 69) (fi := 88) (fm := 89) (fr := 97) (fw := 101) (n := 1) rfl rfl rfl rfl rfl rfl elwS (swoS P) (fun x y => q46 P nn x.1 y.1 x.2 y.2 []) hix hN hmax
end Go.Vm.Ch27
