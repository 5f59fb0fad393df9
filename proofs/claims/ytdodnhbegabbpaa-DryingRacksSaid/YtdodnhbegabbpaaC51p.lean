/- Chapter 51: what its functions compute. -/
import Derived.Test.YtdodnhbegabbpaaC51l
import Derived.Test.YtdodnhbegabbpaaVH
namespace Go.Vm.Ch51
open _root_.Ch51 (T51 c58 c59 c60 c61 c42 c44)
open Go.Vm.Stable
set_option maxRecDepth 10000
set_option maxHeartbeats 4000000
def cmpI (a b : Int) : Int := if a < b then -1 else if b < a then 1 else 0
def cmpB (x y : Bat) : Int := cmpI x.arr y.arr
theorem q61 (a b : Int) (m : Mem) : callL T51 61 [AV.int IntKind.i64 a, AV.int IntKind.i64 b] m = some (AV.int IntKind.i64 (cmpI a b), m) := by
  apply callL_body (vf := c61) rfl rfl
  unfold cmpI
  by_cases h1 : a < b
  · simp [c61, q65, h1]
  · by_cases h2 : b < a <;> simp [c61, q65, h1, h2]
theorem q60 (x y : Bat) (m : Mem) : callL T51 60 [.agg (eb x), .agg (eb y)] m = some (AV.int IntKind.i64 (cmpB x y), m) := by
  apply callL_body (vf := c60) rfl rfl
  simp [c60, q61, cmpB]
theorem els_eb : Els eb 3 := ⟨fun _ => rfl, fun _ => rfl, fun _ => rfl⟩
abbrev ltB : Bat → Bat → Bool := ltc cmpB
theorem ltB_iff (x y : Bat) : ltB x y = decide (x.arr < y.arr) := by
  unfold ltB ltc cmpB cmpI
  congr 1
  by_cases h1 : x.arr < y.arr
  · simp [h1]
  · by_cases h2 : y.arr < x.arr <;> simp [h1, h2]
theorem swoB : SWO ltB := by
  refine ⟨fun x y => ?_, fun x y z => ?_⟩
  · rw [ltB_iff, ltB_iff]; simp; omega
  · rw [ltB_iff, ltB_iff, ltB_iff]; simp; omega
theorem q59 {m : Mem} {ix : Nat} (hix : ix < m.length) {A : List Bat} {N : Nat} (hN : N = A.length) (hmax : N < 1152921504606846976) :
    callL T51 59 [.row (.mem ix) 0 N, .fn (.func 60) []] (mrow eb m ix A) = some (.tup [], mrow eb m ix (srt ltB A)) :=
  ct_sortStable (f := 59) (ft := 69) (fi := 71) (fm := 72) (fr := 74) (fw := 75) (n := 3) rfl rfl rfl rfl rfl rfl els_eb swoB (fun x y => q60 x y []) hix hN hmax
theorem elems_vv {α : Type} {e : α → List AV} {n : Nat} (he : Els e n) {o : Option Nat} {nn : Bool} {xs : List α} : elems? n (vv o nn (fun x => .agg (e x)) xs) = some (xs.map fun x => .agg (e x)) := by
  rw [vv, elems_vec, if_pos]
  rw [List.all_eq_true]
  intro x hx
  obtain ⟨y, -, rfl⟩ := List.mem_map.1 hx
  have h1 : (AV.agg (e y)).cells = e y := rfl
  rw [h1]
  simp [he.len, he.one y, -List.all_eq_true]
theorem flat_vv {α : Type} {e : α → List AV} {n : Nat} (he : Els e n) (xs : List α) : (flat (xs.map fun x => .agg (e x))).map AV.view = rowc e xs := by
  unfold flat rowc
  rw [List.flatMap_map, List.map_flatMap]
  congr 1
  funext x
  exact he.view x
@[simp] theorem view_aggs {α : Type} {e : α → List AV} (xs : List α) : (xs.map fun x => AV.agg (e x)).map AV.view = xs.map fun x => .agg (e x) := by simp
theorem view_comp {α : Type} {e : α → List AV} : (AV.view ∘ fun b => AV.agg (e b)) = fun b => .agg (e b) := rfl
theorem q58 (xs : List Bat) (hlen : xs.length ≤ 1000000) (m : Mem) : callL T51 58 [bv true xs] m = some (if xs = [] then (.vec none true [], m) else (.row (.mem m.length) 0 xs.length, m ++ [some (.cells false (rowc eb xs))])) := by
  by_cases hne : xs = []
  · rw [if_pos hne]
    apply callL_body (vf := c58) rfl rfl
    subst hne
    simp [c58, elems_vv els_eb]
  · rw [if_neg hne]
    apply callL_body (vf := c58) rfl rfl
    simp [c58, elems_vv els_eb, flat_vv els_eb, hne]
    omega
theorem q59e (m : Mem) : callL T51 59 [.vec none true [], .fn (.func 60) []] m = some (.tup [], m) := by
  have h71 : callL T51 71 [.vec none true [], AV.int IntKind.i64 0, AV.int IntKind.i64 0, .fn (.func 60) []] m = some (.tup [], m) := by
    apply callL_body (vf := _root_.Ch51.c71) rfl rfl
    have w1 : IntKind.wrap .i64 (0 + 1) = 1 := wrap64 (by omega) (by omega)
    simp [_root_.Ch51.c71]
    refine wp_loop (fun w s => s.get 8 = AV.int IntKind.i64 1 ∧ s.get 2 = AV.int IntKind.i64 0 ∧ s.mem = m) ?_ 0 _ ?_
    rotate_left
    · simp; rfl
    rintro w s ⟨e8, e2, hm⟩
    simp [e8, e2, hm]
  have h69 : callL T51 69 [.vec none true [], AV.int IntKind.i64 0, .fn (.func 60) []] m = some (.tup [], m) := by
    apply callL_body (vf := _root_.Ch51.c69) rfl rfl
    simp [_root_.Ch51.c69]
    refine wp_loop (fun w s => s.get 0 = .vec none true [] ∧ s.get 1 = AV.int IntKind.i64 0 ∧ s.get 2 = .fn (.func 60) [] ∧ s.get 6 = AV.int IntKind.i64 20 ∧ s.get 7 = AV.int IntKind.i64 0 ∧ s.get 8 = AV.int IntKind.i64 20 ∧ s.mem = m) ?_ 0 _ ?_
    rotate_left
    · simp
    rintro w s ⟨e0, e1, e2, e6, e7, e8, hm⟩
    simp [e0, e1, e2, e7, e8, hm, h71]
    refine wp_loop (fun w s => s.get 1 = AV.int IntKind.i64 0 ∧ s.get 6 = AV.int IntKind.i64 20 ∧ s.mem = m) ?_ 0 _ ?_
    rotate_left
    · simp [e1, e6]
    rintro w s ⟨e1, e6, hm⟩
    simp [e1, e6, hm]
  apply callL_body (vf := c59) rfl rfl
  simp [c59, h69]
theorem srt_take {i : Nat} {xs : List Bat} (h : i < xs.length) : xs.take (i + 1) = xs.take i ++ [xs[i]] := List.take_succ_eq_append_getElem h
/-- The reference's order. -/
theorem q44 (xs : List Bat) (nn : Bool) (hlen : xs.length ≤ 1000000) (m : Mem) : callL T51 44 [bv nn xs] m = some (bv true (srt ltB xs), m) := by
  apply callL_body (vf := c44) rfl rfl
  simp [c44]
  refine wp_loop (fun w s => ∃ i : Nat, w = xs.length - i ∧ i ≤ xs.length ∧ s.get 0 = bv nn xs ∧ s.get 3 = vv (some 3) true (fun b => .agg (eb b)) (srt ltB (xs.take i)) ∧ s.get 4 = AV.int IntKind.i64 i ∧ s.mem = m) ?_ xs.length _ ?_
  rotate_left
  · exact ⟨0, by simp, by simp, by simp, by simp [vv, srt], by simp, by simp⟩
  rintro w s ⟨i, hn, hi, h0, h3, h4, hm⟩
  by_cases h : i < xs.length
  rotate_left
  · have : i = xs.length := by omega
    subst this
    rw [List.take_length] at h3
    simp [h0, h3, h4, hm]
  have w1 : W64 ((i : Int) + 1) ((i + 1 : Nat) : Int) := .mk' (by omega) (by omega) (by omega)
  have hst := stab_srt swoB (xs.take i)
  have hol := srt_len swoB (xs.take i)
  have hsn : ∀ B1 B2 : List Bat, srt ltB (xs.take i) = B1 ++ B2 → (∀ x ∈ B1, ltB xs[i] x = false) → (∀ x ∈ B2, ltB xs[i] x = true) → srt ltB (xs.take (i + 1)) = B1 ++ xs[i] :: B2 := fun B1 B2 e h1 h2 => by
    rw [srt_take h]
    exact srt_eq swoB (stab_insert swoB (by rw [← e]; exact hst) h1 h2)
  generalize srt ltB (xs.take i) = O at *
  have hOl : O.length = i := by rw [hol]; simp; omega
  simp [h0, h3, h4, hm, h]
  refine wp_loop (fun w s => ∃ B1 B2 : List Bat, O = B1 ++ B2 ∧ w = B1.length ∧ (∀ x ∈ B2, ltB xs[i] x = true) ∧ s.get 0 = bv nn xs ∧ s.get 3 = vv (some 3) true (fun b => .agg (eb b)) O ∧ s.get 4 = AV.int IntKind.i64 i ∧ s.get 5 = AV.int IntKind.i64 (B1.length : Nat) ∧ s.mem = m) ?_ O.length _ ?_
  rotate_left
  · exact ⟨O, [], by simp, rfl, by simp, by simp [h0], by simp [h3], by simp [h4], by simp, by simp [hm]⟩
  clear h0 h3 h4 hm
  rintro w2 s ⟨B1, B2, hO, hw2, hB2, h0, h3, h4, h5, hm⟩
  have hOl2 : O.length = B1.length + B2.length := by rw [hO]; simp
  have hdone : (∀ x ∈ B1, ltB xs[i] x = false) → ∃ n', n' < w ∧ ∃ i', n' = xs.length - i' ∧ i' ≤ xs.length ∧ AV.vec (some 3) true ((B1 ++ xs[i] :: B2).map fun b => .agg (eb b)) = vv (some 3) true (fun b => .agg (eb b)) (srt ltB (xs.take i')) ∧ i + 1 = i' := fun h1 => by
    refine ⟨xs.length - (i + 1), by omega, i + 1, rfl, by omega, ?_, rfl⟩
    rw [hsn B1 B2 hO h1 hB2]; rfl
  have htake : (O.take B1.length) = B1 := by rw [hO]; simp
  have hdrop : (O.drop B1.length) = B2 := by rw [hO]; simp
  have w4 : ∀ k : Nat, B1.length = k + 1 → W64 ((B1.length : Int) - 1) (k : Int) := fun k hk => .mk' (by omega) (by omega) (by omega)
  rcases snoc_cases B1 with rfl | ⟨B0, u, rfl⟩
  · obtain ⟨n', y1, i', y2, y3, y4, y5⟩ := hdone (by simp)
    simp only [List.nil_append, List.length_nil, List.map_cons] at y4 htake hdrop h5
    simp [h0, h3, h4, h5, hm, h, gi_nat h, elems_vv els_eb, htake, hdrop, view_comp, w1.eq, -Int.natCast_add]
    refine ⟨by omega, n', y1, i', y2, y3, y4, by rw [y5]⟩
  · have hl0 : (B0 ++ [u]).length = B0.length + 1 := by simp
    have w4' := w4 B0.length hl0
    have hbl : B0.length < O.length := by omega
    have hgu : O[B0.length] = u := by
      have : O[B0.length]? = some u := by rw [hO]; simp
      rw [List.getElem?_eq_getElem hbl] at this; exact Option.some.inj this
    have hpos : (0 : Int) < ((B0 ++ [u]).length : Nat) := by omega
    have hb0N : (B0.length : Int) < O.length := by omega
    by_cases hgt : xs[i].arr < u.arr
    · have hnx : ∃ n', n' < w2 ∧ ∃ B1' B2' : List Bat, O = B1' ++ B2' ∧ n' = B1'.length ∧ (∀ x ∈ B2', ltB xs[i] x = true) ∧ B0.length = B1'.length := by
        refine ⟨B0.length, by omega, B0, u :: B2, by rw [hO]; simp, rfl, fun x hx => ?_, rfl⟩
        rcases List.mem_cons.1 hx with rfl | hx
        · rw [ltB_iff]; simpa using hgt
        · exact hB2 x hx
      obtain ⟨n', y1, B1', B2', y2, y3, y4, y5⟩ := hnx
      have hposN : 0 < (B0 ++ [u]).length := by omega
      generalize (B0 ++ [u]).length = bl at *
      simp [h0, h3, h4, h5, hm, h, gi_nat h, gi_nat hbl, hgu, hposN, hb0N, w4'.eq, hgt, eb]
      exact ⟨n', y1, B1', B2', y2, y3, y4, by rw [y5]⟩
    · have h1 : ∀ x ∈ B0 ++ [u], ltB xs[i] x = false := by
        have hu : ltB xs[i] u = false := by rw [ltB_iff]; simpa using hgt
        intro x hx
        rcases List.mem_append.1 hx with hx | hx
        · have hs : Srt ltB (B0 ++ [u]) := Srt.left (B := B2) (by rw [← hO]; exact hst.1)
          exact le_le swoB (hs.cross x hx u (by simp)) hu
        · rw [List.mem_singleton.1 hx]; exact hu
      obtain ⟨n', y1, i', y2, y3, y4, y5⟩ := hdone h1
      have hposN : 0 < (B0 ++ [u]).length := by omega
      simp only [List.map_append, List.map_cons] at y4
      have hblO : (B0 ++ [u]).length ≤ O.length := by omega
      generalize hbl2 : (B0 ++ [u]).length = bl at *
      simp [h0, h3, h4, h5, hm, h, gi_nat h, gi_nat hbl, hgu, hposN, hb0N, w4'.eq, hgt, hblO, elems_vv els_eb, htake, hdrop, view_comp, w1.eq, -Int.natCast_add]
      refine ⟨by omega, by omega, by omega, n', y1, i', y2, y3, by rw [← y4]; simp, by rw [y5]⟩
/-- The first of the least places among the first k. -/
def best (free : List Int) : Nat → Nat
  | 0 => 0
  | k + 1 => if free.getD k 0 < free.getD (best free k) 0 then k else best free k
theorem best_lt (free : List Int) : ∀ k, best free k = 0 ∨ best free k < k
  | 0 => .inl rfl
  | k + 1 => by
    rw [best]
    split
    · exact .inr (by omega)
    · rcases best_lt free k with h | h
      · exact .inl h
      · exact .inr (by omega)
/-- The stays, one batch after the other; t: the drying time. -/
def rackGo (t : Int → Int) : List Int → List Bat → List Sta
  | _, [] => []
  | free, b :: bs =>
    let p := best free free.length
    let f := max b.arr (free.getD p 0)
    ⟨b.name, p, f, f + t b.th⟩ :: rackGo t (free.set p (f + t b.th)) bs
def rackS (xs ys : List Int) (places : Nat) (list : List Bat) : List Sta := rackGo (tm xs ys) (List.replicate places 0) (srt ltB list)
/-- The free minutes after some batches. -/
def freeA (t : Int → Int) : List Int → List Bat → List Int
  | free, [] => free
  | free, b :: bs =>
    let p := best free free.length
    freeA t (free.set p (max b.arr (free.getD p 0) + t b.th)) bs
theorem rackGo_snoc (t : Int → Int) (b : Bat) : ∀ (free : List Int) (bs : List Bat), rackGo t free (bs ++ [b]) = rackGo t free bs ++ [⟨b.name, best (freeA t free bs) (freeA t free bs).length, max b.arr ((freeA t free bs).getD (best (freeA t free bs) (freeA t free bs).length) 0), max b.arr ((freeA t free bs).getD (best (freeA t free bs) (freeA t free bs).length) 0) + t b.th⟩]
  | free, [] => by simp [rackGo, freeA]
  | free, c :: bs => by
    simp only [List.cons_append, rackGo, freeA]
    rw [rackGo_snoc t b _ bs]
theorem freeA_snoc (t : Int → Int) (b : Bat) : ∀ (free : List Int) (bs : List Bat), freeA t free (bs ++ [b]) = (freeA t free bs).set (best (freeA t free bs) (freeA t free bs).length) (max b.arr ((freeA t free bs).getD (best (freeA t free bs) (freeA t free bs).length) 0) + t b.th)
  | free, [] => by simp [freeA]
  | free, c :: bs => by
    simp only [List.cons_append, freeA]
    rw [freeA_snoc t b _ bs]
theorem freeA_len (t : Int → Int) : ∀ (bs : List Bat) (free : List Int), (freeA t free bs).length = free.length
  | [], _ => rfl
  | b :: bs, free => by simp [freeA, freeA_len t bs]
theorem rackGo_len (t : Int → Int) : ∀ (bs : List Bat) (free : List Int), (rackGo t free bs).length = bs.length
  | [], _ => rfl
  | b :: bs, free => by simp [rackGo, rackGo_len t bs]
/-- All free minutes stay small. -/
theorem freeA_le (t : Int → Int) (ht : ∀ n, 0 ≤ t n ∧ t n ≤ 1000000) : ∀ (bs : List Bat) (free : List Int) (c : Nat), (∀ b ∈ bs, 0 ≤ b.arr ∧ b.arr ≤ 1000000000) → (∀ x ∈ free, 0 ≤ x ∧ x ≤ 1000000000 + 1000000 * (c : Int)) → ∀ x ∈ freeA t free bs, 0 ≤ x ∧ x ≤ 1000000000 + 1000000 * ((c + bs.length : Nat) : Int)
  | [], free, c, _, hf => by simpa [freeA] using hf
  | b :: bs, free, c, hb, hf => by
    intro x hx
    rw [freeA] at hx
    have hb0 := hb b (by simp)
    have := freeA_le t ht bs _ (c + 1) (fun b' h => hb b' (by simp [h])) (fun y hy => by
      have hg : 0 ≤ free.getD (best free free.length) 0 ∧ free.getD (best free free.length) 0 ≤ 1000000000 + 1000000 * (c : Int) := by
        rw [List.getD_eq_getElem?_getD]
        cases he : free[best free free.length]? with
        | none => simp; omega
        | some z => simpa using hf z (List.mem_of_getElem? he)
      have := ht b.th
      rcases List.mem_or_eq_of_mem_set hy with h | h
      · have := hf y h; omega
      · rw [h]; omega) x hx
    simp only [List.length_cons]
    omega
end Go.Vm.Ch51
