/- Chapter 51: what its functions compute. -/
import Derived.Test.YtdodnhbegabbpaaC51p
namespace Go.Vm.Ch51
open _root_.Ch51 (T51 c42 c28)
open Go.Vm.Stable
set_option maxRecDepth 10000
set_option maxHeartbeats 8000000
@[simp] theorem stK_if {T : FuncId → Option VF} {s : St} {is : List VI} {K : St → Prop} {d : Option Nat} {ix : Ix} {p : Prop} [Decidable p] {a : Option (List AV)} : stK T d is s K ix (if p then a else none) = (p ∧ stK T d is s K ix a) := by
  by_cases h : p <;> simp [h, stK]
@[simp] theorem st_int {z off : Nat} {cs : List AV} {k : IntKind} {n : Int} : stCells z off cs (.int k n) = if 1 = z ∧ off + z ≤ cs.length then some (cs.set off (.int k n)) else none := stCells_one rfl
theorem q59m {m : Mem} {A : List Bat} {N : Nat} (hN : N = A.length) (hmax : N < 1152921504606846976) :
    callL T51 59 [.row (.mem m.length) 0 N, .fn (.func 60) []] (m ++ [some (.cells false (rowc eb A))]) = some (.tup [], m ++ [some (.cells false (rowc eb (srt ltB A)))]) := by
  have h := q59 (m := m ++ [some (.cells false (rowc eb A))]) (ix := m.length) (by simp) hN hmax
  have e1 : mrow eb (m ++ [some (.cells false (rowc eb A))]) m.length A = m ++ [some (.cells false (rowc eb A))] := by unfold mrow; rw [snoc_set]
  have e2 : mrow eb (m ++ [some (.cells false (rowc eb A))]) m.length (srt ltB A) = m ++ [some (.cells false (rowc eb (srt ltB A)))] := by unfold mrow; rw [snoc_set]
  rw [e1, e2] at h; exact h
def BOK (b : Bat) : Prop := 0 ≤ b.arr ∧ b.arr ≤ 1000000000 ∧ 1 ≤ b.th ∧ b.th ≤ 1000000
def rmem (list : List Bat) (m : Mem) : Mem := if list = [] then m else m ++ [some (.cells false (rowc eb (srt ltB list)))]
theorem best_lt' (F : List Int) (k : Nat) (h : 0 < F.length) (hk : k ≤ F.length) : best F k < F.length := by
  rcases best_lt F k with h' | h' <;> omega
theorem getD_some {F : List Int} {k : Nat} (h : k < F.length) : F[k]? = some (F.getD k 0) := by
  rw [List.getD_eq_getElem?_getD, List.getElem?_eq_getElem h]; rfl
theorem q42 (xs ys : List Int) (nx ny : Bool) (pl : Nat) (list : List Bat) (hg : Good xs ys) (hp : 1 ≤ pl ∧ pl ≤ 1000) (hlen : list.length ≤ 1000) (hb : ∀ b ∈ list, BOK b) (m : Mem) :
    callL T51 42 [rv nx ny xs ys, AV.int IntKind.i64 pl, bv true list] m = some (sv (decide (list ≠ [])) (rackS xs ys pl list), rmem list m) := by
  have h58 := q58 list (by omega) m
  have ht : ∀ n, 0 ≤ tm xs ys n ∧ tm xs ys n ≤ 1000000 := fun n => tm_bounds0 hg n
  have hcap : (8 : Int) * pl ≤ 140737488355328 := by omega
  apply callL_body (vf := c42) rfl rfl
  by_cases hne : list = []
  · subst hne
    rw [if_pos rfl] at h58
    have hr : rackS xs ys pl [] = [] := rfl
    simp [c42, h58, q59e, hr, rmem]
    refine ⟨by omega, ?_⟩
    refine wp_loop (fun w s => s.get 24 = AV.int IntKind.i64 0 ∧ s.get 23 = AV.int IntKind.i64 0 ∧ s.get 9 = .vec none false [] ∧ s.mem = m) ?_ 0 _ ?_
    rotate_left
    · simp
    rintro w s ⟨e24, e23, e9, hm⟩
    simp [e24, e23, e9, hm, vv]
  rw [if_neg hne] at h58
  have hnn : 0 < list.length := List.length_pos_iff.2 hne
  have h59 := q59m (m := m) (A := list) (N := list.length) rfl (by omega)
  have hLl : (srt ltB list).length = list.length := srt_len swoB list
  have hLb : ∀ b ∈ srt ltB list, BOK b := fun b hbm => hb b (((stab_srt swoB list).2.1.mem swoB).2 hbm)
  have hr : rackS xs ys pl list = rackGo (tm xs ys) (List.replicate pl 0) (srt ltB list) := rfl
  rw [hr]
  have hrm : rmem list m = m ++ [some (.cells false (rowc eb (srt ltB list)))] := by unfold rmem; rw [if_neg hne]
  rw [hrm]
  generalize srt ltB list = L at *
  have hflat : (flat (List.replicate pl (AV.int .i64 0))).map AV.view = (List.replicate pl (0 : Int)).map (AV.int .i64) := by
    unfold flat
    clear hp hcap hr
    induction pl with
    | zero => rfl
    | succ k ih =>
      rw [List.replicate_succ, List.replicate_succ, List.flatMap_cons, List.map_append, ih]; rfl
  simp [c42, h58, h59, hne, hflat, -List.map_replicate]
  refine ⟨by omega, ?_⟩
  refine wp_loop (fun w s => ∃ i : Nat, w = L.length - i ∧ i ≤ L.length ∧ s.get 3 = .ptr (.loc 3 0) 0 ∧ s.loc 3 = [.cells false [iv nx xs, iv ny ys]] ∧ s.get 8 = .row (.loc 21 0) 0 pl ∧
    s.loc 21 = [.cells false ((freeA (tm xs ys) (List.replicate pl 0) (L.take i)).map (AV.int .i64))] ∧ s.get 22 = .row (.mem m.length) 0 L.length ∧ s.get 23 = AV.int IntKind.i64 L.length ∧ s.get 24 = AV.int IntKind.i64 i ∧ s.mem = m ++ [some (.cells false (rowc eb L))] ∧
    ((i = 0 ∧ s.get 9 = .vec none false []) ∨ (0 < i ∧ s.get 9 = vv (some 4) true (fun b => .agg (es b)) (rackGo (tm xs ys) (List.replicate pl 0) (L.take i))))) ?_ L.length _ ?_
  rotate_left
  · exact ⟨0, by simp, by simp, by simp, by simp, by simp, by simp [freeA], by simp [hLl], by simp [hLl], by simp, by simp, by simp⟩
  rintro w s ⟨i, hwl, hi, e3, l3, e8, l21, e22, e23, e24, hm, h9⟩
  by_cases h : i < L.length
  rotate_left
  · have hiL : i = L.length := by omega
    rcases h9 with ⟨h0, _⟩ | ⟨_, h9⟩
    · omega
    · subst hiL
      rw [List.take_length] at h9
      simp [e23, e24, hm, h9]
  have hbi := hLb _ (List.getElem_mem h)
  have hFl : (freeA (tm xs ys) (List.replicate pl 0) (L.take i)).length = pl := by rw [freeA_len]; simp
  have hFb := freeA_le (tm xs ys) ht (L.take i) (List.replicate pl 0) 0 (fun b hbm => by have := hLb b (List.mem_of_mem_take hbm); unfold BOK at this; omega) (fun x hx => by have := (List.mem_replicate.1 hx).2; omega)
  have hsn1 := rackGo_snoc (tm xs ys) L[i] (List.replicate pl 0) (L.take i)
  have hsn2 := freeA_snoc (tm xs ys) L[i] (List.replicate pl 0) (L.take i)
  rw [← List.take_succ_eq_append_getElem h] at hsn1 hsn2
  generalize hF : freeA (tm xs ys) (List.replicate pl 0) (L.take i) = F at *
  generalize hO : rackGo (tm xs ys) (List.replicate pl 0) (L.take i) = O at *
  have hOl : O.length = i := by rw [← hO, rackGo_len]; simp; omega
  have p1 := part_row els_eb (xs := L) (i := i) (v := L[i]) (List.getElem?_eq_getElem h)
  simp [e22, e23, e24, hm, h, p1, e8, -part_some]
  refine wp_loop (fun w s => ∃ (k : Nat) (os : List LObj), w = pl - k ∧ k ≤ pl ∧ s.get 3 = .ptr (.loc 3 0) 0 ∧ s.loc 3 = [.cells false [iv nx xs, iv ny ys]] ∧ s.get 8 = .row (.loc 21 0) 0 pl ∧ s.loc 21 = [.cells false (F.map (AV.int .i64))] ∧ s.get 22 = .row (.mem m.length) 0 L.length ∧ s.get 23 = AV.int IntKind.i64 L.length ∧ s.get 24 = AV.int IntKind.i64 i ∧ s.mem = m ++ [some (.cells false (rowc eb L))] ∧
    ((i = 0 ∧ s.get 9 = .vec none false []) ∨ (0 < i ∧ s.get 9 = vv (some 4) true (fun b => .agg (es b)) O)) ∧ s.get 11 = .ptr (.loc 11 os.length) 0 ∧ s.loc 11 = os ++ [.cells false (eb L[i])] ∧ s.get 28 = .row (.loc 21 0) 0 pl ∧ s.get 29 = AV.int IntKind.i64 pl ∧ s.get 30 = AV.int IntKind.i64 k ∧ s.get 12 = AV.int IntKind.i64 (best F k : Nat)) ?_ pl _ ?_
  rotate_left
  · exact ⟨0, s.loc 11, rfl, by omega, by simp [e3], by simp [l3], by simp [e8], by simp [l21], by simp [e22], by simp [e23], by simp [e24], by simp [hm], by simpa using h9, by simp, by simp, by simp, by simp, by simp, by simp [best]⟩
  clear e3 l3 e8 l21 e22 e23 e24 hm h9
  rintro w2 s ⟨k, os, hw2, hk, e3, l3, e8, l21, e22, e23, e24, hm, h9, e11, l11, e28, e29, e30, e12⟩
  have hbk := best_lt' F k (by omega) (by omega)
  have gb := getD_some hbk
  by_cases hkp : k < pl
  · have gk := getD_some (F := F) (k := k) (by omega)
    have w1 : W64 ((k : Int) + 1) ((k + 1 : Nat) : Int) := .mk' (by omega) (by omega) (by omega)
    have hbpl : best F k < pl := by omega
    have hnx : ∃ n', n' < w2 ∧ n' = pl - (k + 1) := ⟨_, by omega, rfl⟩
    obtain ⟨n', y1, y2⟩ := hnx
    by_cases hlt : F.getD k 0 < F.getD (best F k) 0
    · have hbs : best F (k + 1) = k := by rw [best, if_pos hlt]
      generalize F.getD k 0 = fk at *
      generalize F.getD (best F k) 0 = fb at *
      simp [e3, l3, e8, l21, e22, e23, e24, hm, e11, l11, e28, e29, e30, e12, hkp, gk, gb, hbpl, hlt, w1.eq, -Int.natCast_add]
      exact ⟨n', y1, k + 1, y2, by omega, h9, os, rfl, rfl, rfl, by rw [hbs]⟩
    · have hbs : best F (k + 1) = best F k := by rw [best, if_neg hlt]
      generalize F.getD k 0 = fk at *
      generalize F.getD (best F k) 0 = fb at *
      simp [e3, l3, e8, l21, e22, e23, e24, hm, e11, l11, e28, e29, e30, e12, hkp, gk, gb, hbpl, hlt, w1.eq, -Int.natCast_add]
      exact ⟨n', y1, k + 1, y2, by omega, h9, os, rfl, rfl, rfl, by rw [hbs]⟩
  · have hkl : k = F.length := by omega
    have hbpl : best F k < pl := by omega
    have hbF : F.getD (best F k) 0 ∈ F := List.mem_of_getElem? gb
    have hfb := hFb _ hbF
    have hil : (List.take i L).length = i := by simp; omega
    have h36 := q36 xs ys nx ny L[i].th hg ⟨hbi.2.2.1, hbi.2.2.2⟩ []
    have htb := ht L[i].th
    rw [← hkl] at hsn1 hsn2
    generalize hfr : max L[i].arr (F.getD (best F k) 0) = f at *
    have hmx : (if L[i].arr < F.getD (best F k) 0 then F.getD (best F k) 0 else L[i].arr) = f := by rw [← hfr]; split <;> omega
    have hf0 : 0 ≤ f ∧ f ≤ 3000000000 := by
      unfold BOK at hbi
      rw [hil] at hfb
      rw [← hfr]; omega
    generalize hT : tm xs ys L[i].th = t at *
    have w1 : W64 (f + t) (f + t) := .mk' (by omega) (by omega) rfl
    have w2' : W64 ((i : Int) + 1) ((i + 1 : Nat) : Int) := .mk' (by omega) (by omega) (by omega)
    generalize hP : best F k = P at *
    have hnx : ∃ n', n' < w ∧ n' = L.length - (i + 1) := ⟨_, by omega, rfl⟩
    obtain ⟨n', y1, y2⟩ := hnx
    have hPF : P < F.length := by omega
    have hPF1 : P + 1 ≤ F.length := hPF
    have hFP : F.getD P 0 = F[P] := by rw [List.getElem?_eq_getElem hPF] at gb; exact (Option.some.inj gb).symm
    rw [hFP] at hmx
    rcases h9 with ⟨hi0, e9⟩ | ⟨hi0, e9⟩
    · have hO0 : O = [] := List.length_eq_zero_iff.1 (by omega)
      subst hO0
      simp [e3, l3, e8, l21, e22, e23, e24, hm, e9, e11, l11, e28, e29, e30, e12, hkp, hbpl, h36, hmx, w1.eq, w2'.eq, hPF, hPF1, -Int.natCast_add]
      exact ⟨n', y1, i + 1, y2, by omega, by rw [hsn2, List.map_set], rfl, by omega, by rw [hsn1]; rfl⟩
    · simp [e3, l3, e8, l21, e22, e23, e24, hm, e9, e11, l11, e28, e29, e30, e12, hkp, hbpl, h36, hmx, w1.eq, w2'.eq, hPF, hPF1, -Int.natCast_add]
      exact ⟨by omega, n', y1, i + 1, y2, by omega, by rw [hsn2, List.map_set], rfl, by omega, by rw [hsn1, vv, List.map_append]; rfl⟩
theorem flat_zero (pl : Nat) : (flat (List.replicate pl (AV.int .i64 0))).map AV.view = (List.replicate pl (0 : Int)).map (AV.int .i64) := by
  unfold flat
  induction pl with
  | zero => rfl
  | succ k ih =>
    rw [List.replicate_succ, List.replicate_succ, List.flatMap_cons, List.map_append, ih]; rfl
theorem q28 (xs ys : List Int) (nx ny nn : Bool) (pl : Nat) (list : List Bat) (hg : Good xs ys) (hp : 1 ≤ pl ∧ pl ≤ 1000) (hlen : list.length ≤ 1000) (hb : ∀ b ∈ list, BOK b) (m : Mem) :
    callL T51 28 [rv nx ny xs ys, AV.int IntKind.i64 pl, bv nn list] m = some (sv true (rackS xs ys pl list), m) := by
  have h44 := q44 list nn (by omega) []
  have ht : ∀ n, 0 ≤ tm xs ys n ∧ tm xs ys n ≤ 1000000 := fun n => tm_bounds0 hg n
  have hcap : (8 : Int) * pl ≤ 140737488355328 := by omega
  apply callL_body (vf := c28) rfl rfl
  have hLl : (srt ltB list).length = list.length := srt_len swoB list
  have hLb : ∀ b ∈ srt ltB list, BOK b := fun b hbm => hb b (((stab_srt swoB list).2.1.mem swoB).2 hbm)
  have hr : rackS xs ys pl list = rackGo (tm xs ys) (List.replicate pl 0) (srt ltB list) := rfl
  rw [hr]
  generalize srt ltB list = L at *
  simp [c28, h44, flat_zero, -List.map_replicate]
  refine ⟨by omega, ?_⟩
  refine wp_loop (fun w s => ∃ i : Nat, w = L.length - i ∧ i ≤ L.length ∧ s.get 1 = AV.int IntKind.i64 pl ∧ s.get 3 = .ptr (.loc 3 0) 0 ∧ s.loc 3 = [.cells false [iv nx xs, iv ny ys]] ∧ s.get 8 = .row (.loc 16 0) 0 pl ∧
    s.loc 16 = [.cells false ((freeA (tm xs ys) (List.replicate pl 0) (L.take i)).map (AV.int .i64))] ∧ s.get 9 = bv true L ∧ s.get 10 = AV.int IntKind.i64 i ∧ s.mem = m ∧
    s.get 7 = vv (some 4) true (fun b => .agg (es b)) (rackGo (tm xs ys) (List.replicate pl 0) (L.take i))) ?_ L.length _ ?_
  rotate_left
  · exact ⟨0, by simp, by simp, by simp, by simp, by simp, by simp, by simp [freeA], by simp, by simp, by simp, by simp [rackGo, vv]⟩
  rintro w s ⟨i, hwl, hi, e1, e3, l3, e8, l16, e9, e10, hm, e7⟩
  by_cases h : i < L.length
  rotate_left
  · have hiL : i = L.length := by omega
    subst hiL
    rw [List.take_length] at e7
    simp [e9, e10, hm, e7]
  have hbi := hLb _ (List.getElem_mem h)
  have hFl : (freeA (tm xs ys) (List.replicate pl 0) (L.take i)).length = pl := by rw [freeA_len]; simp
  have hFb := freeA_le (tm xs ys) ht (L.take i) (List.replicate pl 0) 0 (fun b hbm => by have := hLb b (List.mem_of_mem_take hbm); unfold BOK at this; omega) (fun x hx => by have := (List.mem_replicate.1 hx).2; omega)
  have hsn1 := rackGo_snoc (tm xs ys) L[i] (List.replicate pl 0) (L.take i)
  have hsn2 := freeA_snoc (tm xs ys) L[i] (List.replicate pl 0) (L.take i)
  rw [← List.take_succ_eq_append_getElem h] at hsn1 hsn2
  generalize hF : freeA (tm xs ys) (List.replicate pl 0) (L.take i) = F at *
  generalize hO : rackGo (tm xs ys) (List.replicate pl 0) (L.take i) = O at *
  have hOl : O.length = i := by rw [← hO, rackGo_len]; simp; omega
  simp [e9, e10, h]
  refine wp_loop (fun w s => ∃ k : Nat, w = pl - k ∧ 1 ≤ k ∧ k ≤ pl ∧ s.get 1 = AV.int IntKind.i64 pl ∧ s.get 3 = .ptr (.loc 3 0) 0 ∧ s.loc 3 = [.cells false [iv nx xs, iv ny ys]] ∧ s.get 8 = .row (.loc 16 0) 0 pl ∧ s.loc 16 = [.cells false (F.map (AV.int .i64))] ∧ s.get 9 = bv true L ∧ s.get 10 = AV.int IntKind.i64 i ∧ s.mem = m ∧
    s.get 7 = vv (some 4) true (fun b => .agg (es b)) O ∧ s.get 12 = AV.int IntKind.i64 k ∧ s.get 11 = AV.int IntKind.i64 (best F k : Nat)) ?_ (pl - 1) _ ?_
  rotate_left
  · exact ⟨1, rfl, by omega, by omega, by simp [e1], by simp [e3], by simp [l3], by simp [e8], by simp [l16], by simp [e9], by simp [e10], by simp [hm], by simp [e7], by simp, by simp [best]⟩
  clear e1 e3 l3 e8 l16 e9 e10 hm e7
  rintro w2 s ⟨k, hw2, hk1, hk, e1, e3, l3, e8, l16, e9, e10, hm, e7, e12, e11⟩
  have hbk := best_lt' F k (by omega) (by omega)
  have gb := getD_some hbk
  by_cases hkp : k < pl
  · have gk := getD_some (F := F) (k := k) (by omega)
    have w1 : W64 ((k : Int) + 1) ((k + 1 : Nat) : Int) := .mk' (by omega) (by omega) (by omega)
    have hbpl : best F k < pl := by omega
    have hnx : ∃ n', n' < w2 ∧ n' = pl - (k + 1) := ⟨_, by omega, rfl⟩
    obtain ⟨n', y1, y2⟩ := hnx
    by_cases hlt : F.getD k 0 < F.getD (best F k) 0
    · have hbs : best F (k + 1) = k := by rw [best, if_pos hlt]
      generalize F.getD k 0 = fk at *
      generalize F.getD (best F k) 0 = fb at *
      simp [e1, e3, l3, e8, l16, e9, e10, hm, e7, e12, e11, hkp, gk, gb, hbpl, hlt, w1.eq, -Int.natCast_add]
      exact ⟨n', y1, k + 1, y2, by omega, by omega, rfl, by rw [hbs]⟩
    · have hbs : best F (k + 1) = best F k := by rw [best, if_neg hlt]
      generalize F.getD k 0 = fk at *
      generalize F.getD (best F k) 0 = fb at *
      simp [e1, e3, l3, e8, l16, e9, e10, hm, e7, e12, e11, hkp, gk, gb, hbpl, hlt, w1.eq, -Int.natCast_add]
      exact ⟨n', y1, k + 1, y2, by omega, by omega, rfl, by rw [hbs]⟩
  · have hkl : k = F.length := by omega
    have hbpl : best F k < pl := by omega
    have hbF : F.getD (best F k) 0 ∈ F := List.mem_of_getElem? gb
    have hfb := hFb _ hbF
    have hil : (List.take i L).length = i := by simp; omega
    have h21 := q21 xs ys nx ny L[i].th hg ⟨hbi.2.2.1, hbi.2.2.2⟩ []
    have htb := ht L[i].th
    rw [← hkl] at hsn1 hsn2
    generalize hfr : max L[i].arr (F.getD (best F k) 0) = f at *
    have hmx : (if L[i].arr < F.getD (best F k) 0 then F.getD (best F k) 0 else L[i].arr) = f := by rw [← hfr]; split <;> omega
    have hf0 : 0 ≤ f ∧ f ≤ 3000000000 := by
      unfold BOK at hbi
      rw [hil] at hfb
      rw [← hfr]; omega
    generalize hT : tm xs ys L[i].th = t at *
    have w1 : W64 (f + t) (f + t) := .mk' (by omega) (by omega) rfl
    have w2' : W64 ((i : Int) + 1) ((i + 1 : Nat) : Int) := .mk' (by omega) (by omega) (by omega)
    generalize hP : best F k = P at *
    have hnx : ∃ n', n' < w ∧ n' = L.length - (i + 1) := ⟨_, by omega, rfl⟩
    obtain ⟨n', y1, y2⟩ := hnx
    have hPF : P < F.length := by omega
    have hPF1 : P + 1 ≤ F.length := hPF
    have hFP : F.getD P 0 = F[P] := by rw [List.getElem?_eq_getElem hPF] at gb; exact (Option.some.inj gb).symm
    rw [hFP] at hmx
    simp [e1, e3, l3, e8, l16, e9, e10, hm, e7, e12, e11, hkp, hbpl, h, gi_nat h, h21, hmx, w1.eq, w2'.eq, hPF, hPF1, -Int.natCast_add]
    exact ⟨by omega, n', y1, i + 1, y2, by omega, by rw [hsn2, List.map_set], rfl, by rw [hsn1, vv, List.map_append]; rfl⟩
end Go.Vm.Ch51
