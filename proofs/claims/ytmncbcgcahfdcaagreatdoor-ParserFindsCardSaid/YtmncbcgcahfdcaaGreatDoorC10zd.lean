/- Chapter 10: what its functions compute. -/
import Derived.Test.YtmncbcgcahfdcaaGreatDoorC10zc
namespace Go.Vm.Ch10
open _root_.Ch10 (T10 c16 c17)
set_option maxRecDepth 10000
set_option maxHeartbeats 16000000
/-! ### the lines that begin with a word -/
def pickF (w : List UInt8) (K : List Ln) : List Ln := K.filter fun x => decide (wordF x.toks = w)
theorem pick_yes {w : List UInt8} {K : List Ln} {x : Ln} (h : wordF x.toks = w) : pickF w (K ++ [x]) = pickF w K ++ [x] := by
  unfold pickF
  rw [List.filter_append]
  simp [h]
theorem pick_no {w : List UInt8} {K : List Ln} {x : Ln} (h : ¬ wordF x.toks = w) : pickF w (K ++ [x]) = pickF w K := by
  unfold pickF
  rw [List.filter_append]
  simp [h]
theorem pels_vec {m : Mem} {lo hi : Nat} {K : List Ln} {done : List (List AV)} (h : Pels m lo hi K done) : TV m lo hi K (ovn AV.agg done) := by
  obtain ⟨nt, kv, d1, d2, d3⟩ := h
  refine .mk K _ nt kv (.inl ⟨!done.isEmpty, by rw [d1], fun h => ?_⟩) d2 d3
  rw [← d1]
  simpa using h
/-- The elements of a slice that is an argument. -/
structure Els (K : List Ln) (v : AV) (es : List (List AV)) : Prop where
  el : ElSl 4 v [] es
  len : es.length = K.length
  at_ : ∀ j (h : j < es.length), ∃ nt kv, es[j] = [vv none nt tv (gi K (j : Int)).toks, .bool (gi K (j : Int)).head, kv, AV.int IntKind.i64 (gi K (j : Int)).at_] ∧ (nt = false → (gi K (j : Int)).toks = []) ∧ TV [] 0 0 (gi K (j : Int)).kids kv.view ∧ kv.one = true
theorem els_of {K : List Ln} {v : AV} (h : TV [] 0 0 K v) : ∃ nn es, v = vv none nn AV.agg es ∧ Els K v es ∧ ∀ m, ElSl 4 v m es := by
  obtain ⟨nn, nt, kf, rfl, hnn, hnt, hk⟩ := VT_inv h
  have h4 : ∀ e ∈ ((List.range K.length).map fun j => [vv none (nt j) tv (gi K (j : Int)).toks, .bool (gi K (j : Int)).head, kf j, AV.int IntKind.i64 (gi K (j : Int)).at_]), e.length = 4 := by
    intro e he
    obtain ⟨j, _, rfl⟩ := List.mem_map.1 he
    rfl
  refine ⟨nn, _, rfl, ⟨SlAt.el (m := []) (lo := 0) (hi := 0) (.inl ⟨nn, rfl, fun hn => by rw [hnn hn]; rfl⟩) h4, by simp, fun j hj => ?_⟩, fun m => SlAt.el (lo := 0) (hi := 0) (.inl ⟨nn, rfl, fun hn => by rw [hnn hn]; rfl⟩) h4⟩
  have hjk : j < K.length := by simpa using hj
  exact ⟨nt j, kf j, by simp, hnt j hjk, hk j hjk⟩
theorem take_succ {K : List Ln} {i : Nat} (h : i < K.length) : K.take (i + 1) = K.take i ++ [gi K (i : Int)] := by rw [gi_nat h, List.take_add_one, List.getElem?_eq_getElem h]; rfl
theorem q16 (K : List Ln) (v : AV) (w : List UInt8) (m : Mem) (hs : szL K ≤ 900) (hv : TV [] 0 0 K v) (hm0 : 0 < m.length) : ∃ r m', callL T10 16 [v, .str w] m = some (r, m') ∧ Cln (pickF w K) m r m' := by
  obtain ⟨nn, es, hvv, hE, hEm⟩ := els_of hv
  have hlK := szL_len K
  have hel := hE.len
  apply callL_exP (vf := c16) rfl rfl
  have he := hE.el
  simp [c16, he.view, he.len]
  refine wp_loop (fun n t => ∃ (i : Nat) (done : List (List AV)), n = K.length - i ∧ i ≤ K.length ∧ t.get 1 = .str w ∧ t.get 5 = ov 4 AV.agg done ∧ t.get 8 = v ∧ t.get 9 = AV.int IntKind.i64 (K.length : Nat) ∧ t.get 10 = AV.int IntKind.i64 (i : Nat) ∧ m.length ≤ t.mem.length ∧ (∀ j, j < m.length → t.mem[j]? = m[j]?) ∧ Pels t.mem (m.length - 1) t.mem.length (pickF w (K.take i)) done ∧ done.length ≤ i) ?_ K.length _ ?_
  rotate_left
  · refine ⟨0, [], ?_⟩
    simp [hel, ov, pickF]
    exact .nil
  rintro n t ⟨i, done, hn, hi, e1, e5, e8, e9, e10, hml, hfr, hP, hdl⟩
  by_cases hlt : i < K.length
  rotate_left
  · have hli : ¬ (i : Int) < K.length := by omega
    obtain rfl : i = K.length := by omega
    rw [List.take_length] at hP
    simp [e5, e8, e9, e10, hli]
    exact ⟨rfl, rfl, rfl, pels_vec hP, hml, hfr⟩
  have hli : (i : Int) < K.length := by omega
  have hie : i < es.length := by omega
  obtain ⟨M, hM⟩ : ∃ M, t.mem = M := ⟨_, rfl⟩
  rw [hM] at hml hfr hP
  obtain ⟨nt, kv, hx, hnt, hki, hone⟩ := hE.at_ i hie
  obtain ⟨pa, pa1, pa2, pa3, pa4, pa5, -⟩ := (hEm M).adr i hie
  rw [hx] at pa2
  have hTk := take_succ hlt
  have hsz := szL_get K i hlt
  rw [← gi_nat hlt] at hsz
  generalize gi K (i : Int) = x at *
  obtain ⟨T, h, K', a⟩ := x
  simp only [Ln.toks, Ln.head, Ln.kids, Ln.at_] at *
  rw [szN] at hsz
  have h14 := q14 T nt h kv.view a (by rw [one_view]; exact hone)
  have w1 : W64 ((i : Int) + 1) ((i + 1 : Nat) : Int) := .mkI rfl (by omega) (by omega)
  by_cases hw : wordF T = w
  · have hps := pick_yes (K := K.take i) (x := .mk T h K' a) hw
    rw [← hTk] at hps
    obtain ⟨kv', m', hc, c1, c2, c3, c4, c5, c6⟩ := q36 1000 T nt h K' kv.view a M (by omega) (by omega) hnt (by rw [view_view]; exact hki) (by rw [one_view]; exact hone) (by omega)
    simp [e1, e5, e8, e9, e10, hM, hli, pa1, pa2, hone, h14, hw, hc, c2, w1.eq, objCells, -Int.natCast_add]
    refine ⟨by omega, K.length - (i + 1), by omega, i + 1, rfl, by omega, done ++ [[vv none nt tv T, .bool h, kv', AV.int IntKind.i64 a]], ov_snoc (e := AV.agg) (x := [vv none nt tv T, .bool h, kv', AV.int IntKind.i64 a]), rfl, by omega, fun j hj => by rw [c6 j (by omega), hfr j hj], ?_, by simp; omega⟩
    rw [hps]
    exact (hP.mono (Nat.le_refl _) c5 fun j j1 j2 => c6 j j2).snoc hnt (by rw [c1]; exact c4.mono (by omega) (Nat.le_refl _) fun _ _ _ => rfl)
  · have hps := pick_no (K := K.take i) (x := .mk T h K' a) hw
    rw [← hTk] at hps
    simp [e1, e5, e8, e9, e10, hM, hli, pa1, pa2, hone, h14, hw, w1.eq, objCells, -Int.natCast_add]
    exact ⟨K.length - (i + 1), by omega, i + 1, rfl, by omega, done, rfl, rfl, hml, hfr, by rw [hps]; exact hP, by omega⟩
theorem q17 (K : List Ln) (v : AV) (w : List UInt8) (hs : szL K ≤ 900) (hv : TV [] 0 0 K v) : ∃ r, callL T10 17 [v, .str w] [] = some (r, []) ∧ TV [] 0 0 (pickF w K) r := by
  obtain ⟨nn, es, hvv, hE, hEm⟩ := els_of hv
  have hlK := szL_len K
  have hel := hE.len
  have key : ∃ r m', callL T10 17 [v, .str w] [] = some (r, m') ∧ m' = [] ∧ TV [] 0 0 (pickF w K) r := by
    apply callL_exP (vf := c17) rfl rfl
    have he := hE.el
    simp [c17]
    refine wp_loop (fun n t => ∃ (i : Nat) (done : List (List AV)), n = K.length - i ∧ i ≤ K.length ∧ t.get 0 = v ∧ t.get 1 = .str w ∧ t.get 5 = ov 4 AV.agg done ∧ t.get 6 = AV.int IntKind.i64 (i : Nat) ∧ t.mem = [] ∧ Pels [] 0 0 (pickF w (K.take i)) done ∧ done.length ≤ i) ?_ K.length _ ?_
    rotate_left
    · refine ⟨0, [], ?_⟩
      simp [ov, pickF]
      exact .nil
    rintro n t ⟨i, done, hn, hi, e0, e1, e5, e6, hM, hP, hdl⟩
    by_cases hlt : i < K.length
    rotate_left
    · have hli : ¬ (i : Int) < es.length := by omega
      obtain rfl : i = K.length := by omega
      rw [List.take_length] at hP
      simp [e0, e5, e6, hM, he.view, he.len, hli]
      exact pels_vec hP
    have hie : i < es.length := by omega
    have hli : (i : Int) < es.length := by omega
    obtain ⟨nt, kv, hx, hnt, hki, hone⟩ := hE.at_ i hie
    obtain ⟨pa, pa1, pa2, pa3, pa4, pa5, -⟩ := he.adr i hie
    rw [hx] at pa2
    have hTk := take_succ hlt
    generalize gi K (i : Int) = x at *
    obtain ⟨T, h, K', a⟩ := x
    simp only [Ln.toks, Ln.head, Ln.kids, Ln.at_] at *
    have h15 := q15 T nt h kv a hone
    have w1 : W64 ((i : Int) + 1) ((i + 1 : Nat) : Int) := .mkI rfl (by omega) (by omega)
    by_cases hw : wordF T = w
    · have hps := pick_yes (K := K.take i) (x := .mk T h K' a) hw
      rw [← hTk] at hps
      simp [e0, e1, e5, e6, hM, hli, he.view, he.len, pa1, pa2, hone, h15, hw, w1.eq, -Int.natCast_add]
      refine ⟨by omega, K.length - (i + 1), by omega, i + 1, rfl, by omega, done ++ [[vv none nt tv T, .bool h, kv, AV.int IntKind.i64 a]], ov_snoc (e := AV.agg) (x := [vv none nt tv T, .bool h, kv, AV.int IntKind.i64 a]), rfl, ?_, by simp; omega⟩
      rw [hps]
      exact hP.snoc hnt hki
    · have hps := pick_no (K := K.take i) (x := .mk T h K' a) hw
      rw [← hTk] at hps
      simp [e0, e1, e5, e6, hM, hli, he.view, he.len, pa1, pa2, hone, h15, hw, w1.eq, -Int.natCast_add]
      exact ⟨K.length - (i + 1), by omega, i + 1, rfl, by omega, done, rfl, rfl, by rw [hps]; exact hP, by omega⟩
  obtain ⟨r, m', h1, rfl, h2⟩ := key
  exact ⟨r, h1, h2⟩
end Go.Vm.Ch10
