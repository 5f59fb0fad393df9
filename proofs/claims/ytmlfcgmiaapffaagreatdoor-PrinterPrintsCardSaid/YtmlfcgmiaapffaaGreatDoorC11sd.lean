/- Chapter 11: what its functions compute. -/
import Derived.Test.YtmlfcgmiaapffaaGreatDoorC11sc
namespace Go.Vm.Ch11
open _root_.Ch11 (T11 c91 c62)
set_option maxRecDepth 10000
set_option maxHeartbeats 16000000
mutual
def rowsL (d : Nat) : List Ln → List (List UInt8)
  | [] => []
  | x :: r => rowsN d x ++ rowsL d r
def rowsN (d : Nat) : Ln → List (List UInt8)
  | .mk T h K _ => lineS d T h :: rowsL (d + 1) K
end
mutual
def numL (d n : Nat) : List Ln → List Ln
  | [] => []
  | x :: r => numN d n x :: numL d (n + cN x) r
def numN (d n : Nat) : Ln → Ln
  | .mk T h K _ => .mk (lineT d T) h (numL (d + 1) (n + 1) K) (n : Nat)
end
theorem rowsL_append (d : Nat) : ∀ A B, rowsL d (A ++ B) = rowsL d A ++ rowsL d B
  | [], B => rfl
  | x :: A, B => by simp only [List.cons_append, rowsL, rowsL_append d A B, List.append_assoc]
theorem cL_append : ∀ A B, cL (A ++ B) = cL A + cL B
  | [], B => by simp [cL]
  | x :: A, B => by simp only [List.cons_append, cL, cL_append A B]; omega
theorem numL_append (d : Nat) : ∀ (n : Nat) (A B : List Ln), numL d n (A ++ B) = numL d n A ++ numL d (n + cL A) B
  | n, [], B => by simp [numL, cL]
  | n, x :: A, B => by
    simp only [List.cons_append, numL, numL_append d _ A B, cL, List.cons.injEq, true_and]
    rw [Nat.add_assoc]
mutual
theorem rowsL_len (d : Nat) : ∀ K, (rowsL d K).length = cL K
  | [] => rfl
  | x :: r => by simp only [rowsL, List.length_append, rowsN_len d x, rowsL_len d r, cL]
theorem rowsN_len (d : Nat) : ∀ x, (rowsN d x).length = cN x
  | .mk T h K a => by simp only [rowsN, List.length_cons, rowsL_len (d + 1) K, cN]; omega
end
theorem rows_take {d i : Nat} {K : List Ln} (h : i < K.length) : rowsL d (K.take (i + 1)) = rowsL d (K.take i) ++ rowsN d (gi K (i : Int)) := by
  rw [take_succ h, rowsL_append]; simp [rowsL]
theorem num_take {d n i : Nat} {K : List Ln} (h : i < K.length) : numL d n (K.take (i + 1)) = numL d n (K.take i) ++ [numN d (n + cL (K.take i)) (gi K (i : Int))] := by
  rw [take_succ h, numL_append]; simp [numL]
theorem numL_length (d : Nat) : ∀ (n : Nat) (K : List Ln), (numL d n K).length = K.length
  | n, [] => rfl
  | n, x :: r => by simp [numL, numL_length d _ r]
theorem cL_take : ∀ (K : List Ln) (i : Nat), cL (K.take i) ≤ cL K
  | [], i => by simp
  | x :: r, 0 => by simp [cL]
  | x :: r, i + 1 => by simp only [List.take_succ_cons, cL]; have := cL_take r i; omega
theorem dL_at : ∀ (K : List Ln) (i : Nat), i < K.length → 1 + dL (gi K (i : Int)).kids ≤ dL K
  | x :: r, i, h => by
    cases i with
    | zero =>
      obtain ⟨T, hd, K, a⟩ := x
      rw [show gi (Ln.mk T hd K a :: r) ((0 : Nat) : Int) = Ln.mk T hd K a from rfl]
      simp only [dL, dN, Ln.kids]; omega
    | succ i =>
      have hi : i < r.length := by simpa using h
      have := dL_at r i hi
      rw [gi_nat hi] at this
      rw [gi_nat h]
      simp only [dL, List.getElem_cons_succ]; omega
theorem TV.at2 {m : Mem} {lo hi : Nat} {K : List Ln} {v : AV} (h : TV m lo hi K v) : ∃ es, ElSl 4 v m es ∧ es.length = K.length ∧ ∀ j (h : j < es.length), ∃ nt kv, es[j] = [vv none nt tv (gi K (j : Int)).toks, .bool (gi K (j : Int)).head, kv, AV.int .i64 (gi K (j : Int)).at_] ∧ (nt = false → (gi K (j : Int)).toks = []) ∧ TV m lo hi (gi K (j : Int)).kids kv.view := by
  cases h with
  | mk _ _ nt kv h hnt hk =>
    refine ⟨_, h.el (z := 4) (by simp), by simp, fun j hj => ?_⟩
    have hj' : j < K.length := by simpa using hj
    exact ⟨nt j, kv j, by simp, hnt j hj', hk j hj'⟩
theorem szL_kid {K : List Ln} {k : Nat} (h : k < K.length) : szL (gi K (k : Int)).kids < szL K := by
  have h1 := szL_get K k h
  rw [gi_nat h]
  revert h1
  generalize K[k] = x
  intro h1
  obtain ⟨T, hd, K', a⟩ := x
  simp only [szN, Ln.kids] at h1 ⊢
  omega
def rowO (R : List (List UInt8)) : Option LObj := some (.cells false [ov 1 AV.str R])
def fn91 (r w : Nat) : AV := .fn (.func 91) [.ptr (.mem r) 0, .ptr (.mem w) 0]
theorem set_same {α : Type} {l : List α} {i : Nat} {x : α} (h : l[i]? = some x) : l.set i x = l := by
  obtain ⟨h1, rfl⟩ := List.getElem?_eq_some_iff.1 h
  exact List.set_getElem_self h1
theorem lnsV_one (K : List Ln) : (lnsV K).one = true := by rw [lnsV_eq]; rfl
theorem q91 : ∀ (N : Nat) (K : List Ln) (v : AV) (M : Mem) (lo hi r w d : Nat) (R : List (List UInt8)), szL K < N → N ≤ 250001 → d + dL K ≤ 8 → R.length + cL K ≤ 250001 → allL vT K = true → TV M lo hi K v → hi ≤ r → r < w →
    M[r]? = some (rowO R) → M[w]? = some (some (.cells false [fn91 r w])) →
    callL T11 91 [v, AV.int .i64 (d : Nat), .ptr (.mem r) 0, .ptr (.mem w) 0] M = some (lnsV (numL d (R.length + 1) K), M.set r (rowO (R ++ rowsL d K))) := by
  intro N
  induction N with
  | zero => intro K v M lo hi r w d R h; omega
  | succ N ih =>
    intro K v M lo hi r w d R hN hN2 hd hR hall hK hhi hrw hr hw
    obtain ⟨ea, hea, la, ha⟩ := hK.at2
    have hvt := hea.tk
    have hvv := hea.view
    have hvl := hea.len
    have hszl := szL_len K
    have hrl : r < M.length := (List.getElem?_eq_some_iff.1 hr).1
    apply callL_body (vf := c91) rfl rfl
    simp [c91, hvv, hvl]
    refine wp_loop (fun n s => ∃ (i : Nat), n = K.length - i ∧ i ≤ K.length ∧ s.get 0 = v ∧ s.get 1 = AV.int .i64 d ∧ s.get 2 = .ptr (.mem r) 0 ∧ s.get 3 = .ptr (.mem w) 0 ∧ s.get 7 = ov 4 lnV (numL d (R.length + 1) (K.take i)) ∧ s.get 13 = v ∧ s.get 14 = AV.int .i64 (K.length : Nat) ∧ s.get 15 = AV.int .i64 (i : Nat) ∧ s.mem = M.set r (rowO (R ++ rowsL d (K.take i)))) ?_ K.length _ ?_
    rotate_left
    · refine ⟨0, ?_⟩
      simp [numL, rowsL, la, set_same hr]
      rfl
    rintro n s ⟨i, hn, hi', e0, e1, e2, e3, e7, e13, e14, e15, em⟩
    by_cases hlt : i < K.length
    rotate_left
    · have hli : ¬ (i : Int) < K.length := by omega
      have hie : i = K.length := by omega
      rw [hie, List.take_length] at e7 em
      simp [e7, e13, e14, e15, em, hli, lnsV_eq]
      done
    have hli : (i : Int) < K.length := by omega
    obtain ⟨RR, hRR⟩ : ∃ RR, R ++ rowsL d (K.take i) = RR := ⟨_, rfl⟩
    rw [hRR] at em
    obtain ⟨mm, hmm⟩ : ∃ mm, M.set r (rowO RR) = mm := ⟨_, rfl⟩
    rw [hmm] at em
    have hmr : mm[r]? = some (rowO RR) := by rw [← hmm]; simp [hrl]
    have hmw : mm[w]? = some (some (.cells false [fn91 r w])) := by rw [← hmm, List.getElem?_set_ne (by omega)]; exact hw
    have hKm : TV mm lo hi K v := hK.mono (Nat.le_refl _) (Nat.le_refl _) fun q _ h => by rw [← hmm, List.getElem?_set_ne (by omega)]
    obtain ⟨eb, heb, lb, hb⟩ := hKm.at2
    obtain ⟨nt, kv, hE, hnt, hkv⟩ := hb i (by omega)
    obtain ⟨a, ha1, ha2, -, -, -, -⟩ := heb.adr i (by omega)
    rw [hE] at ha2
    obtain ⟨⟨ek, hek, -⟩⟩ := hkv.at
    have hone : kv.view.one = true := hek.one
    have hone' : kv.one = true := by rw [← one_view]; exact hek.one
    have hgood : kv.good = true := one_good hone'
    have hdk := dL_at K i hlt
    have hszk := szL_kid hlt
    have hrt := rows_take (d := d) hlt
    have hnt' := num_take (d := d) (n := R.length + 1) hlt
    have hrl2 := rowsL_len d (K.take i)
    have hrl3 := rowsL_len d (K.take (i + 1))
    have hct := cL_take K (i + 1)
    have hlx : ∀ x ∈ K, allN vT x = true := allL_at hall
    have hmx := hlx _ (show gi K (i : Int) ∈ K by rw [gi_nat hlt]; exact List.getElem_mem _)
    have hsz := szL_get K i hlt
    rw [← gi_nat hlt] at hsz
    generalize gi K (i : Int) = x at *
    obtain ⟨T, h, K', ax⟩ := x
    simp only [Ln.toks, Ln.head, Ln.kids, Ln.at_, allN, Bool.and_eq_true, szN] at *
    have hcn := congrArg List.length hrt
    rw [hrl3, List.length_append, hrl2, rowsN, List.length_cons, rowsL_len] at hcn
    have hRl : RR.length = R.length + cL (K.take i) := by rw [← hRR, List.length_append, hrl2]
    have h92 := q92 T nt h kv.view ax d hone (by omega) (by omega) hmx.1
    obtain ⟨M2, hM2⟩ : ∃ M2, mm.set r (rowO (RR ++ [lineS d T h])) = M2 := ⟨_, rfl⟩
    have hIH := ih K' kv.view M2 lo hi r w (d + 1) (RR ++ [lineS d T h]) (by omega) (by omega) (by omega) (by simp; omega) hmx.2 (hkv.mono (Nat.le_refl _) (Nat.le_refl _) fun q _ h => by rw [← hM2, List.getElem?_set_ne (by omega)]) hhi hrw (by rw [← hM2, List.getElem?_set_self (by rw [← hmm]; simpa using hrl)]) (by rw [← hM2, List.getElem?_set_ne (by omega)]; exact hmw)
    have w1 : W64 ((i : Int) + 1) ((i + 1 : Nat) : Int) := .mkI rfl (by omega) (by omega)
    have w2 : W64 ((d : Int) + 1) ((d + 1 : Nat) : Int) := .mkI rfl (by omega) (by omega)
    have hml : r < mm.length := (List.getElem?_eq_some_iff.1 hmr).1
    have hset : ∀ X, (mm.set r X)[r]? = some X := fun X => List.getElem?_set_self hml
    have hM2r : M2[r]? = some (some (.cells false [ov 1 AV.str (RR ++ [lineS d T h])])) := by rw [← hM2]; exact hset _
    have hM2w : M2[w]? = some (some (.cells false [fn91 r w])) := by rw [← hM2, List.getElem?_set_ne (by omega)]; exact hmw
    have hM3 : M2.set r (some (.cells false [ov 1 AV.str (RR ++ [lineS d T h] ++ rowsL (d + 1) K')])) = M.set r (rowO (R ++ rowsL d (K.take (i + 1)))) := by
      rw [← hM2, ← hmm, List.set_set, List.set_set, hrt, ← List.append_assoc, hRR]
      simp [rowO, rowsN]
    have w3 : W64 ((d : Int) + 1) ((d + 1 : Nat) : Int) := w2
    have hlen : R.length + 1 + cL (K.take i) = RR.length + 1 := by omega
    have b1 : (RR.length + 1) * 16 ≤ 140737488355328 := by omega
    have hsn := ov_snoc (z := 1) (e := AV.str) (xs := RR) (x := lineS d T h)
    simp only [rowO] at hmr hM2
    simp only [fn91] at hmw hM2w
    simp only [rowO] at hIH
    rw [hM3, lnsV_eq] at hIH
    have hkvv := hek.view
    have hknl := hek.nl
    simp [e0, e1, e2, e3, e7, e13, e14, e15, em, hli, ha1, ha2, hone', objCells, h92, hmr, b1, hsn, hset, memO, hM2, hM2r, hM2w, hIH, hkvv, hknl, w1.eq, w2.eq, -Int.natCast_add]
    have b2 : ((numL d (R.length + 1) (K.take i)).length + 1) * 64 ≤ 140737488355328 := by
      rw [numL_length]
      have := List.length_take_le i K
      omega
    refine ⟨b2, K.length - (i + 1), by omega, i + 1, rfl, by omega, ?_, rfl, rfl⟩
    rw [hnt', hlen]
    simp [ov, numN, lnV, lnsV_eq]
theorem q62 (K : List Ln) (v : AV) (m : Mem) (lo hi : Nat) (hs : szL K ≤ 250000) (hd : dL K ≤ 7) (hall : allL vT K = true) (hK : TV m lo hi K v) (hhi : hi ≤ m.length) :
    ∃ u m', callL T11 62 [v] m = some (u, m') ∧ u = .tup [ovn lnV (numL 0 1 K), ovn AV.str (rowsL 0 K)] ∧ m.length ≤ m'.length ∧ ∀ i, i < m.length → m'[i]? = m[i]? := by
  obtain ⟨M, hM⟩ : ∃ M, m ++ [rowO [], some (.cells false [fn91 m.length (m.length + 1)])] = M := ⟨_, rfl⟩
  have hg : ∀ i, i < m.length → M[i]? = m[i]? := fun i h => by rw [← hM, List.getElem?_append_left h]
  have hml : M.length = m.length + 2 := by rw [← hM]; simp
  have hc := (mea_sz K).1
  have h91 := q91 (szL K + 1) K v M lo hi m.length (m.length + 1) 0 [] (Nat.lt_succ_self _) (by omega) (by omega) (by simp; omega) hall (hK.mono (Nat.le_refl _) (Nat.le_refl _) fun i _ h => hg i (by omega)) hhi (by omega) (by rw [← hM]; simp) (by rw [← hM]; simp)
  obtain ⟨⟨es, he, -⟩⟩ := hK.at
  obtain ⟨M3, hM3⟩ : ∃ M3, M.set m.length (rowO ([] ++ rowsL 0 K)) = M3 := ⟨_, rfl⟩
  have hM3r : M3[m.length]? = some (rowO (rowsL 0 K)) := by rw [← hM3, List.getElem?_set_self (by omega)]; rfl
  have hM3g : ∀ i, i < m.length → M3[i]? = m[i]? := fun i h => by rw [← hM3, List.getElem?_set_ne (by omega)]; exact hg i h
  have hM3l : m.length ≤ M3.length := by rw [← hM3]; simp; omega
  rw [hM3, lnsV_eq] at h91
  rw [show (((0 : Nat) : Int)) = 0 from rfl] at h91
  simp only [rowO] at hM3r
  have hMe : m ++ [some (LObj.cells false [AV.vec none false []]), some (.cells false [.fn (.func 91) [.ptr (.mem m.length) 0, .ptr (.mem (m.length + 1)) 0]])] = M := hM
  have hMw : M[m.length + 1]? = some (some (.cells false [.fn (.func 91) [.ptr (.mem m.length) 0, .ptr (.mem (m.length + 1)) 0]])) := by rw [← hMe]; simp
  apply callL_exP (vf := c62) rfl rfl
  simp [c62, objCells, memO, he.view, he.nl, hMe, h91, hM3r]
  exact ⟨hM3l, hM3g⟩
end Go.Vm.Ch11
