/- Chapter 11: what its functions compute. -/
import Derived.Test.YtmlfcgmiaapffaaGreatDoorC11sf
namespace Go.Vm.Ch11
open _root_.Ch11 (T11 c14 c15 c16 c40 c17 c42 c19 c13)
set_option maxRecDepth 10000
set_option maxHeartbeats 16000000
theorem q14 (K : List Ln) (v : AV) (m : Mem) (lo hi : Nat) (hs : szL K ≤ 250000) (hall : allL tkOK K = true) (hK : TV m lo hi K v) (hhi : hi ≤ m.length) :
    ∃ u m', callL T11 14 [v] m = some (u, m') ∧ u = .tup [.str (if codeP K = 0 then srcF K else []), AV.int .i64 (codeP K)] ∧ m.length ≤ m'.length ∧ ∀ i, i < m.length → m'[i]? = m[i]? := by
  obtain ⟨u, m2, h41, rfl, hl, hf⟩ := q41 K v m lo hi hs hall hK hhi
  obtain ⟨⟨es, he, -⟩⟩ := hK.at
  apply callL_exP (vf := c14) rfl rfl
  by_cases hc : codeP K = 0
  · simp [c14, he.view, he.nl, h41, printV, hc]
    exact ⟨hl, hf⟩
  · simp [c14, he.view, he.nl, h41, printV, hc]
    exact ⟨hl, hf⟩
def numV (K : List Ln) : AV := if codeP K = 0 then ovn lnV (numL 0 1 K) else .vec none false []
theorem q15 (K : List Ln) (v : AV) (m : Mem) (lo hi : Nat) (hs : szL K ≤ 250000) (hall : allL tkOK K = true) (hK : TV m lo hi K v) (hhi : hi ≤ m.length) :
    ∃ u m', callL T11 15 [v] m = some (u, m') ∧ u = .tup [numV K, AV.int .i64 (codeP K)] ∧ m.length ≤ m'.length ∧ ∀ i, i < m.length → m'[i]? = m[i]? := by
  obtain ⟨u, m2, h41, rfl, hl, hf⟩ := q41 K v m lo hi hs hall hK hhi
  obtain ⟨⟨es, he, -⟩⟩ := hK.at
  apply callL_exP (vf := c15) rfl rfl
  by_cases hc : codeP K = 0
  · simp [c15, he.view, he.nl, h41, printV, numV, hc]
    exact ⟨hl, hf⟩
  · simp [c15, he.view, he.nl, h41, printV, numV, hc]
    exact ⟨hl, hf⟩
theorem q16 (K : List Ln) (v : AV) (m : Mem) (lo hi : Nat) (hs : szL K ≤ 250000) (hall : allL tkOK K = true) (hK : TV m lo hi K v) (hhi : hi ≤ m.length) :
    ∃ u m', callL T11 16 [v] m = some (u, m') ∧ u = AV.int .i64 (codeP K) ∧ m.length ≤ m'.length ∧ ∀ i, i < m.length → m'[i]? = m[i]? := by
  obtain ⟨u, m2, h41, rfl, hl, hf⟩ := q41 K v m lo hi hs hall hK hhi
  obtain ⟨⟨es, he, -⟩⟩ := hK.at
  apply callL_exP (vf := c16) rfl rfl
  by_cases hc : codeP K = 0
  · simp [c16, he.view, he.nl, h41, printV, hc]
    exact ⟨hl, hf⟩
  · simp [c16, he.view, he.nl, h41, printV, hc]
    exact ⟨hl, hf⟩
theorem elems_strs {o : Option Nat} {nn : Bool} {X : List (List UInt8)} : elems? 1 (vv o nn AV.str X) = some (X.map AV.str) := by
  simp only [vv, elems_vec]
  rw [if_pos (by simp)]
theorem q40 : ∀ (N : Nat) (K : List Ln) (v : AV) (d : Nat), szL K < N → N ≤ 250001 → d + dL K ≤ 8 → allL vT K = true → TV [] 0 0 K v → callL T11 40 [v, AV.int .i64 (d : Nat)] [] = some (vv none true AV.str (rowsL d K), []) := by
  intro N
  induction N with
  | zero => intro K v d h; omega
  | succ N ih =>
    intro K v d hN hN2 hd hall hK
    obtain ⟨ea, hea, la, ha⟩ := hK.at2
    have hvv := hea.view
    have hvl := hea.len
    have hvn := hea.nl
    have hszl := szL_len K
    have hcK := (mea_sz K).1
    apply callL_body (vf := c40) rfl rfl
    simp [c40]
    refine wp_loop (fun n s => ∃ (i : Nat), n = K.length - i ∧ i ≤ K.length ∧ s.get 0 = v ∧ s.get 1 = AV.int .i64 d ∧ s.get 5 = vv (some 1) true AV.str (rowsL d (K.take i)) ∧ s.get 6 = AV.int .i64 (i : Nat) ∧ s.mem = []) ?_ K.length _ ?_
    rotate_left
    · refine ⟨0, ?_⟩
      simp [rowsL]
      rfl
    rintro n s ⟨i, hn, hi', e0, e1, e5, e6, em⟩
    by_cases hlt : i < K.length
    rotate_left
    · have hli : ¬ (i : Int) < K.length := by omega
      have hie : i = K.length := by omega
      rw [hie, List.take_length] at e5
      simp [e0, e5, e6, em, hli, hvv, hvl, la]
    have hli : (i : Int) < K.length := by omega
    obtain ⟨nt, kv, hE, hnt, hkv⟩ := ha i (by omega)
    obtain ⟨a, ha1, ha2, -, -, -, ha6⟩ := hea.adr i (by omega)
    rw [hE] at ha2 ha6
    obtain ⟨ak, ha7, ha8, -, -⟩ := ha6 2 kv rfl
    obtain ⟨⟨ek, hek, -⟩⟩ := hkv.at
    have hone' : kv.one = true := by rw [← one_view]; exact hek.one
    have hgood : kv.good = true := one_good hone'
    have hdk := dL_at K i hlt
    have hszk := szL_kid hlt
    have hrt := rows_take (d := d) hlt
    have hrl2 := rowsL_len d (K.take i)
    have hrl3 := rowsL_len d (K.take (i + 1))
    have hct := cL_take K (i + 1)
    have hmx := allL_at hall _ (show gi K (i : Int) ∈ K by rw [gi_nat hlt]; exact List.getElem_mem _)
    have hsz := szL_get K i hlt
    rw [← gi_nat hlt] at hsz
    generalize gi K (i : Int) = x at *
    obtain ⟨T, h, K', ax⟩ := x
    simp only [Ln.toks, Ln.head, Ln.kids, Ln.at_, allN, Bool.and_eq_true, szN] at *
    have hcn := congrArg List.length hrt
    rw [hrl3, List.length_append, hrl2, rowsN, List.length_cons, rowsL_len] at hcn
    have h60 := q60 T nt h kv ax d hone' (by omega) (by omega) hmx.1
    have hIH := ih K' kv.view (d + 1) (by omega) (by omega) (by omega) hmx.2 hkv
    have w1 : W64 ((i : Int) + 1) ((i + 1 : Nat) : Int) := .mkI rfl (by omega) (by omega)
    have w2 : W64 ((d : Int) + 1) ((d + 1 : Nat) : Int) := .mkI rfl (by omega) (by omega)
    have hkvv := hek.view
    have hknl := hek.nl
    obtain ⟨RR, hRR⟩ : ∃ RR, rowsL d (K.take i) = RR := ⟨_, rfl⟩
    rw [hRR] at e5 hrt hrl2
    have hsn : ∀ x, AV.vec (some 1) true (List.map AV.str RR ++ [AV.str x]) = vv (some 1) true AV.str (RR ++ [x]) := fun x => by simp [vv]
    have b1 : (RR.length + 1) * 16 ≤ 140737488355328 := by omega
    have b2 : (RR.length + 1 + (rowsL (d + 1) K').length) * 16 ≤ 140737488355328 := by rw [rowsL_len]; omega
    simp [e0, e1, e5, e6, em, hli, hvv, hvl, la, ha1, ha2, ha7, ha8, h60, hIH, b1, b2, hsn, elems_strs, hkvv, hknl, w1.eq, w2.eq, -Int.natCast_add]
    refine ⟨K.length - (i + 1), by omega, i + 1, rfl, by omega, ?_, rfl⟩
    rw [hrt]
    simp [rowsN, vv]
end Go.Vm.Ch11
