/- Chapter 10: what its functions compute. -/
import Derived.Test.YtmncbcgcahfdcaaGreatDoorC10ze
namespace Go.Vm.Ch10
open _root_.Ch10 (T10 c4)
set_option maxRecDepth 10000
set_option maxHeartbeats 16000000
theorem only_agg (ws : List (List UInt8)) : ∀ K, ∃ a b c, onlyF ws K = .agg [AV.int IntKind.i64 a, AV.int IntKind.i64 b, AV.int IntKind.i64 c]
  | [] => ⟨0, 0, 0, rfl⟩
  | x :: r => by
    rw [onlyF]
    split
    · exact only_agg ws r
    · exact ⟨_, _, _, rfl⟩
theorem szL_pick (w : List UInt8) : ∀ K : List Ln, szL (pickF w K) ≤ szL K
  | [] => Nat.le_refl _
  | x :: r => by
    have ih := szL_pick w r
    unfold pickF at ih ⊢
    rw [List.filter_cons]
    split
    · simp only [szL]; omega
    · simp only [szL]; omega
theorem q4 (K : List Ln) (v : AV) (ws : List (List UInt8)) (wn : Bool) (hv : TV [] 0 0 K v) : ∃ m', callL T10 4 [v, vv none wn AV.str ws] [] = some (.bool true, m') := by
  obtain ⟨m, hm0, ha⟩ := Aw.awake0
  have h13 := q13 K v hv
  obtain ⟨nn, es, hvv, hE, hEm⟩ := els_of hv
  have hel := hE.len
  have he := hE.el
  apply callL_ex3 (vf := c4) rfl rfl
  by_cases hsm : 0 ≤ leftL K 300 12
  rotate_left
  · simp [c4, ha, h13, hsm, he.view, he.nl]
  have hs := leftL_le K 300 12 hsm
  have hlK := szL_len K
  by_cases hw : 20 < ws.length
  · have hwi : (20 : Int) < ws.length := by omega
    simp [c4, ha, h13, hsm, he.view, he.nl, hwi]
  have hwi : ¬ (20 : Int) < ws.length := by omega
  simp [c4, ha, h13, hsm, he.view, he.nl, hwi]
  refine wp_loop (fun n t => ∃ (i : Nat), n = K.length - i ∧ i ≤ K.length ∧ t.get 0 = v ∧ t.get 1 = vv none wn AV.str ws ∧ t.get 5 = AV.int IntKind.i64 (i : Nat) ∧ t.mem = m) ?_ K.length _ ?_
  rotate_left
  · exact ⟨0, by simp⟩
  rintro n t ⟨i, hn, hi, e0, e1, e5, hm⟩
  by_cases hlt : i < K.length
  · have hie : i < es.length := by omega
    have hli : (i : Int) < es.length := by omega
    obtain ⟨nt, kv, hx, hnt, hki, hone⟩ := hE.at_ i hie
    obtain ⟨pa, pa1, pa2, pa3, pa4, pa5, -⟩ := (hEm m).adr i hie
    rw [hx] at pa2
    generalize gi K (i : Int) = x at *
    obtain ⟨T, h, K', a⟩ := x
    simp only [Ln.toks, Ln.head, Ln.kids, Ln.at_] at *
    have h14 := q14 T nt h kv a hone
    have h15 := q15 T nt h kv a hone
    have w1 : W64 ((i : Int) + 1) ((i + 1 : Nat) : Int) := .mkI rfl (by omega) (by omega)
    simp [e0, e1, e5, hm, hli, he.view, he.len, pa1, pa2, h14, h15, w1.eq, -Int.natCast_add]
    exact ⟨K.length - (i + 1), by omega, i + 1, rfl, by omega, rfl⟩
  have hli : ¬ (i : Int) < es.length := by omega
  simp [e0, e5, hli, he.view, he.len]
  refine wp_loop (fun n t => ∃ (j : Nat), n = ws.length - j ∧ j ≤ ws.length ∧ t.get 0 = v ∧ t.get 1 = vv none wn AV.str ws ∧ t.get 6 = AV.int IntKind.i64 (j : Nat) ∧ 0 < t.mem.length) ?_ ws.length _ ?_
  rotate_left
  · exact ⟨0, by simp [e0, e1, hm, hm0]⟩
  clear e0 e1 e5 hm hli
  clear t
  rintro n t ⟨j, hn, hj, e0, e1, e6, hmp⟩
  by_cases hlt : j < ws.length
  · have hli : (j : Int) < ws.length := by omega
    obtain ⟨M, hM⟩ : ∃ M, t.mem = M := ⟨_, rfl⟩
    rw [hM] at hmp
    obtain ⟨r, m1, h16, c1, c2, c3, c4, c5, c6⟩ := q16 K v ws[j] M (by omega) hv hmp
    obtain ⟨r2, h17, hr2⟩ := q17 K v ws[j] (by omega) hv
    obtain ⟨⟨e2, he2, -⟩⟩ := hr2.at
    have hsp := szL_pick ws[j] K
    have h12 := q12 1000 true (pickF ws[j] K) (pickF ws[j] K) r r2 m1 _ _ 0 0 (by omega) (by omega) c4 (TV_mem hr2)
    rw [eqL_refl] at h12
    have w1 : W64 ((j : Int) + 1) ((j + 1 : Nat) : Int) := .mkI rfl (by omega) (by omega)
    simp [e0, e1, e6, hM, hli, he.view, he.nl, gi_nat hlt, h16, h17, c1, c3, he2.view, he2.nl, h12, w1.eq, -Int.natCast_add]
    exact ⟨ws.length - (j + 1), by omega, j + 1, rfl, by omega, rfl, by omega⟩
  · have hli : ¬ (j : Int) < ws.length := by omega
    have h18 := q18 K v ws wn (by omega) [] (by omega) hv
    have h19 := q19 K v ws wn (by omega) (by omega) hv
    obtain ⟨a, b, c, hO⟩ := only_agg ws K
    rw [hO] at h18 h19
    simp [e0, e1, e6, hli, he.view, he.nl, h18, h19]
end Go.Vm.Ch10
