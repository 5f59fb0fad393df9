/- Chapter 11: what its functions compute. -/
import Derived.Test.YtmlfcgmiaapffaaGreatDoorC11sh
import Derived.Test.YtmlfcgmiaapffaaGreatDoorC11zq
namespace Go.Vm.Ch11
open _root_.Ch11 (T11 c3)
set_option maxRecDepth 10000
set_option maxHeartbeats 16000000
theorem toksEq_refl (p : Bool) : ∀ T, toksEq p T T = true
  | [] => rfl
  | x :: r => by simp [toksEq, tkEq, toksEq_refl p r]
mutual
theorem eqL_refl (p : Bool) : ∀ K, eqL p K K = true
  | [] => rfl
  | x :: r => by rw [eqL, eqL_refl p r, eqN_refl p x]; rfl
theorem eqN_refl (p : Bool) : ∀ x, eqN p x x = true
  | .mk T h K a => by simp [eqN, eqL_refl p K, toksEq_refl]
end
theorem callL_exq {T : FuncId → Option VF} {f : FuncId} {vf : VF} {args : List AV} {m : Mem} {v : AV} (hT : T f = some vf) (hl : args.length = vf.nparams)
    (h : wp T vf.body (St.init args m) (retK vf.results fun u _ => u = v)) : ∃ m', callL T f args m = some (v, m') := by
  obtain ⟨u, m', h1, h2⟩ := callL_exP hT hl h
  exact ⟨m', by rw [h1, h2]⟩
theorem lnF_len2 : ∀ (T : List Tk) (s : List UInt8) (q : Option Tk), (lnF s q T).2.length = T.length
  | [], _, _ => rfl
  | p :: T, s, q => by simp [lnF, lnF_len2 T]
mutual
theorem szL_num (d : Nat) : ∀ (n : Nat) (K : List Ln), szL (numL d n K) = szL K
  | n, [] => rfl
  | n, x :: r => by simp only [numL, szL, szN_num d n x, szL_num d _ r]
theorem szN_num (d : Nat) : ∀ (n : Nat) (x : Ln), szN (numN d n x) = szN x
  | n, .mk T h K a => by simp only [numN, szN, szL_num (d + 1) _ K, lineT, lnF_len2]
end
theorem q3 (K : List Ln) (v : AV) (hv : TV [] 0 0 K v) (hn : allL nOK K = true) : ∃ m', callL T11 3 [v] [] = some (.bool true, m') := by
  obtain ⟨m, hw⟩ := Aw.awake
  have h12 := q12 K v hv
  obtain ⟨⟨es, he, -⟩⟩ := hv.at
  apply callL_exq (vf := c3) rfl rfl
  by_cases hs1 : 0 ≤ leftL K 300 12
  rotate_left
  · simp [c3, hw, h12, hs1, he.view, he.nl]
  have hz := leftL_le K 300 12 hs1
  have hall : allL tkOK K = true := allL_and K (left_txt K 300 12 hs1) hn
  have h13 := q13 K v (by omega) hall hv
  obtain ⟨u1, m1, h14, rfl, hl1, -⟩ := q14 K v m 0 0 (by omega) hall (TV_mem hv) (Nat.zero_le _)
  obtain ⟨u2, m2, h15, rfl, hl2, -⟩ := q15 K v m1 0 0 (by omega) hall (TV_mem hv) (Nat.zero_le _)
  obtain ⟨u3, m3, h16, rfl, hl3, -⟩ := q16 K v m2 0 0 (by omega) hall (TV_mem hv) (Nat.zero_le _)
  by_cases hc : codeP K = 0
  rotate_left
  · simp [c3, hw, h12, hs1, he.view, he.nl, h13, h14, h15, h16, hc, numV]
    done
  have hcF : codeF K = 0 := by
    unfold codeP at hc
    split at hc
    · assumption
    · exact hc
  obtain ⟨f1, f2, f3⟩ := code0 hcF
  have h17 := q17 K v (by omega) f3 (form_vT K f1) hv
  have h19 := q19 K v (by omega) f3 (form_vT K f1) hv
  have hsn := szL_num 0 1 K
  have h18 := q18 1000 true (numL 0 1 K) (numL 0 1 K) _ _ m3 0 0 0 0 (by omega) (by omega) (TV_lns _ _ (Nat.lt_succ_self _)) (TV_lnw _ _ (Nat.lt_succ_self _))
  rw [eqL_refl, lnsV_eq, lnsW_eq] at h18
  rw [lnsW_eq] at h19
  simp [c3, hw, h12, hs1, he.view, he.nl, h13, h14, h15, h16, hc, numV, h17, h18, h19]
  done
end Go.Vm.Ch11
