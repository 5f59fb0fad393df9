/- Chapter 10: what its functions compute. -/
import Derived.Test.YtmncbcgcahfdcaaGreatDoorC10v
import Derived.Test.YtmncbcgcahfdcaaGreatDoorC10u
namespace Go.Vm.Ch10
open _root_.Ch10 (T10 c9 c34)
set_option maxRecDepth 10000
set_option maxHeartbeats 16000000
def isTrueM : Option (AV × Mem) → Bool
  | some (.bool true, _) => true
  | _ => false
theorem isTrueM_inv {r : Option (AV × Mem)} (h : isTrueM r = true) : ∃ m, r = some (.bool true, m) := by
  unfold isTrueM at h
  split at h
  · exact ⟨_, rfl⟩
  · simp at h
/-! ### the reference's tree -/
mutual
def lnV : Ln → AV
  | .mk T h K a => .agg [ovn tv T, .bool h, lnsV K, AV.int IntKind.i64 a]
def lnsV : List Ln → AV
  | [] => .vec none false []
  | x :: r => .vec none true (lnV x :: lnsL r)
def lnsL : List Ln → List AV
  | [] => []
  | x :: r => lnV x :: lnsL r
end
theorem lnsL_eq : ∀ K, lnsL K = K.map lnV
  | [] => rfl
  | x :: r => by simp [lnsL, lnsL_eq r]
theorem lnsV_eq (K : List Ln) : lnsV K = ovn lnV K := by
  cases K with
  | nil => rfl
  | cons x r => simp [lnsV, lnsL_eq, ovn, vv]
abbrev l0V (p : Nat × L0) : AV := .agg [ovn tv p.2.toks, .bool p.2.head, .vec none false [], AV.int IntKind.i64 p.2.at_]
abbrev l0d (p : Nat × L0) : AV := AV.int IntKind.i64 (p.1 : Nat)
instance : Inhabited (Nat × L0) := ⟨(0, ⟨[], false, 0⟩)⟩
theorem tw_at {α : Type} {p : α → Bool} : ∀ (l : List α) (k : Nat) (hk : k < l.length), k ≤ (l.takeWhile p).length → (p l[k] = true → k + 1 ≤ (l.takeWhile p).length) ∧ (p l[k] = false → k = (l.takeWhile p).length)
  | [], k, hk, _ => by simp at hk
  | x :: l, k, hk, h => by
    by_cases hx : p x = true
    · rw [List.takeWhile_cons, if_pos hx] at h ⊢
      cases k with
      | zero => exact ⟨fun _ => by simp, fun hf => by simp [hx] at hf⟩
      | succ k =>
        simp only [List.length_cons] at h hk ⊢
        have ih := tw_at (p := p) l k (by omega) (by omega)
        simp only [List.getElem_cons_succ]
        exact ⟨fun h' => by have := ih.1 h'; omega, fun h' => by have := ih.2 h'; omega⟩
    · rw [List.takeWhile_cons, if_neg hx] at h ⊢
      have : k = 0 := by simpa using h
      subst this
      exact ⟨fun h' => absurd h' hx, fun _ => rfl⟩
theorem q34 : ∀ (f : Nat) (b : Nat) (X : List (Nat × L0)) (n1 n2 : Bool), X.length < f → f ≤ 1000000 → b + f ≤ 2000000 → callL T10 34 [vv none n1 l0V X, vv none n2 l0d X, AV.int IntKind.i64 (b : Nat)] [] = some (lnsV (treeF f b X), []) := by
  intro f
  induction f with
  | zero => intro b X n1 n2 h; omega
  | succ f ih =>
    intro b X n1 n2 hX hf hb
    apply callL_body (vf := c34) rfl rfl
    simp [c34]
    refine wp_loop (fun n t => ∃ (j : Nat) (O : List Ln), n = X.length - j ∧ j ≤ X.length ∧ t.get 0 = vv none n1 l0V X ∧ t.get 1 = vv none n2 l0d X ∧ t.get 2 = AV.int IntKind.i64 (b : Nat) ∧ t.get 7 = ov 4 lnV O ∧ t.get 8 = AV.int IntKind.i64 (j : Nat) ∧ t.mem = [] ∧ O ++ treeF (f + 1) b (X.drop j) = treeF (f + 1) b X ∧ O.length ≤ j) ?_ X.length _ ?_
    rotate_left
    · exact ⟨0, [], by simp [ov]⟩
    rintro n t ⟨j, O, hn, hj, e0, e1, e2, e7, e8, hm, hE, hO⟩
    by_cases hlt : j < X.length
    rotate_left
    · have hli : ¬ (j : Int) < X.length := by omega
      rw [List.drop_eq_nil_of_le (by omega)] at hE
      simp only [treeF, List.append_nil] at hE
      simp [e0, e7, e8, hm, hli, ← hE, lnsV_eq]
    have hli : (j : Int) < X.length := by omega
    obtain ⟨x, hx⟩ : ∃ x, gi X (j : Int) = x := ⟨_, rfl⟩
    have hd : X.drop j = x :: X.drop (j + 1) := by rw [← hx, gi_nat hlt]; simp
    rw [hd] at hE
    obtain ⟨d, l⟩ := x
    have w1 : W64 ((j : Int) + 1) ((j + 1 : Nat) : Int) := .mkI rfl (by omega) (by omega)
    by_cases hdb : d = b
    rotate_left
    · have hne : ¬ (d : Int) = b := by omega
      simp only [treeF, if_neg hdb] at hE
      simp [e0, e1, e2, e7, e8, hm, hli, hx, hne, w1.eq, -Int.natCast_add]
      rw [tree_fuel f (f + 1) b _ (by simp; omega) (by simp; omega)] at hE
      exact ⟨X.length - (j + 1), by omega, j + 1, rfl, by omega, O, rfl, rfl, hE, by omega⟩
    subst hdb
    obtain ⟨W, hW⟩ : ∃ W, ((X.drop (j + 1)).takeWhile fun x => decide (d < x.1)).length = W := ⟨_, rfl⟩
    simp [e0, e1, e2, e7, e8, hm, hli, hx, w1.eq, -Int.natCast_add]
    refine wp_loop (fun n t => ∃ e : Nat, n = X.length - e ∧ j + 1 ≤ e ∧ e ≤ X.length ∧ e ≤ j + 1 + W ∧ t.get 0 = vv none n1 l0V X ∧ t.get 1 = vv none n2 l0d X ∧ t.get 2 = AV.int IntKind.i64 (d : Nat) ∧ t.get 7 = ov 4 lnV O ∧ t.get 8 = AV.int IntKind.i64 (j : Nat) ∧ t.get 9 = AV.int IntKind.i64 (e : Nat) ∧ t.mem = []) ?_ (X.length - (j + 1)) _ ?_
    rotate_left
    · exact ⟨j + 1, by simp [e0, e1, e2, e7, e8, hm]; omega⟩
    rintro n' u ⟨e, hn', he1, he2, he3, u0, u1, u2, u7, u8, u9, um⟩
    have htw : ∀ h : e < X.length, (d < X[e].1 → e + 1 ≤ j + 1 + W) ∧ (¬ d < X[e].1 → e = j + 1 + W) := by
      intro h
      have hk : e - (j + 1) < (X.drop (j + 1)).length := by rw [List.length_drop]; omega
      have h1 := tw_at (p := fun x : Nat × L0 => decide (d < x.1)) (X.drop (j + 1)) (e - (j + 1)) hk (by omega)
      have h2 : (X.drop (j + 1))[e - (j + 1)] = X[e] := by rw [List.getElem_drop]; congr 1; omega
      rw [h2, hW] at h1
      exact ⟨fun h' => by have := h1.1 (by simpa using h'); omega, fun h' => by have := h1.2 (by simpa using h'); omega⟩
    by_cases hgo : ∃ h : e < X.length, d < X[e].1
    · obtain ⟨h, hd2⟩ := hgo
      have hei : (e : Int) < X.length := by omega
      have hdi : (d : Int) < (X[e].1 : Nat) := by omega
      have w2 : W64 ((e : Int) + 1) ((e + 1 : Nat) : Int) := .mkI rfl (by omega) (by omega)
      have hle := (htw h).1 hd2
      simp [u0, u1, u2, u7, u8, u9, um, hei, gi_nat h, hdi, w2.eq, -Int.natCast_add]
      exact ⟨X.length - (e + 1), by omega, e + 1, rfl, by omega, by omega, by omega, rfl⟩
    have heW : e = j + 1 + W := by
      by_cases h : e < X.length
      · exact (htw h).2 fun h' => hgo ⟨h, h'⟩
      · have hle : ((X.drop (j + 1)).takeWhile fun x => decide (d < x.1)).length ≤ (X.drop (j + 1)).length := (List.takeWhile_prefix _).length_le
        rw [hW, List.length_drop] at hle
        omega
    have htk : ((X.drop (j + 1)).takeWhile fun x => decide (d < x.1)) = (X.take e).drop (j + 1) := by
      have h1 := List.prefix_iff_eq_take.1 (List.takeWhile_prefix (fun x : Nat × L0 => decide (d < x.1)) (l := X.drop (j + 1)))
      rw [hW] at h1
      rw [h1, List.drop_take, heW]
      congr 1
      omega
    have hrec := ih (d + 1) ((X.take e).drop (j + 1)) n1 n2 (by rw [List.length_drop, List.length_take]; omega) (by omega) (by omega)
    have w2 : W64 ((d : Int) + 1) ((d + 1 : Nat) : Int) := .mkI rfl (by omega) (by omega)
    by_cases h : e < X.length
    · have hei : (e : Int) < X.length := by omega
      have hdi : ¬ (d : Int) < (X[e].1 : Nat) := fun h' => hgo ⟨h, by omega⟩
      simp [u0, u1, u2, u7, u8, u9, um, hei, gi_nat h, hdi, hx, hli, hrec, lnsV_eq, w1.eq, w2.eq, -Int.natCast_add]
      refine ⟨⟨by omega, by omega⟩, by omega, X.length - (j + 1), by omega, j + 1, rfl, by omega, O ++ [.mk l.toks l.head (treeF f (d + 1) ((X.take e).drop (j + 1))) l.at_], ?_, rfl, ?_, by simp; omega⟩
      · simp [ov, lnV, lnsV_eq]
      · rw [← hE]
        simp only [treeF, if_true, htk, List.append_assoc, List.cons_append, List.nil_append]
        rw [tree_fuel f (f + 1) d _ (by simp; omega) (by simp; omega)]
    · have hei : ¬ (e : Int) < X.length := by omega
      simp [u0, u1, u2, u7, u8, u9, um, hei, hx, hli, hrec, lnsV_eq, w1.eq, w2.eq, -Int.natCast_add]
      refine ⟨⟨by omega, by omega⟩, by omega, X.length - (j + 1), by omega, j + 1, rfl, by omega, O ++ [.mk l.toks l.head (treeF f (d + 1) ((X.take e).drop (j + 1))) l.at_], ?_, rfl, ?_, by simp; omega⟩
      · simp [ov, lnV, lnsV_eq]
      · rw [← hE]
        simp only [treeF, if_true, htk, List.append_assoc, List.cons_append, List.nil_append]
        rw [tree_fuel f (f + 1) d _ (by simp; omega) (by simp; omega)]
end Go.Vm.Ch10
