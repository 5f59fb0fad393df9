/- Chapter 55: what its functions compute. -/
import Derived.Test.YtgmhcmmdfejcmaaDoorC55z
namespace Go.Vm.Ch55
set_option maxRecDepth 10000
set_option maxHeartbeats 8000000
/-! ### what a crash leaves -/
theorem scanL_stop {f : Nat} {b : List UInt8} {u : Nat} {h : List UInt8} (hs : 20 ≤ b.length → ¬ badF b → (b.drop (4 + recN b)).take 16 = nxt h (recF b) → False) : scanL f b u h = [] := by
  cases f with
  | zero => rfl
  | succ f =>
    rw [scanL]
    by_cases h1 : b.length < 20
    · rw [if_pos h1]
    rw [if_neg h1]
    by_cases h2 : badF b
    · rw [if_pos h2]
    rw [if_neg h2]
    by_cases h3 : b.take (frm h (recF b)).length = frm h (recF b)
    · exact (hs (by omega) h2 ((take_frm h (by omega) h2).1 h3)).elim
    · rw [if_neg h3]
theorem byt_take {X : List UInt8} {n i : Nat} (h : i < n) : byt (X.take n) i = byt X i := by
  unfold byt; simp [List.getD, h]
theorem byt_set {X : List UInt8} {p i : Nat} {z : UInt8} (h : i < X.length) : byt (X.set p z) i = if p = i then z.toNat else byt X i := by
  unfold byt
  by_cases e : p = i
  · subst e; simp [List.getD, h]
  · simp [List.getD, e]
theorem scanL_cut {h r : List UInt8} (hr : r.length ≤ 1000) (t : List UInt8) {n : Nat} (hn : n < (frm h r).length) (f u : Nat) : scanL f ((frm h r ++ t).take n) u h = [] := by
  obtain ⟨s1, s2, s3⟩ := frm_shape hr h r t rfl
  have hl := frm_len h r
  refine scanL_stop fun h20 hb _ => ?_
  have hbl : ((frm h r ++ t).take n).length = n := by simp; omega
  have hN : recN ((frm h r ++ t).take n) = r.length := by
    rw [← s1]; unfold recN; rw [byt_take (by omega), byt_take (by omega)]
  apply hb
  exact .inr (.inr (.inr (by rw [hN, hbl]; omega)))
theorem nxt_flip {h r : List UInt8} {q : Nat} (hq : q < r.length) {z : UInt8} (hz : r[q] ≠ z) : nxt h (r.set q z) ≠ nxt h r := by
  have e1 : r = r.take q ++ r[q] :: r.drop (q + 1) := by simp
  have e2 : r.set q z = r.take q ++ z :: r.drop (q + 1) := List.set_eq_take_append_cons_drop.trans (by rw [if_pos hq])
  unfold nxt
  rw [e2]
  conv => rhs; rw [e1]
  rw [← List.append_assoc, ← List.append_assoc]
  exact dig_flip _ _ (Ne.symm hz)
theorem scanL_flip {h r : List UInt8} (hr : r.length ≤ 1000) (t : List UInt8) {n p : Nat} {z : UInt8} (hp : p < (frm h r).length) (hpn : p < n) (hz : (frm h r ++ t).getD p 0 ≠ z) (f u : Nat) :
    scanL f (((frm h r ++ t).take n).set p z) u h = [] := by
  obtain ⟨s1, s2, s3⟩ := frm_shape hr h r t rfl
  have hl := frm_len h r
  have hpX : p < (frm h r ++ t).length := by simp; omega
  have hz2 : ∀ i, i = p → byt (frm h r ++ t) i ≠ z.toNat := fun i e e2 => hz (UInt8.toNat_inj.1 (by rw [← e]; exact e2))
  obtain ⟨X, hX⟩ : ∃ X, frm h r ++ t = X := ⟨_, rfl⟩
  rw [hX] at s1 s2 s3 hpX hz2 hz ⊢
  have hr' : (X.take (4 + r.length)).drop 4 = r := by
    have : recF X = (X.take (4 + recN X)).drop 4 := rfl
    rw [s1] at this; rw [← this, s2]
  refine scanL_stop fun h20 hb hd => ?_
  rw [List.length_set] at h20
  have hn20 : 20 ≤ n := by simp at h20; omega
  have hX20 : 20 ≤ X.length := by simp at h20; omega
  have hb4 : ∀ i, i < 4 → byt ((X.take n).set p z) i = if p = i then z.toNat else byt X i := fun i hi => by
    rw [byt_set (by omega), byt_take (by omega)]
  have x0 := byt_lt X 0
  have x1 := byt_lt X 1
  have zl := z.toNat_lt
  have g2 : byt X 2 = 255 - byt X 0 := Classical.byContradiction fun e => s3 (.inl e)
  have g3 : byt X 3 = 255 - byt X 1 := Classical.byContradiction fun e => s3 (.inr (.inl e))
  have c2 : byt ((X.take n).set p z) 2 = 255 - byt ((X.take n).set p z) 0 := Classical.byContradiction fun e => hb (.inl e)
  have c3 : byt ((X.take n).set p z) 3 = 255 - byt ((X.take n).set p z) 1 := Classical.byContradiction fun e => hb (.inr (.inl e))
  rw [hb4 2 (by omega), hb4 0 (by omega)] at c2
  rw [hb4 3 (by omega), hb4 1 (by omega)] at c3
  have p4 : 4 ≤ p := by
    refine Classical.byContradiction fun hlt => ?_
    have : p = 0 ∨ p = 1 ∨ p = 2 ∨ p = 3 := by omega
    rcases this with rfl | rfl | rfl | rfl
    · have := hz2 0 rfl; simp at c2; omega
    · have := hz2 1 rfl; simp at c3; omega
    · have := hz2 2 rfl; simp at c2; omega
    · have := hz2 3 rfl; simp at c3; omega
  have hN : recN ((X.take n).set p z) = r.length := by
    rw [← s1]; unfold recN; rw [hb4 0 (by omega), hb4 1 (by omega), if_neg (by omega), if_neg (by omega)]
  have hbl : r.length + 20 ≤ ((X.take n).set p z).length := by
    refine Classical.byContradiction fun e => hb (.inr (.inr (.inr ?_)))
    rw [hN]; omega
  rw [List.length_set, List.length_take] at hbl
  have hrF : recF ((X.take n).set p z) = r.set (p - 4) z := by
    unfold recF
    rw [hN, List.take_set, List.take_take, Nat.min_eq_left (by omega), List.drop_set, if_neg (by omega)]
    rw [hr']
  have e0 : (X.drop (4 + r.length)).take 16 = nxt h r := by
    rw [← hX, frm, List.append_assoc, List.append_assoc, ← List.append_assoc, List.drop_append_of_le_length (by simp [front]; omega)]
    have : (front r.length ++ r).drop (4 + r.length) = [] := List.drop_eq_nil_of_le (by simp [front]; omega)
    rw [this, List.nil_append]
    have h16 := nxt_len h r
    rw [List.take_append_of_le_length (by omega), List.take_of_length_le (by omega)]
  have hdg : (((X.take n).set p z).drop (4 + r.length)).take 16 = if p < 4 + r.length then nxt h r else (nxt h r).set (p - (4 + r.length)) z := by
    rw [List.drop_set]
    have e1 : ((X.take n).drop (4 + r.length)).take 16 = nxt h r := by
      rw [List.drop_take, List.take_take, Nat.min_eq_left (by omega), e0]
    split
    · exact e1
    · rw [List.take_set, e1]
  rw [hN, hdg, hrF] at hd
  by_cases hpr : p < 4 + r.length
  · rw [if_pos hpr] at hd
    have hq : p - 4 < r.length := by omega
    have hne : r[p - 4] ≠ z := by
      intro e
      apply hz
      have h1 : X[p]? = r[p - 4]? := by
        calc X[p]? = ((X.take (4 + r.length)).drop 4)[p - 4]? := by
              rw [List.getElem?_drop, List.getElem?_take, if_pos (by omega)]; congr 1; omega
          _ = r[p - 4]? := by rw [hr']
      unfold List.getD
      rw [h1, List.getElem?_eq_getElem hq, e]; rfl
    exact nxt_flip hq hne hd.symm
  · have e : r.set (p - 4) z = r := List.set_eq_of_length_le (by omega)
    rw [if_neg hpr, e] at hd
    have h16 := nxt_len h r
    have hq : p - (4 + r.length) < (nxt h r).length := by omega
    apply hz
    have h1 : X[p]? = (nxt h r)[p - (4 + r.length)]? := by
      calc X[p]? = ((X.drop (4 + r.length)).take 16)[p - (4 + r.length)]? := by
            rw [List.getElem?_take, if_pos (by omega), List.getElem?_drop]; congr 1; omega
        _ = _ := by rw [e0]
    have h2 : (nxt h r)[p - (4 + r.length)]? = some z := by
      rw [← hd]; exact List.getElem?_set_self hq
    unfold List.getD
    rw [h1, h2]; rfl
end Go.Vm.Ch55
