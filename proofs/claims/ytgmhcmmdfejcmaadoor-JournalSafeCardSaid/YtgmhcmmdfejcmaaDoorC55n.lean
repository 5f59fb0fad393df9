/- Chapter 55: what its functions compute. -/
import Derived.Test.YtgmhcmmdfejcmaaDoorC55m
namespace Go.Vm.Ch55
open _root_.Ch55 (T55 c31)
set_option maxRecDepth 10000
set_option maxHeartbeats 8000000
theorem scanL_h : ∀ (f : Nat) (b : List UInt8) (u : Nat) (h : List UInt8) (k : Nat) (x : Stp), (scanL f b u h)[k]? = some x → x.h = (recs ((scanL f b u h).take (k + 1))).foldl nxt h
  | 0, b, u, h, k, x, hx => by simp [scanL] at hx
  | f + 1, b, u, h, k, x, hx => by
    rw [scanL] at hx ⊢
    by_cases h1 : b.length < 20
    · rw [if_pos h1] at hx; simp at hx
    rw [if_neg h1] at hx ⊢
    by_cases h2 : badF b
    · rw [if_pos h2] at hx; simp at hx
    rw [if_neg h2] at hx ⊢
    by_cases h3 : b.take (frm h (recF b)).length = frm h (recF b)
    · rw [if_pos h3] at hx ⊢
      cases k with
      | zero => simp at hx; subst hx; simp [recs]
      | succ k =>
        have := scanL_h f _ _ _ k x (by simpa using hx)
        rw [this]
        simp [recs]
    · rw [if_neg h3] at hx; simp at hx
theorem scanL_r : ∀ (f : Nat) (b : List UInt8) (u : Nat) (h : List UInt8) (x : Stp), x ∈ scanL f b u h → x.r.length ≤ b.length
  | 0, b, u, h, x, hx => by simp [scanL] at hx
  | f + 1, b, u, h, x, hx => by
    rw [scanL] at hx
    by_cases h1 : b.length < 20
    · rw [if_pos h1] at hx; simp at hx
    rw [if_neg h1] at hx
    by_cases h2 : badF b
    · rw [if_pos h2] at hx; simp at hx
    rw [if_neg h2] at hx
    by_cases h3 : b.take (frm h (recF b)).length = frm h (recF b)
    · rw [if_pos h3] at hx
      rcases List.mem_cons.1 hx with rfl | hx
      · simp [recF]; omega
      · have := scanL_r f _ _ _ x hx
        simp at this; omega
    · rw [if_neg h3] at hx; simp at hx
theorem recs_le {d : List UInt8} {r : List UInt8} (h : r ∈ recs (scanA d)) : r.length ≤ d.length := by
  obtain ⟨x, hx, rfl⟩ := List.mem_map.1 h
  exact scanL_r _ _ _ _ _ hx
theorem scanA_h {d : List UInt8} {k : Nat} {x : Stp} (hx : (scanA d)[k]? = some x) : x.h = chn ((recs (scanA d)).take (k + 1)) := by
  have := scanL_h _ _ _ _ k x hx
  rw [this]
  simp only [chn, scanA, recs, List.map_take]
theorem hat_chn (d : List UInt8) (k : Nat) (hk : k ≤ (scanA d).length) : hAt (scanA d) k = chn ((recs (scanA d)).take k) := by
  cases k with
  | zero => simp [hAt, chn]
  | succ k =>
    have hx : (scanA d)[k]? = some (scanA d)[k] := List.getElem?_eq_getElem (by omega)
    rw [(at_take hx).2, scanA_h hx]
theorem hed_chn (d : List UInt8) : hed d = chn (recs (scanA d)) := by
  unfold hed
  rw [hat_chn d _ (Nat.le_refl _), List.take_of_length_le (by simp [recs])]
theorem ext_iff (d w : List UInt8) : ext d w = true ↔ ∃ n, n ≤ (recs (scanA d)).length ∧ chn ((recs (scanA d)).take n) = w := by
  unfold ext fnd
  simp only [List.take_length, decide_eq_true_eq]
  constructor
  · rintro (rfl | ⟨x, hx, rfl⟩)
    · exact ⟨0, by omega, by simp [chn]⟩
    · obtain ⟨k, hk, rfl⟩ := List.getElem_of_mem hx
      exact ⟨k + 1, by simp [recs]; omega, (scanA_h (List.getElem?_eq_getElem hk)).symm⟩
  · rintro ⟨n, hn, rfl⟩
    cases n with
    | zero => exact .inl (by simp [chn])
    | succ k =>
      have hk : k < (scanA d).length := by simp [recs] at hn; omega
      exact .inr ⟨_, List.getElem_mem hk, scanA_h (List.getElem?_eq_getElem hk)⟩
theorem q31 (d w : List UInt8) (hd : d.length ≤ 100000) (m : Mem) : callL T55 31 [.str d, .str w] m = some (.bool (ext d w), m) := by
  have h26 := q26 d hd []
  have hs := scanA_small d
  have hr : ∀ r ∈ recs (scanA d), r.length ≤ 100000 := fun r h => by have := recs_le h; omega
  have hlen : (recs (scanA d)).length = (scanA d).length := by simp [recs]
  have hex := ext_iff d w
  generalize ext d w = X at *
  generalize used d = U at *
  generalize hed d = H at *
  rw [← hlen] at hs
  clear hlen
  generalize recs (scanA d) = R at *
  apply callL_body (vf := c31) rfl rfl
  simp [c31, h26]
  refine wp_loop (fun wx s => ∃ i : Nat, wx = R.length + 1 - i ∧ i ≤ R.length + 1 ∧ s.get 5 = sv true R ∧ s.get 1 = .str w ∧ s.get 8 = AV.int IntKind.i64 i ∧ s.mem = m ∧ ∀ n, n < i → chn (R.take n) ≠ w) ?_ (R.length + 1) _ ?_
  rotate_left
  · exact ⟨0, by simp⟩
  rintro wx s ⟨i, hn, hi, e5, e1, e8, hm, hb⟩
  by_cases hlt : i ≤ R.length
  · have w1 : W64 ((i : Int) + 1) ((i + 1 : Nat) : Int) := .mkI rfl (by omega) (by omega)
    have h28 := q28 (R.take i) true (by simp; omega) (fun r h => hr r (List.mem_of_mem_take h)) []
    have hlt' : (i : Int) ≤ R.length := by omega
    by_cases he : chn (R.take i) = w
    · have hX : X = true := hex.2 ⟨i, hlt, he⟩
      subst hX
      simp [e5, e1, e8, hm, hlt', h28, he]
    · simp [e5, e1, e8, hm, hlt', h28, he, w1.eq, -Int.natCast_add]
      exact ⟨R.length + 1 - (i + 1), by omega, i + 1, rfl, by omega, rfl, fun n hn => if e : n = i then by rw [e]; exact he else hb n (by omega)⟩
  · have hlt' : ¬ (i : Int) ≤ R.length := by omega
    have hX : X = false := by
      cases X with
      | false => rfl
      | true =>
        obtain ⟨n, h1, h2⟩ := hex.1 rfl
        exact absurd h2 (hb n (by omega))
    subst hX
    simp [e5, e8, hm, hlt']
end Go.Vm.Ch55
