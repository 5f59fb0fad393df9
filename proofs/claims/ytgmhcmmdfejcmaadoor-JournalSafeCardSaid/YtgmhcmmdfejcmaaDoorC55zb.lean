/- Chapter 55: what its functions compute. -/
import Derived.Test.YtgmhcmmdfejcmaaDoorC55za
namespace Go.Vm.Ch55
set_option maxRecDepth 10000
set_option maxHeartbeats 8000000
theorem scan_cut : ∀ (R : List (List UInt8)) (h : List UInt8) (f u n0 : Nat), (∀ r ∈ R, r.length ≤ 1000) → ((frs h R).take n0).length ≤ f →
    ∃ n, n ≤ R.length ∧ scanL f ((frs h R).take n0) u h = stps u h (R.take n) ∧ ∀ i, i < R.length → (frs h (R.take (i + 1))).length ≤ n0 → i < n
  | [], h, f, u, n0, _, _ => ⟨0, Nat.le_refl _, by simp only [frs, List.take_nil, stps]; exact scanL_stop (fun h => by simp at h), fun i hi => by simp at hi⟩
  | r :: L, h, f, u, n0, hr, hf => by
    have hr0 := hr r (by simp)
    have hl := frm_len h r
    simp only [frs] at hf ⊢
    by_cases hn : n0 < (frm h r).length
    · refine ⟨0, by simp, ?_, fun i hi he => ?_⟩
      · rw [scanL_cut hr0 _ hn]; simp [stps]
      · simp only [List.take_succ_cons, frs, List.length_append] at he; omega
    · have e : (frm h r ++ frs (nxt h r) L).take n0 = frm h r ++ (frs (nxt h r) L).take (n0 - (frm h r).length) := by
        rw [List.take_append, List.take_of_length_le (by omega)]
      rw [e] at hf ⊢
      rw [List.length_append] at hf
      obtain ⟨f, rfl⟩ : ∃ f', f = f' + 1 := ⟨f - 1, by omega⟩
      obtain ⟨n, h1, h2, h3⟩ := scan_cut L (nxt h r) f (u + (frm h r).length) (n0 - (frm h r).length) (fun x hx => hr x (by simp [hx])) (by omega)
      refine ⟨n + 1, by simpa using h1, ?_, fun i hi he => ?_⟩
      · rw [scanL_frm _ _ _ _ _ hr0, h2]; simp [stps]
      · cases i with
        | zero => omega
        | succ i =>
          simp only [List.take_succ_cons, frs, List.length_append] at he
          have := h3 i (by simpa using hi) (by omega)
          omega
theorem scan_flip : ∀ (R : List (List UInt8)) (h : List UInt8) (f u n0 p : Nat) (z : UInt8), (∀ r ∈ R, r.length ≤ 1000) → ((frs h R).take n0).length ≤ f → p < n0 → p < (frs h R).length → (frs h R).getD p 0 ≠ z →
    ∃ n, n ≤ R.length ∧ scanL f (((frs h R).take n0).set p z) u h = stps u h (R.take n) ∧ ∀ i, i < R.length → (frs h (R.take (i + 1))).length ≤ p → i < n
  | [], h, f, u, n0, p, z, _, _, _, hp, _ => by simp [frs] at hp
  | r :: L, h, f, u, n0, p, z, hr, hf, hpn, hp, hz => by
    have hr0 := hr r (by simp)
    have hl := frm_len h r
    simp only [frs] at hf hp hz ⊢
    by_cases hn : p < (frm h r).length
    · refine ⟨0, by simp, ?_, fun i hi he => ?_⟩
      · rw [scanL_flip hr0 _ hn hpn hz]; simp [stps]
      · simp only [List.take_succ_cons, frs, List.length_append] at he; omega
    · have e : (frm h r ++ frs (nxt h r) L).take n0 = frm h r ++ (frs (nxt h r) L).take (n0 - (frm h r).length) := by
        rw [List.take_append, List.take_of_length_le (by omega)]
      rw [e] at hf ⊢
      rw [List.length_append] at hf
      have e2 : (frm h r ++ (frs (nxt h r) L).take (n0 - (frm h r).length)).set p z = frm h r ++ ((frs (nxt h r) L).take (n0 - (frm h r).length)).set (p - (frm h r).length) z := List.set_append_right _ _ (by omega)
      rw [e2]
      obtain ⟨f, rfl⟩ : ∃ f', f = f' + 1 := ⟨f - 1, by omega⟩
      have hz' : (frs (nxt h r) L).getD (p - (frm h r).length) 0 ≠ z := by
        intro e3
        apply hz
        rw [← e3]
        unfold List.getD
        rw [List.getElem?_append_right (by omega)]
      rw [List.length_append] at hp
      obtain ⟨n, h1, h2, h3⟩ := scan_flip L (nxt h r) f (u + (frm h r).length) (n0 - (frm h r).length) (p - (frm h r).length) z (fun x hx => hr x (by simp [hx])) (by omega) (by omega) (by omega) hz'
      refine ⟨n + 1, by simpa using h1, ?_, fun i hi he => ?_⟩
      · rw [scanL_frm _ _ _ _ _ hr0, h2]; simp [stps]
      · cases i with
        | zero => omega
        | succ i =>
          simp only [List.take_succ_cons, frs, List.length_append] at he
          have := h3 i (by simpa using hi) (by omega)
          omega
theorem dur_lt {R : List (List UInt8)} {d i : Nat} (h : i < dur R d) : i < R.length ∧ endN R i ≤ d := by
  unfold dur at h
  have hl : i < (List.range R.length).length := Nat.lt_of_lt_of_le h (List.findIdx_le_length)
  have := List.not_of_lt_findIdx h
  simp at this hl
  exact ⟨hl, by omega⟩
theorem dur_le (R : List (List UInt8)) (d : Nat) : dur R d ≤ R.length := by
  unfold dur
  have := List.findIdx_le_length (p := fun n => decide (d < endN R n)) (xs := List.range R.length)
  simpa using this
/-- A crash leaves a beginning of the records, with all that were durable. -/
theorem crs_recs {R : List (List UInt8)} {d : Nat} (hr : ∀ r ∈ R, r.length ≤ 1000) (hd : d ≤ (frs zero16 R).length) (kept at' : Int) (flip : UInt8) :
    ∃ n, n ≤ R.length ∧ dur R d ≤ n ∧ recs (scanA (crs (frs zero16 R) d kept at' flip)) = R.take n := by
  have hll := lft_le (frs zero16 R).length d kept
  have hend : ∀ n x, d ≤ x → (∀ i, i < R.length → (frs zero16 (R.take (i + 1))).length ≤ x → i < n) → dur R d ≤ n := fun n x hx hh => by
    refine Classical.byContradiction fun e => ?_
    obtain ⟨h1, h2⟩ := dur_lt (R := R) (d := d) (i := n) (by omega)
    have := hh n h1 (by unfold endN at h2; omega)
    omega
  have hcut : ∀ n0, d ≤ n0 → ∃ n, n ≤ R.length ∧ dur R d ≤ n ∧ recs (scanA ((frs zero16 R).take n0)) = R.take n := fun n0 h0 => by
    obtain ⟨n, h1, h2, h3⟩ := scan_cut R zero16 _ 0 n0 hr (Nat.le_refl _)
    exact ⟨n, h1, hend n n0 h0 h3, by unfold scanA; rw [h2, recs_stps]⟩
  unfold crs
  split
  · rename_i ha
    obtain ⟨a, rfl⟩ := Int.eq_ofNat_of_zero_le ha.1
    generalize lft (frs zero16 R).length d kept = l at *
    have hal : a < l := by omega
    rw [show ((a : Int)).toNat = a from rfl]
    by_cases hz : (frs zero16 R).getD (d + a) 0 = xorb ((frs zero16 R).getD (d + a) 0) flip
    · have hset : ((frs zero16 R).take (d + l)).set (d + a) (xorb ((frs zero16 R).getD (d + a) 0) flip) = (frs zero16 R).take (d + l) := by
        rw [← hz]
        have hlt : d + a < ((frs zero16 R).take (d + l)).length := by simp; omega
        have hlt2 : d + a < (frs zero16 R).length := by omega
        have : (frs zero16 R).getD (d + a) 0 = ((frs zero16 R).take (d + l))[d + a] := by simp [List.getD, hlt2]
        rw [this]
        exact List.set_getElem_self hlt
      rw [hset]
      exact hcut _ (by omega)
    · obtain ⟨n, h1, h2, h3⟩ := scan_flip R zero16 ((frs zero16 R).take (d + l)).length 0 (d + l) (d + a) _ hr (Nat.le_refl _) (by omega) (by omega) hz
      refine ⟨n, h1, hend n (d + a) (by omega) h3, ?_⟩
      unfold scanA
      rw [List.length_set, h2, recs_stps]
  · exact hcut _ (by omega)
theorem dur_add {R : List (List UInt8)} {d : Nat} (hd : d ≤ (frs zero16 R).length) (r : List UInt8) : dur (R ++ [r]) d = dur R d := by
  have hle := dur_le R d
  refine dur_eq (by simp; omega) (fun n hn => ?_) (.inr ?_)
  · obtain ⟨h1, h2⟩ := dur_lt hn
    rw [endN_snoc h1]; exact h2
  · by_cases h : dur R d < R.length
    · rw [endN_snoc h]
      have hl : (List.range R.length).findIdx (fun n => decide (d < endN R n)) < (List.range R.length).length := by simpa [dur] using h
      have := List.findIdx_getElem (w := hl)
      simpa [dur] using this
    · have e : dur R d = R.length := by omega
      rw [e]
      have : (R ++ [r]).take (R.length + 1) = R ++ [r] := List.take_of_length_le (by simp)
      unfold endN
      rw [this, ← frs_add, List.length_append, frm_len]
      omega
end Go.Vm.Ch55
