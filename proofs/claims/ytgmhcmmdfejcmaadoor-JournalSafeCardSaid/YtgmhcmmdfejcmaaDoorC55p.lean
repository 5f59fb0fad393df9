/- Chapter 55: what its functions compute. -/
import Derived.Test.YtgmhcmmdfejcmaaDoorC55o
namespace Go.Vm.Ch55
set_option maxRecDepth 10000
set_option maxHeartbeats 8000000
/-! ### frames one behind the other -/
/-- The frames of records behind a head. -/
def frs : List UInt8 → List (List UInt8) → List UInt8
  | _, [] => []
  | h, r :: L => frm h r ++ frs (nxt h r) L
def stps : Nat → List UInt8 → List (List UInt8) → List Stp
  | _, _, [] => []
  | u, h, r :: L => ⟨r, u + (frm h r).length, nxt h r⟩ :: stps (u + (frm h r).length) (nxt h r) L
theorem recs_stps : ∀ (L : List (List UInt8)) (u : Nat) (h : List UInt8), recs (stps u h L) = L
  | [], _, _ => rfl
  | r :: L, u, h => by
    have := recs_stps L (u + (frm h r).length) (nxt h r)
    simp only [recs] at this
    simp [recs, stps, this]
theorem frs_snoc : ∀ (L : List (List UInt8)) (h r : List UInt8), frs h (L ++ [r]) = frs h L ++ frm (L.foldl nxt h) r
  | [], h, r => by simp [frs]
  | x :: L, h, r => by simp [frs, frs_snoc L (nxt h x) r]
theorem frm_shape {n : Nat} (hn : n ≤ 1000) (h r t : List UInt8) (hr : r.length = n) : recN (frm h r ++ t) = n ∧ recF (frm h r ++ t) = r ∧ ¬ badF (frm h r ++ t) := by
  have e : frm h r ++ t = UInt8.ofNat (n / 256) :: UInt8.ofNat (n % 256) :: UInt8.ofNat (255 - n / 256) :: UInt8.ofNat (255 - n % 256) :: (r ++ (nxt h r ++ t)) := by
    simp [frm, front, hr]
  have b0 : byt (frm h r ++ t) 0 = n / 256 := by
    rw [e]; show (UInt8.ofNat (n / 256)).toNat = _; simp; omega
  have b1 : byt (frm h r ++ t) 1 = n % 256 := by
    rw [e]; show (UInt8.ofNat (n % 256)).toNat = _; simp
  have b2 : byt (frm h r ++ t) 2 = 255 - n / 256 := by
    rw [e]; show (UInt8.ofNat (255 - n / 256)).toNat = _; simp; omega
  have b3 : byt (frm h r ++ t) 3 = 255 - n % 256 := by
    rw [e]; show (UInt8.ofNat (255 - n % 256)).toNat = _; simp; omega
  have hN : recN (frm h r ++ t) = n := by
    unfold recN; rw [b0, b1]; omega
  refine ⟨hN, ?_, ?_⟩
  · unfold recF
    rw [hN, e, show 4 + n = n + 1 + 1 + 1 + 1 by omega]
    simp [hr]
  · unfold badF
    rw [hN, b0, b1, b2, b3]
    have := frm_len h r
    simp; omega
theorem scanL_frm (f : Nat) (h r t : List UInt8) (u : Nat) (hr : r.length ≤ 1000) :
    scanL (f + 1) (frm h r ++ t) u h = ⟨r, u + (frm h r).length, nxt h r⟩ :: scanL f t (u + (frm h r).length) (nxt h r) := by
  obtain ⟨-, h2, h3⟩ := frm_shape hr h r t rfl
  have h4 := frm_len h r
  rw [scanL, if_neg (by simp; omega), if_neg h3, h2, if_pos (by simp), List.drop_left]
theorem scanL_frs : ∀ (L : List (List UInt8)) (f : Nat) (h t : List UInt8) (u : Nat), (∀ r ∈ L, r.length ≤ 1000) → t.length < 20 → L.length ≤ f → scanL f (frs h L ++ t) u h = stps u h L
  | [], f, h, t, u, _, ht, _ => by
    cases f with
    | zero => rfl
    | succ f => rw [scanL]; simp [frs, ht, stps]
  | r :: L, f, h, t, u, hr, ht, hf => by
    cases f with
    | zero => simp at hf
    | succ f =>
      simp only [frs, List.append_assoc]
      rw [scanL_frm _ _ _ _ _ (hr r (by simp)), scanL_frs L f _ _ _ (fun x hx => hr x (by simp [hx])) ht (by simpa using hf), stps]
theorem frs_len : ∀ (L : List (List UInt8)) (h : List UInt8), (frs h L).length = sumS L + 20 * L.length
  | [], h => by simp [frs, sumS]
  | r :: L, h => by
    have := frs_len L (nxt h r)
    have h4 := frm_len h r
    have e : sumS (r :: L) = r.length + sumS L := by simp [sumS]
    simp only [frs, List.length_append, this, h4, e, List.length_cons]
    omega
theorem scanA_frs (L : List (List UInt8)) (t : List UInt8) (hr : ∀ r ∈ L, r.length ≤ 1000) (ht : t.length < 20) : scanA (frs zero16 L ++ t) = stps 0 zero16 L := by
  unfold scanA
  exact scanL_frs L _ _ _ _ hr ht (by have := frs_len L zero16; simp; omega)
theorem last_stps : ∀ (L : List (List UInt8)) (u : Nat) (h : List UInt8), ((stps u h L).getLast?.map (·.u)).getD u = u + (frs h L).length
  | [], u, h => by simp [stps, frs]
  | r :: L, u, h => by
    have := last_stps L (u + (frm h r).length) (nxt h r)
    rw [stps, frs]
    cases L with
    | nil => simp [stps, frs]
    | cons x L =>
      simp only [stps, List.getLast?_cons_cons] at this ⊢
      rw [List.length_append]
      have e : ∀ (z : Stp) (l : List Stp) (a b : Nat), (((z :: l).getLast?).map (·.u)).getD a = (((z :: l).getLast?).map (·.u)).getD b := fun z l a b => by
        rw [List.getLast?_cons]; rfl
      rw [e _ _ u (u + (frm h r).length), this]
      omega
theorem used_of {d : List UInt8} {L : List (List UInt8)} (h : scanA d = stps 0 zero16 L) : used d = (frs zero16 L).length := by
  unfold used uAt
  rw [List.take_length, h, last_stps]
  omega
/-- What a scan finds are frames. -/
theorem scanL_is : ∀ (f : Nat) (b : List UInt8) (u : Nat) (h : List UInt8), scanL f b u h = stps u h (recs (scanL f b u h)) ∧ frs h (recs (scanL f b u h)) = b.take (frs h (recs (scanL f b u h))).length ∧ (∀ r ∈ recs (scanL f b u h), r.length ≤ 1000) ∧ (frs h (recs (scanL f b u h))).length ≤ b.length
  | 0, b, u, h => by simp [scanL, recs, stps, frs]
  | f + 1, b, u, h => by
    rw [scanL]
    by_cases h1 : b.length < 20
    · rw [if_pos h1]; simp [recs, stps, frs]
    rw [if_neg h1]
    by_cases h2 : badF b
    · rw [if_pos h2]; simp [recs, stps, frs]
    rw [if_neg h2]
    by_cases h3 : b.take (frm h (recF b)).length = frm h (recF b)
    · rw [if_pos h3]
      obtain ⟨i1, i2, i3, i4⟩ := scanL_is f (b.drop (frm h (recF b)).length) (u + (frm h (recF b)).length) (nxt h (recF b))
      have hn : recN b + 20 ≤ b.length ∧ recN b ≤ 1000 := by
        unfold badF at h2; omega
      have hrl : (recF b).length = recN b := by simp [recF]; omega
      have hfl := frm_len h (recF b)
      generalize scanL f (b.drop (frm h (recF b)).length) (u + (frm h (recF b)).length) (nxt h (recF b)) = S at *
      generalize hR : recF b = R at *
      have e : recs (⟨R, u + (frm h R).length, nxt h R⟩ :: S) = R :: recs S := rfl
      rw [e]
      refine ⟨?_, ?_, ?_, ?_⟩
      · rw [stps, ← i1]
      · rw [frs, List.length_append, List.take_add, h3, ← i2]
      · intro r hr
        rcases List.mem_cons.1 hr with rfl | hr
        · omega
        · exact i3 r hr
      · rw [frs, List.length_append]
        have : (b.drop (frm h R).length).length = b.length - (frm h R).length := List.length_drop
        omega
    · rw [if_neg h3]; simp [recs, stps, frs]
theorem scanA_is (d : List UInt8) : scanA d = stps 0 zero16 (recs (scanA d)) ∧ frs zero16 (recs (scanA d)) = d.take (used d) ∧ (∀ r ∈ recs (scanA d), r.length ≤ 1000) ∧ used d ≤ d.length := by
  obtain ⟨h1, h2, h3, h4⟩ := scanL_is d.length d 0 zero16
  have h5 := used_of h1
  have e : scanL d.length d 0 zero16 = scanA d := rfl
  rw [e] at *
  exact ⟨h1, by rw [h5]; exact h2, h3, by omega⟩
end Go.Vm.Ch55
