/- Chapter 55: what its functions compute. -/
import Derived.Test.YtgmhcmmdfejcmaaDoorC55s
namespace Go.Vm.Ch55
open _root_.Ch55 (T55 c32)
set_option maxRecDepth 10000
set_option maxHeartbeats 8000000
theorem stps_take : ∀ (L : List (List UInt8)) (u : Nat) (h : List UInt8) (k : Nat), (stps u h L).take k = stps u h (L.take k)
  | [], u, h, k => by simp [stps]
  | r :: L, u, h, 0 => by simp [stps]
  | r :: L, u, h, k + 1 => by simp [stps, stps_take L]
theorem uat_frs (d : List UInt8) (k : Nat) : uAt (scanA d) k = (frs zero16 ((recs (scanA d)).take k)).length := by
  obtain ⟨h1, -⟩ := scanA_is d
  unfold uAt
  rw [h1, recs_stps, stps_take, last_stps]
  omega
theorem lt_opM {m : Mem} {k i : Nat} {R : List (List UInt8)} (h : i < m.length) : (opM m k R)[i]? = m[i]? := by
  unfold opM; exact List.getElem?_append_left h
theorem Cont.lt {m : Mem} {cv : AV} {B : List UInt8} {i : Nat} (h : Cont m cv B (some i)) : i < m.length := by
  cases h with
  | row i B r hi => exact lt_of_get hi
theorem FileAt.lt {m : Mem} {k : Nat} {oi : Option Nat} {B : List UInt8} {d : Nat} (h : FileAt m k oi B d) : k < m.length ∧ ∀ i, oi = some i → i < m.length := by
  obtain ⟨⟨cv, hk, hc⟩, -, -⟩ := h
  exact ⟨lt_of_get hk, fun i e => by subst e; exact hc.lt⟩
/-- A file, seen in a memory that holds the same of it. -/
theorem FileAt.other {m m' : Mem} {k : Nat} {oi : Option Nat} {B : List UInt8} {d : Nat} (h : FileAt m k oi B d) (h1 : m'[k]? = m[k]?) (h2 : ∀ i, oi = some i → m'[i]? = m[i]?) : FileAt m' k oi B d := by
  obtain ⟨⟨cv, hk, hc⟩, h3, h4⟩ := h
  exact ⟨⟨cv, by rw [h1]; exact hk, hc.other h2⟩, h3, h4⟩
theorem Keeps.trans {a b c : Mem} {k : Nat} {oi : Option Nat} (h : Keeps a b k oi oi) (h2 : Keeps b c k oi oi) : Keeps a c k oi oi :=
  ⟨Nat.le_trans h.len h2.len, fun j h3 h4 h5 => by rw [h2.same j (Nat.lt_of_lt_of_le h3 h.len) h4 h5, h.same j h3 h4 h5], .inl rfl⟩
/-- A journal, its file, and what lies in it. -/
structure JAt (m : Mem) (j k : Nat) (oi : Option Nat) (B : List UInt8) (d : Nat) (R : List (List UInt8)) : Prop where
  fil : FileAt m k oi B d
  obj : m[j]? = some (jO k R (chn R))
  ne : j ≠ k
  noi : oi ≠ some j
  cont : B = frs zero16 R
theorem q32 (m : Mem) (k : Nat) (oi : Option Nat) (B : List UInt8) (d : Nat) (h : FileAt m k oi B d) (hB : B.length ≤ 100000) :
    ∃ m', callL T55 32 [.ptr (.mem k) 0] m = some (.ptr (.mem m.length) 0, m') ∧ JAt m' m.length k oi (B.take (used B)) (used B) (recs (scanA B)) ∧ Keeps m m' k oi oi := by
  obtain ⟨hkl, hol⟩ := h.lt
  have h45 := q45 []
  have hsm := scanA_small B
  obtain ⟨k1, k2, k3, k4⟩ := scanA_is B
  have hu := used_of k1
  have hF0 : FileAt (opM m k []) k oi B d := h.other (lt_opM hkl) fun i e => lt_opM (hol i e)
  have hF1 : FileAt (opM m k (recs (scanA B))) k oi B d := h.other (lt_opM hkl) fun i e => lt_opM (hol i e)
  have h20 := q20 _ _ _ _ _ hF0
  have key := q46 B hB 49 [.vptr [.ptr (.mem m.length) 0] 0, .ptr (.mem (m.length + 1)) 0] (scanA B).length (fun n => opM m k ((recs (scanA B)).take n)) (fun _ => true) (Nat.le_refl _) (fun n x hn hx => by
      have e : (recs (scanA B)).take (n + 1) = (recs (scanA B)).take n ++ [x.r] := by
        have := recs_take hx
        simpa [recs, List.map_take] using this
      have h1 := at_take hx
      have h2 := uat_frs B (n + 1)
      have h3 := hat_chn B (n + 1) (by omega)
      have := q49 m k ((recs (scanA B)).take n) (by simp [recs]; omega) x.r x.u x.h (by rw [← e, ← h2, h1.1]) (by rw [← e, ← h3, h1.2])
      rw [← e] at this
      exact this) (fun _ _ => rfl) (.inl rfl)
  have hrl : (recs (scanA B)).length = (scanA B).length := by simp [recs]
  simp only [List.take_zero] at key
  rw [← hrl, List.take_length] at key
  have h18 := q18 _ _ _ _ _ hF1 (by omega) (used B)
  rw [if_pos ⟨by omega, by omega⟩] at h18
  obtain ⟨m2, hc2, hf2, hk2⟩ := h18
  rw [Int.toNat_natCast] at hf2
  obtain ⟨m3, hc3, hf3, hk3⟩ := q14 _ _ _ _ _ hf2
  have hkk := hk2.trans hk3
  have hjl : m.length < (opM m k (recs (scanA B))).length := by simp [opM]
  have hne : m.length ≠ k := by omega
  have hoj : oi ≠ some m.length := fun e => by have := hol _ e; omega
  have htl : (B.take (used B)).length = used B := by simp; omega
  rw [htl] at hf3
  refine ⟨m3, ?_, ⟨hf3, ?_, hne, hoj, k2.symm⟩, ⟨?_, ?_, .inl rfl⟩⟩
  · have hg1 : (opM m k (recs (scanA B)))[m.length + 1]? = some (cel (AV.int IntKind.i64 (used B))) := by
      unfold opM; rw [← hu]; simp
    have e0 : opM m k [] = m ++ [some (.cells false [.ptr (.mem k) 0, .vec none false [], .vec none false [], .str zero16]), some (.cells false [AV.int IntKind.i64 0])] := rfl
    rw [e0] at h20 key
    generalize opM m k (recs (scanA B)) = m1 at *
    apply callL_body (vf := c32) rfl rfl
    simp [c32, h45, objCells, h20, key, hg1, hc2, hc3]
  · rw [hkk.same _ hjl hne hoj]; unfold opM; simp
  · have := hkk.len; omega
  · intro j h1 h2 h3
    rw [hkk.same j (by simp [opM]; omega) h2 h3, lt_opM h1]
end Go.Vm.Ch55
