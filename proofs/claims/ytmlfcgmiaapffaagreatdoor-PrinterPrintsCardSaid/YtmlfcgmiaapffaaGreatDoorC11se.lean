/- Chapter 11: what its functions compute. -/
import Derived.Test.YtmlfcgmiaapffaaGreatDoorC11sd
import Derived.Test.YtmlfcgmiaapffaaGreatDoorVJ
namespace Go.Vm.Ch11
open _root_.Ch11 (T11 c93 c63 c64 c65 c66)
set_option maxRecDepth 10000
set_option maxHeartbeats 16000000
abbrev byV (s : List UInt8) : List AV := s.map fun c => AV.int .u8 c.toNat
def Buf (m : Mem) (b : Nat) (buf : AV) (s : List UInt8) : Prop :=
  (buf = .vec none false [] ∧ s = []) ∨ ∃ j, buf = .typed 1 5 0 j s.length ∧ b < j ∧ s ≠ [] ∧ m[j]? = some (some (.cells false (byV s)))
def Bld (m : Mem) (b : Nat) (s : List UInt8) : Prop :=
  ∃ A buf, m[b]? = some (some (.cells false [A, buf])) ∧ (A = .typed 0 101 2 b 0 ∨ A = .ptr (.mem b) 0) ∧ Buf m b buf s
theorem Buf.set {m : Mem} {b : Nat} {buf : AV} {s : List UInt8} {X : Option LObj} (h : Buf m b buf s) : Buf (m.set b X) b buf s := by
  rcases h with h | ⟨j, h1, h2, h3, h4⟩
  · exact .inl h
  · exact .inr ⟨j, h1, h2, h3, by rw [List.getElem?_set_ne (by omega)]; exact h4⟩
theorem Buf.nl {m : Mem} {b : Nat} {buf : AV} {s : List UInt8} (h : Buf m b buf s) : buf.view = buf ∧ buf.nl = true ∧ buf.one = true ∧ lenSlV buf = some (AV.int .i64 s.length) ∧ buf.cells = [buf] ∧ rawCell (some buf) = some buf := by
  rcases h with ⟨rfl, rfl⟩ | ⟨j, rfl, -⟩
  · exact ⟨rfl, rfl, rfl, rfl, rfl, rfl⟩
  · exact ⟨rfl, rfl, rfl, rfl, rfl, rfl⟩
theorem shape_ok {v : AV} (h : v = .vec none false [] ∨ ∃ j l, v = .typed 1 5 0 j l) : (∀ s t, takeV s t v = (v, s)) ∧ ∀ a b, stCells 1 1 [a, b] v = some [a, v] := by
  rcases h with rfl | ⟨j, l, rfl⟩
  · exact ⟨fun _ _ => rfl, fun _ _ => rfl⟩
  · exact ⟨fun _ _ => rfl, fun _ _ => rfl⟩
theorem Buf.shape {m : Mem} {b : Nat} {buf : AV} {s : List UInt8} (h : Buf m b buf s) : buf = .vec none false [] ∨ ∃ j l, buf = .typed 1 5 0 j l := by
  rcases h with ⟨h, -⟩ | ⟨j, h, -⟩
  · exact .inl h
  · exact .inr ⟨j, _, h⟩
theorem q93 (m : Mem) (b : Nat) (A buf : AV) (s : List UInt8) (hb : m[b]? = some (some (.cells false [A, buf]))) (hA : A = .typed 0 101 2 b 0 ∨ A = .ptr (.mem b) 0) (_ : Buf m b buf s) :
    callL T11 93 [.ptr (.mem b) 0] m = some (.tup [], m.set b (some (.cells false [.ptr (.mem b) 0, buf]))) := by
  have hl : b < m.length := (List.getElem?_eq_some_iff.1 hb).1
  have hset : ∀ X, (m.set b X)[b]? = some X := fun X => List.getElem?_set_self hl
  apply callL_body (vf := c93) rfl rfl
  rcases hA with rfl | rfl
  · simp [c93, objCells, memO, hb, unsfV]
    done
  · simp [c93, objCells, memO, hb, unsfV, set_same hb]
    done
theorem q65 (m : Mem) (b : Nat) (s : List UInt8) (h : Bld m b s) : callL T11 65 [.ptr (.mem b) 0] m = some (AV.int .i64 s.length, m) := by
  obtain ⟨A, buf, h1, h2, h3⟩ := h
  obtain ⟨k1, k2, k3, k4, k5, k6⟩ := h3.nl
  apply callL_body (vf := c65) rfl rfl
  simp [c65, objCells, memO, h1, k1, k4]
theorem appB_buf {m : Mem} {b : Nat} {buf : AV} {s t : List UInt8} (h : Buf m b buf s) (ht : t ≠ []) (hb : b < m.length) (hl : s.length + t.length ≤ 1000000000) : ∃ j m', appB 5 1 m buf (byV t) = some (.typed 1 5 0 j (s ++ t).length, m') ∧ b < j ∧ m'[j]? = some (some (.cells false (byV (s ++ t)))) ∧ m'[b]? = m[b]? ∧ (∀ i, i < b → m'[i]? = m[i]?) ∧ m.length ≤ m'.length := by
  have hfl : ∀ l : List UInt8, flat (byV l) = byV l := by
    intro l
    induction l with
    | nil => rfl
    | cons x r ih => show flat (AV.int .u8 x.toNat :: byV r) = _; simp [flat] at ih ⊢; exact ih
  have hvw : ∀ l : List UInt8, (byV l).map AV.view = byV l := by
    intro l
    induction l with
    | nil => rfl
    | cons x r ih => simp
  have hte : (byV t).isEmpty = false := by cases t with
    | nil => exact absurd rfl ht
    | cons x r => rfl
  have hlt : (byV t).length = t.length := by simp
  rcases h with ⟨rfl, rfl⟩ | ⟨j, rfl, h2, h3, h4⟩
  · have e1 : appB 5 1 m (.vec none false []) (byV t) = some (.typed 1 5 0 m.length t.length, m ++ [some (.cells false (byV t))]) := by
      simp only [appB]
      rw [if_pos ⟨hte, by omega, by rw [hlt]; simp at hl; omega⟩, hfl, hvw, hlt]
    exact ⟨m.length, _, e1, hb, by simp, by rw [List.getElem?_append_left hb], fun i hi => by rw [List.getElem?_append_left (by omega)], by simp⟩
  · have hj : j < m.length := (List.getElem?_eq_some_iff.1 h4).1
    have hls : (byV s).length = s.length := by simp
    have htk : (byV s).take s.length = byV s := by rw [← hls]; exact List.take_length
    have e1 : appB 5 1 m (.typed 1 5 0 j s.length) (byV t) = some (.typed 1 5 0 m.length (s.length + t.length), m.set j none ++ [some (.cells false (byV s ++ byV t))]) := by
      simp only [appB, h4]
      rw [if_pos ⟨trivial, hte, by omega, by omega, by rw [hlt]; omega⟩, htk, hfl, List.map_append, hvw, hvw, hlt]
    refine ⟨m.length, _, by rw [List.length_append]; exact e1, hb, ?_, ?_, fun i hi => ?_, by simp⟩
    · rw [List.getElem?_append_right (by simp)]; simp
    · rw [List.getElem?_append_left (by simpa using hb), List.getElem?_set_ne (by omega)]
    · rw [List.getElem?_append_left (by simp; omega), List.getElem?_set_ne (by omega)]
theorem wr_all (m : Mem) (b : Nat) (s t : List UInt8) (h : Bld m b s) (hl : s.length + t.length ≤ 1000000000) : ∃ A buf buf' m1 m', m[b]? = some (some (.cells false [A, buf])) ∧ (A = .typed 0 101 2 b 0 ∨ A = .ptr (.mem b) 0) ∧ Buf m b buf s ∧ m1 = m.set b (some (.cells false [.ptr (.mem b) 0, buf])) ∧ m1[b]? = some (some (.cells false [.ptr (.mem b) 0, buf])) ∧
    (if t = [] then buf' = buf ∧ m' = m1 else appB 5 1 m1 buf (byV t) = some (buf', m')) ∧ m'[b]? = some (some (.cells false [.ptr (.mem b) 0, buf])) ∧ buf'.view = buf' ∧ buf'.nl = true ∧ buf'.one = true ∧ ((∀ s t, takeV s t buf' = (buf', s)) ∧ ∀ a b, stCells 1 1 [a, b] buf' = some [a, buf']) ∧
    Bld (m'.set b (some (.cells false [.ptr (.mem b) 0, buf']))) b (s ++ t) ∧ (∀ i, i < b → (m'.set b (some (.cells false [.ptr (.mem b) 0, buf'])))[i]? = m[i]?) ∧ m.length ≤ (m'.set b (some (.cells false [.ptr (.mem b) 0, buf']))).length := by
  obtain ⟨A, buf, h1, h2, h3⟩ := h
  have hl0 : b < m.length := (List.getElem?_eq_some_iff.1 h1).1
  obtain ⟨k1, k2, k3, k4, k5, k6⟩ := h3.nl
  have h4 := h3.set (X := some (.cells false [.ptr (.mem b) 0, buf]))
  obtain ⟨m1, hm1⟩ : ∃ m1, m.set b (some (.cells false [.ptr (.mem b) 0, buf])) = m1 := ⟨_, rfl⟩
  rw [hm1] at h4
  have hb1 : m1[b]? = some (some (.cells false [.ptr (.mem b) 0, buf])) := by rw [← hm1, List.getElem?_set_self hl0]
  have hl1 : m1.length = m.length := by rw [← hm1]; simp
  have hf1 : ∀ i, i < b → m1[i]? = m[i]? := fun i hi => by rw [← hm1, List.getElem?_set_ne (by omega)]
  by_cases ht : t = []
  · subst ht
    refine ⟨A, buf, buf, m1, m1, h1, h2, h3, hm1.symm, hb1, by simp, hb1, k1, k2, k3, shape_ok h3.shape, ?_, fun i hi => ?_, by simp; omega⟩
    · rw [set_same hb1, List.append_nil]
      exact ⟨_, _, hb1, .inr rfl, h4⟩
    · rw [set_same hb1]; exact hf1 i hi
  · obtain ⟨j, m2, g1, g2, g3, g4, g5, g6⟩ := appB_buf h4 ht (by omega) hl
    have hb2 : m2[b]? = some (some (.cells false [.ptr (.mem b) 0, buf])) := by rw [g4]; exact hb1
    refine ⟨A, buf, _, m1, m2, h1, h2, h3, hm1.symm, hb1, by rw [if_neg ht]; exact g1, hb2, rfl, rfl, rfl, shape_ok (.inr ⟨j, _, rfl⟩), ⟨_, _, List.getElem?_set_self (by omega), .inr rfl, .inr ⟨j, rfl, g2, by simp [ht], ?_⟩⟩, fun i hi => ?_, by simp; omega⟩
    · rw [List.getElem?_set_ne (by omega)]; exact g3
    · rw [List.getElem?_set_ne (by omega), g5 i hi]; exact hf1 i hi
theorem q63 (m : Mem) (b : Nat) (s t : List UInt8) (h : Bld m b s) (hl : s.length + t.length ≤ 1000000000) : ∃ m', callL T11 63 [.ptr (.mem b) 0, .str t] m = some (.tup [AV.int .i64 t.length, .nilIface], m') ∧ Bld m' b (s ++ t) ∧ (∀ i, i < b → m'[i]? = m[i]?) ∧ m.length ≤ m'.length := by
  obtain ⟨A, buf, buf', m1, m', h1, h2, h3, h4, h5, h6, h7, k1, k2, k3, k4, h8, h9, h10⟩ := wr_all m b s t h hl
  refine ⟨_, ?_, h8, h9, h10⟩
  have h93 := q93 m b A buf s h1 h2 h3
  rw [← h4] at h93
  obtain ⟨-, -, -, -, -, j6⟩ := h3.nl
  have hu : unsfV 2 5 1 m1 buf (.str t) = some (buf', m') := by
    simp only [unsfV]
    by_cases ht : t = []
    · rw [if_pos ht] at h6 ⊢
      rw [h6.1, h6.2]
      rcases h3 with ⟨rfl, -⟩ | ⟨j, rfl, -⟩ <;> rfl
    · rw [if_neg ht] at h6 ⊢
      exact h6
  apply callL_body (vf := c63) rfl rfl
  simp [c63, objCells, memO, h93, h5, j6, hu, h7, k3, k4.1]
  done
theorem q64 (m : Mem) (b : Nat) (s : List UInt8) (c : UInt8) (h : Bld m b s) (hl : s.length + 1 ≤ 1000000000) : ∃ m', callL T11 64 [.ptr (.mem b) 0, .int .u8 c.toNat] m = some (.nilIface, m') ∧ Bld m' b (s ++ [c]) ∧ (∀ i, i < b → m'[i]? = m[i]?) ∧ m.length ≤ m'.length := by
  obtain ⟨A, buf, buf', m1, m', h1, h2, h3, h4, h5, h6, h7, k1, k2, k3, k4, h8, h9, h10⟩ := wr_all m b s [c] h (by simpa using hl)
  refine ⟨_, ?_, h8, h9, h10⟩
  have h93 := q93 m b A buf s h1 h2 h3
  rw [← h4] at h93
  obtain ⟨-, -, -, -, -, j6⟩ := h3.nl
  rw [if_neg (by simp)] at h6
  have hu : unsfV 3 5 1 m1 buf (.vec (some 1) true [.int .u8 c.toNat]) = some (buf', m') := by
    simp only [unsfV, elems?]
    exact h6
  apply callL_body (vf := c64) rfl rfl
  simp [c64, objCells, memO, h93, h5, j6, hu, h7, k3, k4.1]
  done
theorem bytesR_byV : ∀ s : List UInt8, bytesR (byV s) = some s
  | [] => rfl
  | c :: s => by
    have h : (0 : Int) ≤ (c.toNat : Int) ∧ (c.toNat : Int) < 256 := ⟨by omega, by have := c.toNat_lt; omega⟩
    show bytesR (AV.int .u8 c.toNat :: byV s) = _
    simp only [bytesR, if_pos h, bytesR_byV s]
    simp
theorem q66 (m : Mem) (b : Nat) (s : List UInt8) (h : Bld m b s) (hl : s.length ≤ 1000000000) : ∃ m', callL T11 66 [.ptr (.mem b) 0] m = some (.str s, m') ∧ (∀ i, i < b → m'[i]? = m[i]?) ∧ m.length ≤ m'.length := by
  obtain ⟨A, buf, h1, h2, h3⟩ := h
  obtain ⟨k1, k2, k3, k4, k5, k6⟩ := h3.nl
  rcases h3 with ⟨rfl, rfl⟩ | ⟨j, rfl, j2, j3, j4⟩
  · refine ⟨m, ?_, fun _ _ => rfl, Nat.le_refl _⟩
    apply callL_body (vf := c66) rfl rfl
    simp [c66, objCells, memO, h1, unsfV, upV]
    done
  · have h0 : 0 < s.length := List.length_pos_iff.2 j3
    have htk : (byV s).take s.length = byV s := by rw [show s.length = (byV s).length by simp]; exact List.take_length
    have hu : unsfV 4 5 0 m (.typed 2 5 0 j 0) (AV.int .i64 s.length) = some (.str s, m.set j (some (.cells true []))) := by
      simp only [unsfV, j4]
      rw [if_pos ⟨trivial, by omega, by simp, by omega⟩]
      simp only [Int.toNat_natCast, htk, bytesR_byV]
    refine ⟨m.set j (some (.cells true [])), ?_, fun i hi => by rw [List.getElem?_set_ne (by omega)], by simp⟩
    apply callL_body (vf := c66) rfl rfl
    simp [c66, objCells, memO, h1, upV, h0, hu]
    done
end Go.Vm.Ch11
