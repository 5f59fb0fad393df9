/- Chapter 55: what its functions compute. -/
import Derived.Test.YtgmhcmmdfejcmaaDoorC55u
namespace Go.Vm.Ch55
open _root_.Ch55 (T55 c33 c35 c39)
set_option maxRecDepth 10000
set_option maxHeartbeats 8000000
/-! ### the reference's journal -/
structure RAt (m : Mem) (j k : Nat) (B : List UInt8) (d : Nat) (R : List (List UInt8)) : Prop where
  obj : ∃ o, (o = none ∨ o = some 1) ∧ m[j]? = some (some (.cells false [.ptr (.mem k) 0, vv o true AV.str R, .str (chn R)]))
  fil : m[k]? = some (rfo B d)
  ne : j ≠ k
theorem q33 (m : Mem) (k : Nat) (B : List UInt8) (d : Nat) (h : m[k]? = some (rfo B d)) (hB : B.length ≤ 100000) (_ : d ≤ B.length) :
    ∃ m', callL T55 33 [.ptr (.mem k) 0] m = some (.ptr (.mem m.length) 0, m') ∧ RAt m' m.length k (B.take (used B)) (used B) (recs (scanA B)) ∧ m'.length = m.length + 1 ∧ ∀ i, i < m.length → i ≠ k → m'[i]? = m[i]? := by
  have h26 := q26 B hB []
  obtain ⟨k1, k2, k3, k4⟩ := scanA_is B
  have h19 := q19 m k B d h (used B)
  rw [if_pos ⟨by omega, by omega⟩, Int.toNat_natCast] at h19
  have hks := setk (lt_of_get h)
  have h15 := q15 (m.set k (rfo (B.take (used B)) (min d (used B)))) k _ _ (hks _)
  rw [List.set_set] at h15
  have htl : (B.take (used B)).length = used B := by simp; omega
  rw [htl] at h15
  have hkl := lt_of_get h
  rw [hed_chn] at h26
  refine ⟨m.set k (rfo (B.take (used B)) (used B)) ++ [some (.cells false [.ptr (.mem k) 0, sv true (recs (scanA B)), .str (chn (recs (scanA B)))])], ?_, ⟨⟨none, .inl rfl, by simp⟩, ?_, by omega⟩, by simp, ?_⟩
  · generalize recs (scanA B) = R at *
    generalize chn R = H at *
    generalize used B = U at *
    apply callL_body (vf := c33) rfl rfl
    simp [c33, objCells, h, h26, h19, h15]
  · rw [List.getElem?_append_left (by simpa using hkl)]; exact hks _
  · intro i h1 h2
    rw [List.getElem?_append_left (by simpa using h1), List.getElem?_set_ne (Ne.symm h2)]
theorem q35 (m : Mem) (j k : Nat) (B : List UInt8) (d : Nat) (R : List (List UInt8)) (h : RAt m j k B d R) (r : List UInt8) (hB : B.length ≤ 100000) (hr : r.length ≤ 50000) (hR : R.length ≤ 100000) :
    if r.length ≤ 1000 then ∃ m', callL T55 35 [.ptr (.mem j) 0, .str r] m = some (.bool true, m') ∧ RAt m' j k (B ++ frm (chn R) r) d (R ++ [r]) ∧ m'.length = m.length ∧ ∀ i, i ≠ j → i ≠ k → m'[i]? = m[i]?
    else callL T55 35 [.ptr (.mem j) 0, .str r] m = some (.bool false, m) := by
  obtain ⟨⟨o, ho, hj⟩, hf, hne⟩ := h
  split
  · rename_i h1
    have h1' : ¬ (1000 : Int) < r.length := by omega
    have hcl := chn_len R
    have h23 := q23 (chn R) r (by omega) h1 []
    have h24 := q24 (chn R) r (by omega) []
    have hfl := frm_len (chn R) r
    have hcs : nxt (chn R) r = chn (R ++ [r]) := (chn_snoc R r).symm
    rw [hcs] at h24
    have hks := setk (lt_of_get hf)
    have hjk : ∀ v, (m.set k v)[j]? = some (some (.cells false [.ptr (.mem k) 0, vv o true AV.str R, .str (chn R)])) := fun v => by rw [List.getElem?_set_ne (Ne.symm hne)]; exact hj
    have hjj : ∀ v w, ((m.set k v).set j w)[j]? = some w := fun v w => setk (by simpa using lt_of_get hj) w
    have hjj2 : ∀ v w, ((m.set k v).set j w)[k]? = some v := fun v w => by rw [List.getElem?_set_ne hne]; exact hks v
    have hll : B.length + (frm (chn R) r).length ≤ 9223372036854775807 := by omega
    have hel := elems_str true R
    refine ⟨(m.set k (rfo (B ++ frm (chn R) r) d)).set j (some (.cells false [.ptr (.mem k) 0, vv (some 1) true AV.str (R ++ [r]), .str (chn (R ++ [r]))])), ?_, ⟨⟨some 1, .inr rfl, hjj _ _⟩, hjj2 _ _, hne⟩, by simp, ?_⟩
    · generalize frm (chn R) r = F at *
      generalize chn (R ++ [r]) = N at *
      generalize chn R = H at *
      apply callL_body (vf := c35) rfl rfl
      have hview : AV.vec (some 1) true (List.map (AV.view ∘ AV.str) R ++ [AV.str r]) = vv (some 1) true AV.str (R ++ [r]) := by simp [vv]
      rcases ho with rfl | rfl
      · simp [c35, objCells, h1', hj, hf, h23, h24, hjk, hjj, hll, hel]
        exact ⟨by omega, by omega, by rw [hview]⟩
      · simp [c35, objCells, h1', hj, hf, h23, h24, hjk, hjj, hll, hel]
        exact ⟨by omega, by omega, by rw [hview]⟩
    · intro i h2 h3
      rw [List.getElem?_set_ne (Ne.symm h2), List.getElem?_set_ne (Ne.symm h3)]
  · rename_i h1
    have h1' : (1000 : Int) < r.length := by omega
    apply callL_body (vf := c35) rfl rfl
    simp [c35, h1']
theorem q39 (m : Mem) (j k : Nat) (B : List UInt8) (d : Nat) (R : List (List UInt8)) (h : RAt m j k B d R) (hB : B = frs zero16 R) (hBl : B.length ≤ 100000) : callL T55 39 [.ptr (.mem j) 0] m = some (AV.int IntKind.i64 (dur R d), m) := by
  obtain ⟨⟨o, ho, hj⟩, hf, hne⟩ := h
  have hs := frs_len R zero16
  rw [← hB] at hs
  obtain ⟨D, hD⟩ : ∃ D, dur R d = D := ⟨_, rfl⟩
  have hde := fun i h1 h2 h3 => (hD.symm.trans (dur_eq (R := R) (d := d) (i := i) h1 h2 h3))
  rw [hD]
  generalize chn R = H at *
  apply callL_body (vf := c39) rfl rfl
  simp [c39]
  refine wp_loop (fun w s => ∃ i : Nat, w = R.length - i ∧ i ≤ R.length ∧ s.get 0 = .ptr (.mem j) 0 ∧ s.get 3 = AV.int IntKind.i64 (frs zero16 (R.take i)).length ∧ s.get 4 = AV.int IntKind.i64 i ∧ s.mem = m ∧ ∀ n, n < i → endN R n ≤ d) ?_ R.length _ ?_
  rotate_left
  · exact ⟨0, by simp [frs]⟩
  rintro w s ⟨i, hn, hi, e0, e3, e4, hm, hb⟩
  by_cases hlt : i < R.length
  · have w1 : W64 ((i : Int) + 1) ((i + 1 : Nat) : Int) := .mkI rfl (by omega) (by omega)
    have h1 := frs_len (R.take i) zero16
    have h2 := frs_len (R.take (i + 1)) zero16
    have h3 := sumS_succ hlt
    have h4 := sumS_le (P := R) (i := i + 1)
    simp only [List.length_take, Nat.min_eq_left hi, Nat.min_eq_left (show i + 1 ≤ R.length from hlt)] at h1 h2
    have hen : endN R i = (frs zero16 (R.take (i + 1))).length := rfl
    have w2 : W64 (((frs zero16 (R.take i)).length : Int) + 20) (((frs zero16 (R.take i)).length + 20 : Nat) : Int) := .mkI rfl (by omega) (by omega)
    have w3 : W64 ((((frs zero16 (R.take i)).length + 20 : Nat) : Int) + (R[i].length : Int)) ((endN R i : Nat) : Int) := .mkI (by omega) (by omega) (by omega)
    by_cases hle : endN R i ≤ d
    · have hle' : ¬ (d : Int) < ((endN R i : Nat) : Int) := by omega
      have hnx : ∃ n', n' < w ∧ ∃ i_1, n' = R.length - i_1 ∧ i_1 ≤ R.length ∧ ((endN R i : Nat) : Int) = ((frs zero16 (R.take i_1)).length : Int) ∧ ((i + 1 : Nat) : Int) = (i_1 : Int) ∧ ∀ n, n < i_1 → endN R n ≤ d :=
        ⟨R.length - (i + 1), by omega, i + 1, rfl, by omega, by rw [hen], rfl, fun n hn => if e : n = i then by rw [e]; exact hle else hb n (by omega)⟩
      rcases ho with rfl | rfl
      · simp [e0, e3, e4, hm, objCells, hj, hf, hlt, gi_nat hlt, hle', w1.eq, w2.eq, w3.eq, -Int.natCast_add]
        exact hnx
      · simp [e0, e3, e4, hm, objCells, hj, hf, hlt, gi_nat hlt, hle', w1.eq, w2.eq, w3.eq, -Int.natCast_add]
        exact hnx
    · have hle' : (d : Int) < ((endN R i : Nat) : Int) := by omega
      have := hde i hi hb (.inr (by omega))
      subst this
      rcases ho with rfl | rfl <;> simp [e0, e3, e4, hm, objCells, hj, hf, hlt, gi_nat hlt, hle', w2.eq, w3.eq, -Int.natCast_add]
  · have hie : i = R.length := by omega
    have := hde i hi hb (.inl hie)
    subst this
    subst hie
    rcases ho with rfl | rfl <;> simp [e0, e3, e4, hm, objCells, hj]
end Go.Vm.Ch55
