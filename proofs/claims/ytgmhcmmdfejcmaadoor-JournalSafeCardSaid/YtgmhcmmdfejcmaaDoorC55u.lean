/- Chapter 55: what its functions compute. -/
import Derived.Test.YtgmhcmmdfejcmaaDoorC55t
namespace Go.Vm.Ch55
open _root_.Ch55 (T55 c34 c36 c37 c38 c40)
set_option maxRecDepth 10000
set_option maxHeartbeats 8000000
/-- What a journal's method leaves. -/
structure Keep2 (m m' : Mem) (j k : Nat) (oi oi' : Option Nat) : Prop where
  len : m.length ≤ m'.length
  same : ∀ i, i < m.length → i ≠ j → i ≠ k → oi ≠ some i → m'[i]? = m[i]?
  new : oi' = oi ∨ ∃ i, oi' = some i ∧ m.length ≤ i
theorem frs_add {R : List (List UInt8)} {r : List UInt8} : frs zero16 R ++ frm (chn R) r = frs zero16 (R ++ [r]) := by rw [frs_snoc]; rfl
theorem q34 (m : Mem) (j k : Nat) (oi : Option Nat) (B : List UInt8) (d : Nat) (R : List (List UInt8)) (h : JAt m j k oi B d R) (r : List UInt8) (hB : B.length ≤ 100000) (hr : r.length ≤ 50000) :
    if r.length ≤ 1000 then ∃ m' oi', callL T55 34 [.ptr (.mem j) 0, .str r] m = some (AV.int IntKind.i64 0, m') ∧ JAt m' j k oi' (frs zero16 (R ++ [r])) d (R ++ [r]) ∧ Keep2 m m' j k oi oi'
    else callL T55 34 [.ptr (.mem j) 0, .str r] m = some (AV.int IntKind.i64 7, m) := by
  have hcl := chn_len R
  have h22 := q22 (chn R) r (by omega) []
  rw [if_pos hcl] at h22
  have hj := h.obj
  unfold jO at hj
  split
  · rename_i h1
    rw [if_pos h1] at h22
    have hfl := frm_len (chn R) r
    obtain ⟨m1, oi', hc13, hf, hkk⟩ := q13 m k oi B d h.fil (frm (chn R) r) (by omega)
    have hjl := lt_of_get h.obj
    have hj1 : m1[j]? = some (some (.cells false [.ptr (.mem k) 0, ov 1 AV.str R, ov 1 (AV.int .i64) (ends R), .str (chn R)])) := by
      rw [hkk.same j hjl h.ne h.noi]; exact hj
    have hno : oi' ≠ some j := by
      rcases hkk.new with e | ⟨i, e, hi⟩
      · rw [e]; exact h.noi
      · rw [e]; intro e2; injection e2; omega
    have hcont := h.cont
    rw [hcont, frs_add] at hf
    have hks : ∀ v, (m1.set j v)[j]? = some v := setk (lt_of_get hj1)
    have hes := ends_snoc R r
    have hlR := ends_len R
    have hRl := frs_len R zero16
    rw [← hcont] at hRl
    have hcs : nxt (chn R) r = chn (R ++ [r]) := (chn_snoc R r).symm
    refine ⟨m1.set j (jO k (R ++ [r]) (chn (R ++ [r]))), oi', ?_, ⟨hf.set2 (Ne.symm h.ne) hno _, hks _, h.ne, hno, rfl⟩, ⟨by have := hkk.len; simpa using this, fun i h1 h2 h3 h4 => by rw [List.getElem?_set_ne (Ne.symm h2), hkk.same i h1 h3 h4], hkk.new⟩⟩
    obtain ⟨⟨cv, hk, hc⟩, -, -⟩ := hf
    have hk2 : ∀ v, (m1.set j v)[k]? = some (some (.cells false [cv, AV.int IntKind.i64 d])) := fun v => by rw [List.getElem?_set_ne h.ne]; exact hk
    unfold jO
    rw [hes]
    generalize hC : frs zero16 (R ++ [r]) = C at *
    have hCl : 20 ≤ C.length := by rw [← hC, ← frs_add]; simp; omega
    rw [hcs] at h22
    generalize frm (chn R) r = F at *
    generalize chn (R ++ [r]) = N at *
    generalize chn R = H at *
    generalize ends R = E at *
    cases hc with
    | nil => simp at hCl
    | row i C rr hi =>
      apply callL_body (vf := c34) rfl rfl
      simp [c34, objCells, hj, h22, hc13, hj1, hks, hk2, ov_snoc]
      omega
  · rename_i h1
    rw [if_neg h1] at h22
    generalize chn R = H at *
    apply callL_body (vf := c34) rfl rfl
    simp [c34, objCells, hj, h22]
theorem q36 (m : Mem) (j k : Nat) (oi : Option Nat) (B : List UInt8) (d : Nat) (R : List (List UInt8)) (h : JAt m j k oi B d R) :
    ∃ m', callL T55 36 [.ptr (.mem j) 0] m = some (.tup [], m') ∧ JAt m' j k oi B B.length R ∧ Keeps m m' k oi oi := by
  obtain ⟨m', hc, hf, hk⟩ := q14 m k oi B d h.fil
  have hj := h.obj
  have hjl := lt_of_get hj
  refine ⟨m', ?_, ⟨hf, by rw [hk.same j hjl h.ne h.noi]; exact hj, h.ne, h.noi, h.cont⟩, hk⟩
  unfold jO at hj
  generalize ends R = E at *
  apply callL_body (vf := c36) rfl rfl
  simp [c36, objCells, hj, hc]
theorem JAt.small {m : Mem} {j k : Nat} {oi : Option Nat} {B : List UInt8} {d : Nat} {R : List (List UInt8)} (h : JAt m j k oi B d R) : B.length = sumS R + 20 * R.length := by
  rw [h.cont]; exact frs_len R zero16
theorem elems_str (nn : Bool) (R : List (List UInt8)) : elems? 1 (sv nn R) = some (R.map AV.str) := by
  show elems? 1 (.vec none nn (R.map AV.str)) = _
  rw [elems_vec, if_pos]
  simp
theorem q37 (m : Mem) (j k : Nat) (oi : Option Nat) (B : List UInt8) (d : Nat) (R : List (List UInt8)) (h : JAt m j k oi B d R) (hB : B.length ≤ 100000) : callL T55 37 [.ptr (.mem j) 0] m = some (sv (!R.isEmpty) R, m) := by
  have hs := h.small
  have hj := h.obj
  unfold jO at hj
  generalize ends R = E at *
  apply callL_body (vf := c37) rfl rfl
  have hel := elems_str (!R.isEmpty) R
  cases R with
  | nil => simp [c37, objCells, hj, hel]; rfl
  | cons x R =>
    simp at hs
    simp [c37, objCells, hj, hel]
    exact ⟨by omega, by simp [vv]⟩
theorem q40 (m : Mem) (j k : Nat) (oi : Option Nat) (B : List UInt8) (d : Nat) (R : List (List UInt8)) (h : JAt m j k oi B d R) : callL T55 40 [.ptr (.mem j) 0] m = some (.str (chn R), m) := by
  have hj := h.obj
  unfold jO at hj
  generalize ends R = E at *
  apply callL_body (vf := c40) rfl rfl
  simp [c40, objCells, hj]
/-- How many records lie within the first d bytes. -/
def dur (R : List (List UInt8)) (d : Nat) : Nat := (List.range R.length).findIdx fun n => decide (d < endN R n)
theorem dur_eq {R : List (List UInt8)} {d i : Nat} (hi : i ≤ R.length) (hb : ∀ n, n < i → endN R n ≤ d) (he : i = R.length ∨ d < endN R i) : dur R d = i := by
  unfold dur
  by_cases h : i < R.length
  · have he' : d < endN R i := by omega
    rw [List.findIdx_eq (by simpa using h)]
    refine ⟨by simpa using he', fun n hn => ?_⟩
    have := hb n hn
    simp; omega
  · have hie : i = R.length := by omega
    subst hie
    have : (List.range R.length).findIdx (fun n => decide (d < endN R n)) = (List.range R.length).length := by
      rw [List.findIdx_eq_length]
      intro n hn
      have := hb n (List.mem_range.1 hn)
      simp; omega
    rw [this, List.length_range]
theorem q38 (m : Mem) (j k : Nat) (oi : Option Nat) (B : List UInt8) (d : Nat) (R : List (List UInt8)) (h : JAt m j k oi B d R) (hB : B.length ≤ 100000) : callL T55 38 [.ptr (.mem j) 0] m = some (AV.int IntKind.i64 (dur R d), m) := by
  have hs := h.small
  have hj := h.obj
  have hel := ends_len R
  have heg : ∀ n, n < R.length → gi (ends R) (n : Int) = ((endN R n : Nat) : Int) := fun n hn => by
    rw [gi_nat (by omega), ends_get]
  obtain ⟨⟨cv, hk, hc⟩, -, -⟩ := h.fil
  unfold jO at hj
  obtain ⟨D, hD⟩ : ∃ D, dur R d = D := ⟨_, rfl⟩
  have hde := fun i h1 h2 h3 => (hD.symm.trans (dur_eq (R := R) (d := d) (i := i) h1 h2 h3))
  rw [hD]
  generalize ends R = E at *
  apply callL_body (vf := c38) rfl rfl
  simp [c38]
  refine wp_loop (fun w s => ∃ i : Nat, w = R.length - i ∧ i ≤ R.length ∧ s.get 0 = .ptr (.mem j) 0 ∧ s.get 3 = AV.int IntKind.i64 i ∧ s.mem = m ∧ ∀ n, n < i → endN R n ≤ d) ?_ R.length _ ?_
  rotate_left
  · exact ⟨0, by simp⟩
  rintro w s ⟨i, hn, hi, e0, e3, hm, hb⟩
  by_cases hlt : i < R.length
  · have w1 : W64 ((i : Int) + 1) ((i + 1 : Nat) : Int) := .mkI rfl (by omega) (by omega)
    have hlt' : i < E.length := by omega
    have hg := heg i hlt
    by_cases hle : endN R i ≤ d
    · have hle' : ((endN R i : Nat) : Int) ≤ d := by omega
      simp [e0, e3, hm, objCells, hj, hk, hlt', hg, hle', w1.eq, -Int.natCast_add]
      exact ⟨R.length - (i + 1), by omega, i + 1, rfl, by omega, rfl, fun n hn => if e : n = i then by rw [e]; exact hle else hb n (by omega)⟩
    · have hle' : ¬ ((endN R i : Nat) : Int) ≤ d := by omega
      have := hde i hi hb (.inr (by omega))
      subst this
      simp [e0, e3, hm, objCells, hj, hk, hlt', hg, hle', -Int.natCast_add]
  · have hie : i = R.length := by omega
    have := hde i hi hb (.inl hie)
    subst this
    have hlt' : ¬ D < E.length := by omega
    simp [e0, e3, hm, objCells, hj, hlt']
end Go.Vm.Ch55
