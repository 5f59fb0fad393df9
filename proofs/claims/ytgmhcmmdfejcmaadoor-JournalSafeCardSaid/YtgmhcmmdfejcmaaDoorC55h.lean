/- Chapter 55: what its functions compute. -/
import Derived.Test.YtgmhcmmdfejcmaaDoorC55g
namespace Go.Vm.Ch55
open _root_.Ch55 (T55 c12 c14 c16 c18 c20)
set_option maxRecDepth 10000
set_option maxHeartbeats 8000000
theorem Cont.other {m m' : Mem} {cv : AV} {B : List UInt8} {oi : Option Nat} (h : Cont m cv B oi) (hs : ∀ i, oi = some i → m'[i]? = m[i]?) : Cont m' cv B oi := by
  cases h with
  | nil => exact .nil
  | row i B r hi => exact .row i B r (by rw [hs i rfl]; exact hi)
theorem Cont.one {m : Mem} {cv : AV} {B : List UInt8} {oi : Option Nat} (h : Cont m cv B oi) : cv.one = true ∧ lenSlV cv.view = some (AV.int IntKind.i64 B.length) ∧ strMV (St.init [] m) cv.view = some (.str B) := by
  cases h with
  | nil => exact ⟨rfl, rfl, rfl⟩
  | row i B r hi =>
    refine ⟨rfl, rfl, ?_⟩
    show strMO 0 B.length (objCells true ((St.init [] m).obj (.mem i))) = _
    have : (St.init [] m).obj (.mem i) = some (.cells false (byc B ++ r)) := by simp [St.obj, St.init, hi]
    rw [this]
    exact strMO_byc
/-- A file whose length of durable bytes changes. -/
theorem FileAt.setD {m : Mem} {k : Nat} {oi : Option Nat} {B : List UInt8} {cv : AV} (hk : k < m.length) (hc : Cont m cv B oi) (hne : oi ≠ some k) {d : Nat} (hd : d ≤ B.length) :
    FileAt (m.set k (some (LObj.cells false [cv, AV.int IntKind.i64 d]))) k oi B d ∧ Keeps m (m.set k (some (LObj.cells false [cv, AV.int IntKind.i64 d]))) k oi oi := by
  refine ⟨⟨⟨cv, List.getElem?_set_self hk, hc.other fun i e => List.getElem?_set_ne fun e2 => hne (by rw [e, e2])⟩, hne, hd⟩, ⟨by simp, fun j h1 h2 h3 => List.getElem?_set_ne (Ne.symm h2), .inl rfl⟩⟩
theorem q14 (m : Mem) (k : Nat) (oi : Option Nat) (B : List UInt8) (d : Nat) (h : FileAt m k oi B d) :
    ∃ m', callL T55 14 [.ptr (.mem k) 0] m = some (.tup [], m') ∧ FileAt m' k oi B B.length ∧ Keeps m m' k oi oi := by
  obtain ⟨⟨cv, hk, hc⟩, hne, hle⟩ := h
  have hlt := lt_of_get hk
  obtain ⟨h1, h2⟩ := FileAt.setD hlt hc hne (Nat.le_refl _)
  refine ⟨_, ?_, h1, h2⟩
  apply callL_body (vf := c14) rfl rfl
  cases hc with
  | nil => simp [c14, hk, objCells]
  | row i B r hi => simp [c14, hk, objCells]
theorem q20 (m : Mem) (k : Nat) (oi : Option Nat) (B : List UInt8) (d : Nat) (h : FileAt m k oi B d) : callL T55 20 [.ptr (.mem k) 0] m = some (.str B, m) := by
  obtain ⟨⟨cv, hk, hc⟩, hne, hle⟩ := h
  apply callL_body (vf := c20) rfl rfl
  cases hc with
  | nil => simp [c20, hk, objCells]
  | row i B r hi =>
    have hb := strMO_byc (b := B) (r := r)
    simp [c20, hk, hi, objCells, hb]
theorem q12 (m : Mem) : callL T55 12 [] m = some (.ptr (.mem m.length) 0, m ++ [some (LObj.cells false [.vec none false [], AV.int IntKind.i64 0])]) ∧ FileAt (m ++ [some (LObj.cells false [.vec none false [], AV.int IntKind.i64 0])]) m.length none [] 0 := by
  refine ⟨?_, ⟨.vec none false [], by simp, .nil⟩, by simp, by simp⟩
  apply callL_body (vf := c12) rfl rfl
  simp [c12]
/-- The bytes of a row that is cut. -/
theorem Cont.cut {m : Mem} {cv : AV} {B : List UInt8} {oi : Option Nat} (h : Cont m cv B oi) {n : Nat} (hn : n ≤ B.length) :
    ∃ cv', Cont m cv' (B.take n) oi ∧ slAny 1 none (some (AV.int IntKind.i64 n)) cv = some cv' ∧ cv'.one = true ∧ takeV = takeV := by
  cases h with
  | nil =>
    have : n = 0 := by simpa using hn
    subst this
    exact ⟨_, .nil, by simp [slVec], rfl, rfl⟩
  | row i B r hi =>
    have hl : (B.take n).length = n := by simp; omega
    have := Cont.row (m := m) i (B.take n) (byc (B.drop n) ++ r) (by
      rw [hi, ← List.append_assoc, ← byc_append, List.take_append_drop])
    rw [hl] at this
    exact ⟨_, this, by simp; omega, rfl, rfl⟩
theorem setk {m : Mem} {k : Nat} (h : k < m.length) (v : Option LObj) : (m.set k v)[k]? = some v := List.getElem?_set_self h
theorem q18 (m : Mem) (k : Nat) (oi : Option Nat) (B : List UInt8) (d : Nat) (h : FileAt m k oi B d) (hB : B.length ≤ 1000000) (z : Int) :
    if 0 ≤ z ∧ z ≤ B.length then ∃ m', callL T55 18 [.ptr (.mem k) 0, AV.int IntKind.i64 z] m = some (AV.int IntKind.i64 0, m') ∧ FileAt m' k oi (B.take z.toNat) (min d z.toNat) ∧ Keeps m m' k oi oi
    else callL T55 18 [.ptr (.mem k) 0, AV.int IntKind.i64 z] m = some (AV.int IntKind.i64 6, m) := by
  obtain ⟨⟨cv, hk, hc⟩, hne, hle⟩ := h
  have hlt := lt_of_get hk
  have hks := setk hlt
  by_cases h1 : z < 0
  · rw [if_neg (by omega)]
    apply callL_body (vf := c18) rfl rfl
    simp [c18, h1]
  · by_cases h2 : (B.length : Int) < z
    · rw [if_neg (by omega)]
      apply callL_body (vf := c18) rfl rfl
      cases hc with
      | nil => simp at h2; simp [c18, h1, h2, hk, objCells]
      | row i B r hi => simp [c18, h1, h2, hk, objCells]
    · rw [if_pos (by omega)]
      obtain ⟨n, rfl⟩ := Int.eq_ofNat_of_zero_le (show 0 ≤ z by omega)
      have hn : n ≤ B.length := by omega
      simp only [Int.toNat_natCast]
      obtain ⟨cv', hc', hs, ho, -⟩ := hc.cut hn
      have hmn : (if (n : Int) < d then (n : Int) else d) = ((min d n : Nat) : Int) := by split <;> omega
      obtain ⟨k1, k2⟩ := FileAt.setD hlt hc' hne (d := min d n) (by simp; omega)
      refine ⟨_, ?_, k1, k2⟩
      apply callL_body (vf := c18) rfl rfl
      cases hc with
      | nil =>
        have h0 : n = 0 := by simpa using hn
        subst h0
        simp [slVec] at hs
        subst hs
        have hd0 : d = 0 := by simpa using hle
        subst hd0
        simp [c18, hk, hks, objCells]
      | row i B r hi => 
        simp at hs
        obtain ⟨-, rfl⟩ := hs
        simp [c18, h1, h2, hk, hks, hn, objCells]
        have : (if n < d then (n : Int) else d) = ((min d n : Nat) : Int) := by split <;> omega
        rw [this]
/-! ### a crash -/
def xorb (a b : UInt8) : UInt8 := UInt8.ofNat (ixor .u8 a.toNat b.toNat).toNat
theorem ixor8_rng (a b : Int) : 0 ≤ ixor .u8 a b ∧ ixor .u8 a b < 256 := by
  have e1 : ∀ n, IntKind.wrap .u8 n = n % 256 := fun n => by simp [IntKind.wrap, IntKind.bits, IntKind.signed]
  unfold ixor
  rw [e1]; omega
theorem xorb_eq (a b : UInt8) : AV.int .u8 (ixor .u8 a.toNat b.toNat) = bcell (xorb a b) := by
  have := ixor8_rng a.toNat b.toNat
  unfold bcell xorb
  rw [UInt8.toNat_ofNat_of_lt' (by show _ < 256; omega)]
  congr 1
/-- What is kept beside the durable bytes. -/
def lft (n d : Nat) (kept : Int) : Nat := (max 0 (min kept ((n - d : Nat) : Int))).toNat
theorem lft_le (n d : Nat) (kept : Int) : lft n d kept ≤ n - d := by unfold lft; omega
/-- The content behind a crash. -/
def crs (B : List UInt8) (d : Nat) (kept at' : Int) (flip : UInt8) : List UInt8 :=
  if 0 ≤ at' ∧ at' < lft B.length d kept then (B.take (d + lft B.length d kept)).set (d + at'.toNat) (xorb (B.getD (d + at'.toNat) 0) flip) else B.take (d + lft B.length d kept)
theorem crs_len (B : List UInt8) (d : Nat) (hd : d ≤ B.length) (kept at' : Int) (flip : UInt8) : (crs B d kept at' flip).length = d + lft B.length d kept := by
  have := lft_le B.length d kept
  unfold crs
  split <;> simp <;> omega
theorem lft_mm (n d : Nat) (hd : d ≤ n) (kept : Int) : (if (if kept > (n : Int) - d then (n : Int) - d else kept) > 0 then (if kept > (n : Int) - d then (n : Int) - d else kept) else 0) = (lft n d kept : Int) := by
  unfold lft
  split <;> split <;> omega
theorem q16 (m : Mem) (k : Nat) (oi : Option Nat) (B : List UInt8) (d : Nat) (h : FileAt m k oi B d) (hB : B.length ≤ 1000000) (kept at' : Int) (hat : -9223372036854775808 ≤ at' ∧ at' ≤ 9223372036854775807) (flip : UInt8) :
    ∃ m', callL T55 16 [.ptr (.mem k) 0, AV.int IntKind.i64 kept, AV.int IntKind.i64 at', .int .u8 flip.toNat] m = some (.tup [], m') ∧ FileAt m' k oi (crs B d kept at' flip) (crs B d kept at' flip).length ∧ Keeps m m' k oi oi := by
  obtain ⟨⟨cv, hk, hc⟩, hne, hle⟩ := h
  have hlt := lt_of_get hk
  have hks := setk hlt
  have hmm := lft_mm B.length d hle kept
  have hll := lft_le B.length d kept
  have hcl := crs_len B d hle kept at' flip
  have w1 : W64 ((B.length : Int) - d) ((B.length : Int) - d) := .mkI rfl (by omega) (by omega)
  have w2 : W64 ((d : Int) + lft B.length d kept) ((d + lft B.length d kept : Nat) : Int) := .mkI (by omega) (by omega) (by omega)
  cases hc with
  | nil =>
    have hd0 : d = 0 := by simpa using hle
    subst hd0
    have hl0 : lft ([] : List UInt8).length 0 kept = 0 := by simp at hll ⊢; omega
    have hcr : crs [] 0 kept at' flip = [] := List.eq_nil_of_length_eq_zero (by rw [hcl, hl0])
    obtain ⟨k1, k2⟩ := FileAt.setD (d := 0) hlt (Cont.nil (m := m)) hne (Nat.le_refl _)
    rw [hcr]
    refine ⟨_, ?_, k1, k2⟩
    have w0 : IntKind.wrap .i64 0 = 0 := by decide
    have hz : (if (0 : Int) < (if 0 < kept then 0 else kept) then (if 0 < kept then 0 else kept) else 0) = 0 := by split <;> split at * <;> omega
    apply callL_body (vf := c16) rfl rfl
    simp [c16, hk, hks, objCells, w0, hz]
  | row i B r hi =>
    have hik : i ≠ k := fun e => hne (by rw [e])
    have hil := lt_of_get hi
    have hi2 : ∀ v, (m.set k v)[i]? = some (some (LObj.cells false (byc B ++ r))) := fun v => by rw [List.getElem?_set_ne (Ne.symm hik)]; exact hi
    have hki : ∀ v w, ((m.set k v).set i w)[k]? = some v := fun v w => by rw [List.getElem?_set_ne hik]; exact hks v
    obtain ⟨l, hl⟩ : ∃ l, l = lft B.length d kept := ⟨_, rfl⟩
    rw [← hl] at hmm hll hcl w2
    have hdl : d + l ≤ B.length := by omega
    have hsl : ((d + l : Nat) : Int) ≤ B.length := by omega
    by_cases ha : 0 ≤ at' ∧ at' < l
    · obtain ⟨a, rfl⟩ := Int.eq_ofNat_of_zero_le ha.1
      have hal : a < l := by omega
      have hcr : crs B d kept a flip = (B.take (d + l)).set (d + a) (xorb (B.getD (d + a) 0) flip) := by
        unfold crs; rw [← hl, if_pos ha]; rfl
      have w3 : W64 ((d : Int) + a) ((d + a : Nat) : Int) := .mkI (by omega) (by omega) (by omega)
      have hlt2 : ((d + a : Nat) : Int) < ((d + l : Nat) : Int) := by omega
      have hBl : d + a < B.length := by omega
      have hgB : (byc B ++ r)[d + a]? = some (.int .u8 B[d + a].toNat) := by
        rw [List.getElem?_append_left (by simp; exact hBl)]; exact byc_get hBl
      have hgd : B.getD (d + a) 0 = B[d + a] := by simp [List.getD, hBl]
      rw [hgd] at hcr
      have hx := xorb_eq B[d + a] flip
      have hle2 : d + a + 1 ≤ (byc B ++ r).length := by simp; omega
      have hset : (byc B ++ r).set (d + a) (bcell (xorb B[d + a] flip)) = byc (crs B d kept a flip) ++ (byc (B.drop (d + l)) ++ r) := by
        rw [hcr, ← List.append_assoc, ← byc_append]
        have : (B.take (d + l)).set (d + a) (xorb B[d + a] flip) ++ B.drop (d + l) = B.set (d + a) (xorb B[d + a] flip) := by
          rw [← List.set_append_left _ _ (by simp; omega), List.take_append_drop]
        rw [this, List.set_append_left _ _ (by simp; exact hBl)]
        simp [byc]
      have hC : Cont ((m.set k (some (LObj.cells false [.orow 1 i (d + l), AV.int IntKind.i64 d]))).set i (some (LObj.cells false ((byc B ++ r).set (d + a) (bcell (xorb B[d + a] flip)))))) (.orow 1 i (d + l)) (crs B d kept a flip) (some i) := by
        rw [← hcl]
        exact .row i _ (byc (B.drop (d + l)) ++ r) (by rw [List.getElem?_set_self (by simpa using hil), hset])
      obtain ⟨k1, k2⟩ := FileAt.setD (k := k) (d := d + l) (by simpa using hlt) hC hne (by omega)
      rw [hcl]
      refine ⟨_, ?_, k1, ⟨by simp, fun j h1 h2 h3 => ?_, .inl rfl⟩⟩
      · apply callL_body (vf := c16) rfl rfl
        have hxx : AV.int .u8 (ixor .u8 B[d + a].toNat flip.toNat) = bcell (xorb B[d + a] flip) := hx
        simp [c16, hk, hks, hi2, hki, objCells, w1.eq, hmm, w2.eq, hsl, ha, w3.eq, hlt2, hgB, -Int.natCast_add]
        exact ⟨by omega, by rw [hx]⟩
      · have : i ≠ j := fun e => h3 (by rw [e])
        rw [List.getElem?_set_ne (Ne.symm h2), List.getElem?_set_ne this, List.getElem?_set_ne (Ne.symm h2)]
    · have hcr : crs B d kept at' flip = B.take (d + l) := by
        unfold crs; rw [← hl, if_neg ha]
      have hC : Cont m (.orow 1 i (d + l)) (crs B d kept at' flip) (some i) := by
        have := Cont.row (m := m) i (B.take (d + l)) (byc (B.drop (d + l)) ++ r) (by rw [hi, ← List.append_assoc, ← byc_append, List.take_append_drop])
        rw [hcr]
        have hl : (B.take (d + l)).length = d + l := by simp; omega
        rw [hl] at this; exact this
      obtain ⟨k1, k2⟩ := FileAt.setD (k := k) (d := d + l) hlt hC hne (by omega)
      rw [hcl]
      refine ⟨_, ?_, k1, k2⟩
      apply callL_body (vf := c16) rfl rfl
      by_cases h0 : 0 ≤ at'
      · have h1 : ¬ at' < l := fun e => ha ⟨h0, e⟩
        simp [c16, hk, hks, objCells, w1.eq, hmm, w2.eq, hsl, h0, h1, -Int.natCast_add]
      · simp [c16, hk, hks, objCells, w1.eq, hmm, w2.eq, hsl, h0, -Int.natCast_add]
end Go.Vm.Ch55
