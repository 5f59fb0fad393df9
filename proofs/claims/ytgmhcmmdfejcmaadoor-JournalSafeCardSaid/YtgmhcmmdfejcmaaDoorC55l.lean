/- Chapter 55: what its functions compute. -/
import Derived.Test.YtgmhcmmdfejcmaaDoorC55k
namespace Go.Vm.Ch55
open _root_.Ch55 (T55 c21 c29)
set_option maxRecDepth 10000
set_option maxHeartbeats 8000000
/-- A slice of strings, as a vector or as a row in memory. -/
structure StrSl (v : AV) (m : Mem) (zs : List (List UInt8)) : Prop where
  len : lenSlV v = some (AV.int IntKind.i64 zs.length)
  view : v.view = v
  nl : v.nl = true
  tk : ∀ s t, takeV s t v = (v, s)
  good : v.good = true
  one : v.one = true
  cells : v.cells = [v]
  adr : ∀ i : Nat, i < zs.length → ∃ a, iaddrSlV 1 v (AV.int IntKind.i64 i) = some a ∧ (∀ s : St, s.mem = m → loadV none s a = some (.str (zs.getD i []))) ∧ ((∀ t k o, apart (.ptr (.loc t k) o) a = true) ∧ a.view = a ∧ a.nl = true)
theorem StrSl.vec (nn : Bool) (m : Mem) (zs : List (List UInt8)) : StrSl (sv nn zs) m zs :=
  { len := by simp
    view := rfl
    nl := rfl
    tk := fun _ _ => rfl
    good := rfl
    one := rfl
    cells := rfl
    adr := fun i h => by
      refine ⟨.vptr [.str (zs.getD i [])] 0, ?_, fun s _ => ?_, fun _ _ _ => rfl, rfl, rfl⟩
      · have hg : gi zs (i : Int) = zs.getD i [] := by rw [gi_nat h]; simp [List.getD, h]
        simp [h, hg]
      · simp }
theorem StrSl.zcap (nn : Bool) (m : Mem) : StrSl (.zcap nn) m [] :=
  { len := rfl
    view := rfl
    nl := rfl
    tk := fun _ _ => rfl
    good := rfl
    one := rfl
    cells := rfl
    adr := fun i h => by simp at h }
theorem StrSl.row {m : Mem} {k : Nat} {zs : List (List UInt8)} {r : List AV} (h : m[k]? = some (some (.cells false (zs.map AV.str ++ r)))) : StrSl (.row (.mem k) 0 zs.length) m zs :=
  { len := by simp
    view := rfl
    nl := rfl
    tk := fun _ _ => rfl
    good := rfl
    one := rfl
    cells := rfl
    adr := fun i hi => by
      refine ⟨.ptr (.mem k) (0 + i * 1), ?_, fun s hs => ?_, fun _ _ _ => rfl, rfl, rfl⟩
      · have : (i : Int) < zs.length := by omega
        simp [hi]
      · subst hs
        have ho : s.obj (.mem k) = some (.cells false (zs.map AV.str ++ r)) := by
          show (match s.mem[k]? with | some o => o | none => none) = _
          rw [h]
        have hg : (zs.map AV.str ++ r)[i]? = some (.str (zs.getD i [])) := by
          rw [List.getElem?_append_left (by simpa using hi)]
          simp [hi, List.getD]
        simp [ho, objCells, hg] }
/-- Are two slices of strings the same? -/
theorem q29 (v w : AV) (m : Mem) (A B : List (List UInt8)) (hv : StrSl v m A) (hw : StrSl w m B) (hl : A.length ≤ 1000000) : callL T55 29 [v, w] m = some (.bool (decide (A = B)), m) := by
  apply callL_body (vf := c29) rfl rfl
  by_cases h1 : A.length = B.length
  rotate_left
  · have h2 : ¬ A = B := fun e => h1 (by rw [e])
    have h1i : ¬ ((A.length : Nat) : Int) = ((B.length : Nat) : Int) := by omega
    simp [c29, hv.len, hw.len, hv.view, hw.view, h1i, h2]
  have h1' : ((A.length : Nat) : Int) = ((B.length : Nat) : Int) := by omega
  simp [c29, hv.len, hw.len, hv.view, hw.view, h1']
  refine wp_loop (fun wx s => ∃ i : Nat, wx = A.length - i ∧ i ≤ A.length ∧ s.get 0 = v ∧ s.get 1 = w ∧ s.get 5 = AV.int IntKind.i64 i ∧ s.mem = m ∧ A.take i = B.take i) ?_ A.length _ ?_
  rotate_left
  · exact ⟨0, by simp⟩
  rintro wx s ⟨i, hn, hi, e0, e1, e5, hm, ht⟩
  by_cases hlt : i < A.length
  · have w1 : W64 ((i : Int) + 1) ((i + 1 : Nat) : Int) := .mkI rfl (by omega) (by omega)
    obtain ⟨a, ha, hla, -, hav, hanl⟩ := hv.adr i hlt
    obtain ⟨b, hb, hlb, -, hbv, hbnl⟩ := hw.adr i (by omega)
    have hlt' : (i : Int) < A.length := by omega
    have ga : A.getD i [] = A[i] := by simp [List.getD, hlt]
    have gb : B.getD i [] = B[i]'(by omega) := by simp [List.getD, show i < B.length by omega]
    have hla2 : ∀ s : St, s.mem = m → loadV none s a = some (.str A[i]) := fun s hs => by rw [← ga]; exact hla s hs
    have hlb2 : ∀ s : St, s.mem = m → loadV none s b = some (.str (B[i]'(by omega))) := fun s hs => by rw [← gb]; exact hlb s hs
    by_cases he : A[i] = B[i]'(by omega)
    · simp [e0, e1, e5, hm, hlt', ha, hb, hla2, hlb2, hv.len, hv.view, hw.view, he, w1.eq, -Int.natCast_add]
      exact ⟨A.length - (i + 1), by omega, i + 1, rfl, by omega, rfl, by rw [List.take_succ_eq_append_getElem hlt, List.take_succ_eq_append_getElem (show i < B.length by omega), ht, he]⟩
    · have h2 : ¬ A = B := fun e => he (by subst e; rfl)
      simp [e0, e1, e5, hm, hlt', ha, hb, hla2, hlb2, hv.len, hv.view, hw.view, he, h2, -Int.natCast_add]
  · have hie : i = A.length := by omega
    subst hie
    have h2 : A = B := by
      rw [List.take_length, h1, List.take_length] at ht; exact ht
    simp [e0, e5, hm, hv.len, hv.view, h2]
def sumS (P : List (List UInt8)) : Nat := (P.map List.length).sum
theorem sumS_succ {P : List (List UInt8)} {i : Nat} (h : i < P.length) : sumS (P.take (i + 1)) = sumS (P.take i) + P[i].length := by
  unfold sumS
  rw [List.take_succ_eq_append_getElem h, List.map_append, List.sum_append]
  simp
theorem sumS_le {P : List (List UInt8)} {i : Nat} : sumS (P.take i) ≤ sumS P := by
  have : sumS P = sumS (P.take i) + sumS (P.drop i) := by
    unfold sumS
    rw [← List.sum_append, ← List.map_append, List.take_append_drop]
  omega
theorem sumS_mem : ∀ {P : List (List UInt8)} {r : List UInt8}, r ∈ P → r.length ≤ sumS P
  | p :: P, r, h => by
    have e : sumS (p :: P) = p.length + sumS P := by simp [sumS]
    rcases List.mem_cons.1 h with rfl | h
    · omega
    · have := sumS_mem h; omega
def smlS (P : List (List UInt8)) (n : Int) : Bool := decide (P.length ≤ n ∧ sumS P ≤ 5000)
theorem q21 (P : List (List UInt8)) (nn : Bool) (n : Int) (hlen : (P.length : Int) ≤ 9223372036854775807) (m : Mem) : callL T55 21 [sv nn P, AV.int IntKind.i64 n] m = some (.bool (smlS P n), m) := by
  apply callL_body (vf := c21) rfl rfl
  unfold smlS
  by_cases h1 : n < P.length
  · have : ¬ ((P.length : Int) ≤ n ∧ sumS P ≤ 5000) := by omega
    simp [c21, h1, this]
  have h1' : (P.length : Int) ≤ n := by omega
  simp [c21, h1, h1']
  refine wp_loop (fun wx s => ∃ i : Nat, wx = P.length - i ∧ i ≤ P.length ∧ s.get 0 = sv nn P ∧ s.get 6 = AV.int IntKind.i64 i ∧ s.get 5 = AV.int IntKind.i64 ((5000 - sumS (P.take i) : Nat) : Int) ∧ s.mem = m ∧ sumS (P.take i) ≤ 5000) ?_ P.length _ ?_
  rotate_left
  · exact ⟨0, by simp [sumS]⟩
  rintro wx s ⟨i, hn, hi, e0, e6, e5, hm, hs⟩
  by_cases hlt : i < P.length
  · have w1 : W64 ((i : Int) + 1) ((i + 1 : Nat) : Int) := .mkI rfl (by omega) (by omega)
    have hss := sumS_succ hlt
    by_cases h2 : 5000 < sumS (P.take i) + P[i].length
    · have h3 := sumS_le (P := P) (i := i + 1)
      have h4 : ¬ sumS P ≤ 5000 := by omega
      have h5 : (5000 - sumS (P.take i)) < P[i].length := by omega
      simp [e0, e6, e5, hm, hlt, gi_nat hlt, h4, h5]
    · have h5 : ¬ (5000 - sumS (P.take i)) < P[i].length := by omega
      have w2 : W64 (((5000 - sumS (P.take i) : Nat) : Int) - P[i].length) ((5000 - sumS (P.take (i + 1)) : Nat) : Int) := .mkI (by omega) (by omega) (by omega)
      simp [e0, e6, e5, hm, hlt, gi_nat hlt, h5, w1.eq, w2.eq, -Int.natCast_add]
      exact ⟨P.length - (i + 1), by omega, i + 1, rfl, by omega, rfl, rfl, by omega⟩
  · have hie : i = P.length := by omega
    subst hie
    rw [List.take_length] at hs
    simp [e0, e6, hm, hs]
end Go.Vm.Ch55
