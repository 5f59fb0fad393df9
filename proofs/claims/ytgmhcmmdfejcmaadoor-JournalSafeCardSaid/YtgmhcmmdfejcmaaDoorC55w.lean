/- Chapter 55: what its functions compute. -/
import Derived.Test.YtgmhcmmdfejcmaaDoorC55v
namespace Go.Vm.Ch55
open _root_.Ch55 (T55 c5)
set_option maxRecDepth 10000
set_option maxHeartbeats 16000000
theorem JAt.other {m m' : Mem} {j k : Nat} {oi : Option Nat} {B : List UInt8} {d : Nat} {R : List (List UInt8)} (h : JAt m j k oi B d R) (h1 : m'[j]? = m[j]?) (h2 : m'[k]? = m[k]?) (h3 : ∀ i, oi = some i → m'[i]? = m[i]?) : JAt m' j k oi B d R :=
  ⟨h.fil.other h2 h3, by rw [h1]; exact h.obj, h.ne, h.noi, h.cont⟩
theorem RAt.other {m m' : Mem} {j k : Nat} {B : List UInt8} {d : Nat} {R : List (List UInt8)} (h : RAt m j k B d R) (h1 : m'[j]? = m[j]?) (h2 : m'[k]? = m[k]?) : RAt m' j k B d R := by
  obtain ⟨⟨o, ho, hj⟩, hf, hne⟩ := h
  exact ⟨⟨o, ho, by rw [h1]; exact hj⟩, by rw [h2]; exact hf, hne⟩
/-- Both journals with their files. -/
structure Four (m : Mem) (k k2 j jr : Nat) (oi : Option Nat) (B : List UInt8) (d : Nat) (R : List (List UInt8)) : Prop where
  J : JAt m j k oi B d R
  A : RAt m jr k2 B d R
  kk : k ≠ k2
  kj : k ≠ jr
  jk : j ≠ k2
  jj : j ≠ jr
  ok : oi ≠ some k2
  oj : oi ≠ some jr
theorem Four.lts {m : Mem} {k k2 j jr : Nat} {oi : Option Nat} {B : List UInt8} {d : Nat} {R : List (List UInt8)} (h : Four m k k2 j jr oi B d R) :
    k < m.length ∧ k2 < m.length ∧ j < m.length ∧ jr < m.length ∧ ∀ i, oi = some i → i < m.length := by
  obtain ⟨⟨o, ho, hj⟩, hf, hne⟩ := h.A
  exact ⟨h.J.fil.lt.1, lt_of_get hf, lt_of_get h.J.obj, lt_of_get hj, h.J.fil.lt.2⟩
/-- The program's journal makes a step. -/
theorem Four.step1 {m m' : Mem} {k k2 j jr : Nat} {oi oi' : Option Nat} {B : List UInt8} {d : Nat} {R : List (List UInt8)} (h : Four m k k2 j jr oi B d R) (hk : Keep2 m m' j k oi oi') :
    RAt m' jr k2 B d R ∧ oi' ≠ some k2 ∧ oi' ≠ some jr := by
  obtain ⟨l1, l2, l3, l4, l5⟩ := h.lts
  refine ⟨h.A.other (hk.same jr l4 h.jj.symm h.kj.symm h.oj) (hk.same k2 l2 h.jk.symm h.kk.symm h.ok), ?_, ?_⟩
  · rcases hk.new with e | ⟨i, e, hi⟩
    · rw [e]; exact h.ok
    · rw [e]; intro e2; injection e2; omega
  · rcases hk.new with e | ⟨i, e, hi⟩
    · rw [e]; exact h.oj
    · rw [e]; intro e2; injection e2; omega
/-- .. and the reference's. -/
theorem Four.step2 {m m' m'' : Mem} {k k2 j jr : Nat} {oi oi' : Option Nat} {B B' : List UInt8} {d d' : Nat} {R R' : List (List UInt8)} (h : Four m k k2 j jr oi B d R) (hJ : JAt m' j k oi' B' d' R')
    (h1 : oi' ≠ some k2) (h2 : oi' ≠ some jr) (hA : RAt m'' jr k2 B' d' R') (hs : ∀ i, i ≠ jr → i ≠ k2 → m''[i]? = m'[i]?) : Four m'' k k2 j jr oi' B' d' R' :=
  ⟨hJ.other (hs j h.jj h.jk) (hs k h.kj h.kk) fun i e => hs i (fun e2 => h2 (by rw [e, e2])) (fun e2 => h1 (by rw [e, e2])), hA, h.kk, h.kj, h.jk, h.jj, h1, h2⟩
theorem Keeps.to2 {m m' : Mem} {j k : Nat} {oi oi' : Option Nat} (h : Keeps m m' k oi oi') : Keep2 m m' j k oi oi' := ⟨h.len, fun i h1 _ h3 h4 => h.same i h1 h3 h4, h.new⟩
/-- Both files crash and both journals are opened again. -/
theorem Four.crash {m : Mem} {k k2 j jr : Nat} {oi : Option Nat} {B : List UInt8} {d : Nat} {R : List (List UInt8)} (h : Four m k k2 j jr oi B d R) (hB : B.length ≤ 100000) (kept at' : Int) (hat : inI at') (flip : UInt8) :
    ∃ (m1 m2 m3 m4 : Mem) (j' jr' : Nat) (B' : List UInt8) (d' : Nat) (R' : List (List UInt8)), callL T55 16 [.ptr (.mem k) 0, AV.int IntKind.i64 kept, AV.int IntKind.i64 at', .int .u8 flip.toNat] m = some (.tup [], m1) ∧
      callL T55 17 [.ptr (.mem k2) 0, AV.int IntKind.i64 kept, AV.int IntKind.i64 at', .int .u8 flip.toNat] m1 = some (.tup [], m2) ∧ callL T55 32 [.ptr (.mem k) 0] m2 = some (.ptr (.mem j') 0, m3) ∧ callL T55 33 [.ptr (.mem k2) 0] m3 = some (.ptr (.mem jr') 0, m4) ∧
      Four m4 k k2 j' jr' oi B' d' R' ∧ B'.length ≤ B.length := by
  obtain ⟨l1, l2, l3, l4, l5⟩ := h.lts
  have hle := h.J.fil.le
  obtain ⟨m1, hc1, hf1, hk1⟩ := q16 m k oi B d h.J.fil (by omega) kept at' hat flip
  have hr1 : m1[k2]? = some (rfo B d) := by rw [hk1.same k2 l2 h.kk.symm h.ok]; exact h.A.fil
  have hc2 := q17 m1 k2 B d hr1 hle (by omega) kept at' hat flip
  have hcl := crs_len B d hle kept at' flip
  have hll := lft_le B.length d kept
  generalize crs B d kept at' flip = C at *
  have hCl : C.length ≤ B.length := by omega
  have l21 := lt_of_get hr1
  obtain ⟨m2, hm2⟩ : ∃ m2, m1.set k2 (rfo C C.length) = m2 := ⟨_, rfl⟩
  have hr2 : m2[k2]? = some (rfo C C.length) := by rw [← hm2]; exact setk l21 _
  have hf2 := hf1.set2 h.kk h.ok (rfo C C.length)
  rw [hm2] at hc2 hf2
  obtain ⟨m3, hc3, hJ3, hk3⟩ := q32 m2 k oi C C.length hf2 (by omega)
  have l22 := lt_of_get hr2
  have hr3 : m3[k2]? = some (rfo C C.length) := by rw [hk3.same k2 l22 h.kk.symm h.ok]; exact hr2
  obtain ⟨m4, hc4, hA4, hl4, hs4⟩ := q33 m3 k2 C C.length hr3 (by omega) (Nat.le_refl _)
  have l3' := lt_of_get hJ3.obj
  have lk3 := hJ3.fil.lt
  refine ⟨m1, m2, m3, m4, m2.length, m3.length, _, _, _, hc1, hc2, hc3, hc4, ⟨hJ3.other (hs4 _ l3' (by omega)) (hs4 _ lk3.1 h.kk) (fun i e => hs4 i (lk3.2 i e) (fun e2 => h.ok (by rw [e, e2]))), hA4, h.kk, by omega, by omega, by omega, h.ok, fun e => by have := lk3.2 _ e; omega⟩, by simp; omega⟩
end Go.Vm.Ch55
