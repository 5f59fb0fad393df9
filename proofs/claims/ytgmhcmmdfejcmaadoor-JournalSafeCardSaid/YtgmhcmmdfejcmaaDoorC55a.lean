/- Chapter 55: what its functions compute. -/
import Derived.Test.YtgmhcmmdfejcmaaDoorL55
import Derived.Test.YtgmhcmmdfejcmaaDoorVJ
import Derived.Test.YtgmhcmmdfejcmaaDoorVI
import Derived.KernelRfl
namespace Go.Vm.Ch55
open _root_.Ch55 (T55 c42 c44 c45 c50 c51 c53 c63)
set_option maxRecDepth 10000
set_option maxHeartbeats 4000000
abbrev Uu (n : Int) : AV := AV.int IntKind.u64 n
theorem get_of {i : Nat} {b : List UInt8} (h : i < b.length) : b[i]? = some b[i] := List.getElem?_eq_getElem h
/-! ### the digest -/
def rotS (h : Int) : Int := ior .u64 (IntKind.wrap .u64 (h * 128)) (h.fdiv 144115188075855872)
def stpD (K h : Int) (b : UInt8) : Int := IntKind.wrap .u64 (ixor .u64 (rotS h) (IntKind.wrap .u64 b.toNat) * K)
def finD (h : Int) : Int := ixor .u64 h (h.fdiv 4294967296)
theorem finD_rng (h : Int) : 0 ≤ finD h ∧ finD h < 18446744073709551616 := wrapU_rng _
theorem q50 (h : Int) (m : Mem) : callL T55 50 [Uu h, AV.int IntKind.i64 7] m = some (Uu (rotS h), m) := by
  apply callL_body (vf := c50) rfl rfl
  have e1 : IntKind.wrap .u64 7 = 7 := by decide
  have e2 : iand .u64 7 63 = 7 := by decide
  have e3 : IntKind.wrap .u64 57 = 57 := by decide
  simp [c50, e1, e2, e3, IntKind.bits, rotS]
/-- The program's digest, its two great numbers left open. -/
def c42g (K H : Int) : VF := ⟨1, [(.tmp 2)], (.seq (.region [⟨(.some 2), (.assign (.k (.str []))), .none⟩]) (.seq (.region [⟨(.some 3), (.assign (.k (.int .u64 H))), .none⟩]) (.seq (.seq (.region [⟨(.some 6), (.move (.t 0)), .none⟩, ⟨(.some 7), (.lenStr (.t 6)), .none⟩, ⟨(.some 8), (.move (.k (.int .i64 0))), .none⟩]) (.block 0 (.loop (.seq (.region [⟨(.some 9), (.bin .lss (.t 8) (.t 7)), .none⟩]) (.seq (.cond (.t 9) .skip (.exit 0)) (.seq (.block 1 (.seq (.region [⟨(.some 10), (.move (.t 8)), .none⟩, ⟨(.some 4), (.assign (.t 10)), .none⟩]) (.region [⟨(.some 11), (.move (.t 3)), .none⟩, ⟨(.some 12), (.callP (.k (.fn (.func 50) [])) [(.t 11), (.k (.int .i64 7))]), .none⟩, ⟨(.some 13), (.move (.t 0)), .none⟩, ⟨(.some 14), (.move (.t 4)), .none⟩, ⟨(.some 15), (.idxStr (.t 13) (.t 14)), .none⟩, ⟨(.some 16), (.cint .u64 (.t 15)), .none⟩, ⟨(.some 17), (.bin .xor (.t 12) (.t 16)), .none⟩, ⟨(.some 18), (.bin .mul (.t 17) (.k (.int .u64 K))), .none⟩, ⟨(.some 3), (.assign (.t 18)), .none⟩]))) (.region [⟨(.some 19), (.bin .add (.t 8) (.k (.int .i64 1))), .none⟩, ⟨(.some 8), (.move (.t 19)), .none⟩]))))))) (.seq (.region [⟨(.some 20), (.move (.t 3)), .none⟩, ⟨(.some 21), (.move (.t 3)), .none⟩, ⟨(.some 22), (.bin .shr (.t 21) (.k (.int .u64 32))), .none⟩, ⟨(.some 23), (.bin .xor (.t 20) (.t 22)), .none⟩, ⟨(.some 3), (.assign (.t 23)), .none⟩]) (.seq (.region [⟨(.some 24), (.move (.t 3)), .none⟩, ⟨(.some 25), (.callP (.k (.fn (.func 51) [])) [(.t 24), (.k (.int .i64 16))]), .none⟩, ⟨(.some 5), (.assign (.t 25)), .none⟩]) (.seq (.region [⟨(.some 26), (.move (.t 5)), .none⟩, ⟨(.some 27), (.lenStr (.t 26)), .none⟩, ⟨(.some 28), (.bin .sub (.k (.int .i64 16)) (.t 27)), .none⟩, ⟨(.some 29), (.callP (.k (.fn (.func 52) [])) [(.k (.str [48])), (.t 28)]), .none⟩, ⟨(.some 30), (.move (.t 5)), .none⟩, ⟨(.some 31), (.bin .add (.t 29) (.t 30)), .none⟩, ⟨(.some 2), (.assign (.t 31)), .none⟩]) .ret))))))⟩
theorem q42g {T : FuncId → Option VF} {f : FuncId} {K H : Int} (hT : T f = some (c42g K H)) (h50 : ∀ h, callL T 50 [Uu h, AV.int IntKind.i64 7] [] = some (Uu (rotS h), [])) (b : List UInt8) (hl : b.length ≤ 1000000) (X : List UInt8)
    (h51 : callL T 51 [Uu (finD (b.foldl (stpD K) H)), AV.int IntKind.i64 16] [] = some (.str X, [])) (hX : X.length ≤ 16) (Z : List UInt8) (hZ : Z.length ≤ 16)
    (h52 : callL T 52 [.str [48], AV.int IntKind.i64 (16 - (X.length : Int))] [] = some (.str Z, [])) (m : Mem) : callL T f [.str b] m = some (.str (Z ++ X), m) := by
  apply callL_body (vf := c42g K H) hT rfl
  simp [c42g]
  refine wp_loop (fun w s => ∃ i : Nat, w = b.length - i ∧ i ≤ b.length ∧ s.get 0 = .str b ∧ s.get 3 = Uu ((b.take i).foldl (stpD K) H) ∧ s.get 7 = AV.int IntKind.i64 b.length ∧ s.get 8 = AV.int IntKind.i64 i ∧ s.mem = m) ?_ b.length _ ?_
  rotate_left
  · exact ⟨0, by simp⟩
  rintro w s ⟨i, hn, hi, h0, h3, h7, h8, hm⟩
  have w1 : W64 ((i : Int) + 1) ((i + 1 : Nat) : Int) := .mkI (by omega) (by omega) (by omega)
  by_cases h : i < b.length
  · have ht : (b.take (i + 1)).foldl (stpD K) H = stpD K ((b.take i).foldl (stpD K) H) b[i] := by
      rw [List.take_succ_eq_append_getElem h, List.foldl_append]; rfl
    have hq := h50 ((b.take i).foldl (stpD K) H)
    rw [stpD] at ht
    have hg := get_of h
    simp [h0, h3, h7, h8, hm, h, hq, w1.eq, -Int.natCast_add]
    exact ⟨b.length - (i + 1), by omega, i + 1, rfl, by omega, ht.symm, rfl⟩
  · have hib : i = b.length := by omega
    subst hib
    rw [List.take_length] at h3
    have w2 : W64 (16 - (X.length : Int)) (16 - (X.length : Int)) := .mkI rfl (by omega) (by omega)
    have h53 := wrapU_rng 0
    generalize b.foldl (stpD K) H = D at *
    unfold finD at h51
    simp [h3, h7, h8, hm, w2.eq, IntKind.bits, h51, h52]
    omega
end Go.Vm.Ch55
