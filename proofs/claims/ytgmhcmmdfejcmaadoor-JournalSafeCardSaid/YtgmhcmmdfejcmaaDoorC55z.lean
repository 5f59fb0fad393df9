/- Chapter 55: what its functions compute. -/
import Derived.Test.YtgmhcmmdfejcmaaDoorC55y
namespace Go.Vm.Ch55
set_option maxRecDepth 10000
set_option maxHeartbeats 8000000
/-! ### a changed byte changes the digest -/
theorem ofI {n : Nat} : BitVec.ofInt 64 (n : Int) = BitVec.ofNat 64 n := BitVec.ofInt_natCast ..
theorem wrapN (n : Nat) : IntKind.wrap .u64 (n : Int) = ((n % 18446744073709551616 : Nat) : Int) := by
  simp [IntKind.wrap, IntKind.bits, IntKind.signed]
def rotN (h : Nat) : Nat := (h % 144115188075855872) * 128 + h / 144115188075855872
theorem rot_nat {h : Nat} (hh : h < 18446744073709551616) : rotS h = (rotN h : Int) := by
  unfold rotS rotN
  have e1 : ((h : Int) * 128) = ((h * 128 : Nat) : Int) := by omega
  have e2 : (h : Int).fdiv 144115188075855872 = ((h / 144115188075855872 : Nat) : Int) := by
    rw [Int.fdiv_eq_ediv_of_nonneg _ (by omega)]; omega
  have e3 : (h * 128) % 18446744073709551616 = (h % 144115188075855872) * 128 := Nat.mul_mod_mul_right 128 h 144115188075855872
  rw [e1, wrapN, e2, e3]
  have hq : h / 144115188075855872 < 128 := by omega
  have ht : h % 144115188075855872 < 144115188075855872 := Nat.mod_lt _ (by decide)
  generalize h / 144115188075855872 = q at *
  generalize h % 144115188075855872 = t at *
  have e : (BitVec.ofInt 64 ((t * 128 : Nat) : Int) ||| BitVec.ofInt 64 (q : Int)).toNat = t * 128 + q := by
    have h64 : ((2 : Nat) ^ 64 : Nat) = 18446744073709551616 := by decide
    simp only [BitVec.toNat_or, BitVec.ofInt_natCast, BitVec.toNat_ofNat]
    rw [Nat.mod_eq_of_lt (by omega), Nat.mod_eq_of_lt (by omega)]
    have := Nat.shiftLeft_add_eq_or_of_lt (i := 7) (b := q) (by omega) t
    rw [Nat.shiftLeft_eq] at this
    exact this.symm
  show IntKind.wrap .u64 ((BitVec.ofInt 64 ((t * 128 : Nat) : Int) ||| BitVec.ofInt 64 (q : Int)).toNat : Int) = _
  rw [e, wrapN, Nat.mod_eq_of_lt (by omega)]
theorem rot_lt {h : Nat} (hh : h < 18446744073709551616) : rotN h < 18446744073709551616 := by
  unfold rotN; omega
theorem rot_inj {h g : Nat} (hh : h < 18446744073709551616) (hg : g < 18446744073709551616) (e : rotN h = rotN g) : h = g := by
  unfold rotN at e
  have h1 := Nat.div_add_mod h 144115188075855872
  have h2 := Nat.div_add_mod g 144115188075855872
  have hq : h / 144115188075855872 < 128 := by omega
  have hq2 : g / 144115188075855872 < 128 := by omega
  generalize h / 144115188075855872 = q at *
  generalize h % 144115188075855872 = t at *
  generalize g / 144115188075855872 = q2 at *
  generalize g % 144115188075855872 = t2 at *
  omega
/-- One step of the digest over natural numbers. -/
def stpN (K h b : Nat) : Nat := (((rotN h) ^^^ b) * K) % 18446744073709551616
theorem stp_nat {K h : Nat} (hh : h < 18446744073709551616) (b : UInt8) : stpD K h b = (stpN K h b.toNat : Int) := by
  have hb := b.toNat_lt
  unfold stpD stpN
  rw [rot_nat hh, wrapN, Nat.mod_eq_of_lt (show b.toNat < 18446744073709551616 by omega)]
  have hr := rot_lt hh
  generalize rotN h = r at *
  have hx : (BitVec.ofInt 64 (r : Int) ^^^ BitVec.ofInt 64 (b.toNat : Int)).toNat = r ^^^ b.toNat := by
    have h64 : ((2 : Nat) ^ 64 : Nat) = 18446744073709551616 := by decide
    simp only [BitVec.toNat_xor, BitVec.ofInt_natCast, BitVec.toNat_ofNat]
    rw [Nat.mod_eq_of_lt (by omega), Nat.mod_eq_of_lt (by omega)]
  have hxl : r ^^^ b.toNat < 18446744073709551616 := Nat.xor_lt_two_pow (n := 64) hr (by omega)
  have e : ixor .u64 (r : Int) (b.toNat : Int) = ((r ^^^ b.toNat : Nat) : Int) := by
    show IntKind.wrap .u64 ((BitVec.ofInt 64 (r : Int) ^^^ BitVec.ofInt 64 (b.toNat : Int)).toNat : Int) = _
    rw [hx, wrapN, Nat.mod_eq_of_lt hxl]
  rw [e, ← Int.natCast_mul, wrapN]
theorem mul_inj {K I x y : Nat} (hK : (K * I) % 18446744073709551616 = 1) (hx : x < 18446744073709551616) (hy : y < 18446744073709551616) (e : (x * K) % 18446744073709551616 = (y * K) % 18446744073709551616) : x = y := by
  have h1 : ∀ z, z < 18446744073709551616 → (((z * K) % 18446744073709551616) * I) % 18446744073709551616 = z := fun z hz => by
    rw [Nat.mod_mul_mod, Nat.mul_assoc, ← Nat.mul_mod_mod, hK, Nat.mul_one, Nat.mod_eq_of_lt hz]
  rw [← h1 x hx, ← h1 y hy, e]
theorem stpN_lt (K h b : Nat) : stpN K h b < 18446744073709551616 := Nat.mod_lt _ (by decide)
theorem xor_right {a b c : Nat} (h : a ^^^ c = b ^^^ c) : a = b := by
  have := congrArg (· ^^^ c) h
  simpa [Nat.xor_assoc] using this
theorem stpN_inj {K I h g b c : Nat} (hK : (K * I) % 18446744073709551616 = 1) (hh : h < 18446744073709551616) (hg : g < 18446744073709551616) (hb : b < 256) (hc : c < 256) (e : stpN K h b = stpN K g c) :
    (rotN h) ^^^ b = (rotN g) ^^^ c := by
  have h1 := rot_lt hh
  have h2 := rot_lt hg
  exact mul_inj hK (Nat.xor_lt_two_pow (n := 64) h1 (by omega)) (Nat.xor_lt_two_pow (n := 64) h2 (by omega)) e
theorem fold_nat {K : Nat} : ∀ (b : List UInt8) {h : Nat}, h < 18446744073709551616 → b.foldl (stpD K) (h : Int) = ((b.foldl (fun g (x : UInt8) => stpN K g x.toNat) h : Nat) : Int)
  | [], _, _ => rfl
  | x :: b, h, hh => by
    rw [List.foldl_cons, stp_nat hh, fold_nat b (stpN_lt _ _ _)]; rfl
theorem fold_lt {K : Nat} : ∀ (b : List UInt8) {h : Nat}, h < 18446744073709551616 → b.foldl (fun g (x : UInt8) => stpN K g x.toNat) h < 18446744073709551616
  | [], _, hh => hh
  | x :: b, h, _ => by rw [List.foldl_cons]; exact fold_lt b (stpN_lt _ _ _)
theorem fold_inj {K I : Nat} (hK : (K * I) % 18446744073709551616 = 1) : ∀ (b : List UInt8) {h g : Nat}, h < 18446744073709551616 → g < 18446744073709551616 →
    b.foldl (fun g (x : UInt8) => stpN K g x.toNat) h = b.foldl (fun g (x : UInt8) => stpN K g x.toNat) g → h = g
  | [], _, _, _, _, e => e
  | x :: b, h, g, hh, hg, e => by
    rw [List.foldl_cons, List.foldl_cons] at e
    have h1 := fold_inj hK b (stpN_lt _ _ _) (stpN_lt _ _ _) e
    exact rot_inj hh hg (xor_right (stpN_inj hK hh hg x.toNat_lt x.toNat_lt h1))
theorem xor_left {a b c : Nat} (h : a ^^^ b = a ^^^ c) : b = c := by
  have := congrArg (a ^^^ ·) h
  simpa [← Nat.xor_assoc] using this
theorem finD_inj {h g : Nat} (hh : h < 18446744073709551616) (hg : g < 18446744073709551616) (e : finD h = finD g) : h = g := by
  have hf : ∀ h : Nat, h < 18446744073709551616 → finD h = ((h ^^^ (h >>> 32) : Nat) : Int) := fun h hh => by
    unfold finD
    have e2 : (h : Int).fdiv 4294967296 = ((h / 4294967296 : Nat) : Int) := by
      rw [Int.fdiv_eq_ediv_of_nonneg _ (by omega)]; omega
    rw [e2]
    have hx : (BitVec.ofInt 64 (h : Int) ^^^ BitVec.ofInt 64 ((h / 4294967296 : Nat) : Int)).toNat = h ^^^ (h / 4294967296) := by
      have h64 : ((2 : Nat) ^ 64 : Nat) = 18446744073709551616 := by decide
      simp only [BitVec.toNat_xor, BitVec.ofInt_natCast, BitVec.toNat_ofNat]
      rw [Nat.mod_eq_of_lt (by omega), Nat.mod_eq_of_lt (by omega)]
    have hxl : h ^^^ (h / 4294967296) < 18446744073709551616 := Nat.xor_lt_two_pow (n := 64) hh (by omega)
    show IntKind.wrap .u64 ((BitVec.ofInt 64 (h : Int) ^^^ BitVec.ofInt 64 ((h / 4294967296 : Nat) : Int)).toNat : Int) = _
    rw [hx, wrapN, Nat.mod_eq_of_lt hxl, Nat.shiftRight_eq_div_pow]
  rw [hf h hh, hf g hg] at e
  have e' : h ^^^ (h >>> 32) = g ^^^ (g >>> 32) := by omega
  have hz : ∀ h : Nat, h < 18446744073709551616 → (h ^^^ (h >>> 32)) >>> 32 = h >>> 32 := fun h hh => by
    rw [Nat.shiftRight_xor_distrib, ← Nat.shiftRight_add]
    have : h >>> 64 = 0 := by
      rw [Nat.shiftRight_eq_div_pow]; exact Nat.div_eq_of_lt hh
    rw [show 32 + 32 = 64 from rfl, this, Nat.xor_zero]
  have e3 : h >>> 32 = g >>> 32 := by rw [← hz h hh, ← hz g hg, e']
  rw [e3] at e'
  exact xor_right e'
theorem hexd_inj {a b : Nat} (ha : a < 16) (hb : b < 16) (e : hexd a = hexd b) : a = b := by
  have : ∀ a, a < 16 → ∀ b, b < 16 → hexd a = hexd b → a = b := by decide
  exact this a ha b hb e
theorem hexK_inj : ∀ (k : Nat) {a b : Nat}, a < 16 ^ k → b < 16 ^ k → hexK k a = hexK k b → a = b
  | 0, a, b, ha, hb, _ => by simp at ha hb; omega
  | k + 1, a, b, ha, hb, e => by
    rw [hexK, hexK] at e
    obtain ⟨e1, e2⟩ := List.append_inj' e rfl
    rw [Nat.pow_succ] at ha hb
    have h1 := hexK_inj k (by omega) (by omega) e1
    have h2 := hexd_inj (Nat.mod_lt _ (by decide)) (Nat.mod_lt _ (by decide)) (List.cons.inj e2).1
    omega
theorem dig_flip (a c : List UInt8) {x y : UInt8} (h : x ≠ y) : dig (a ++ x :: c) ≠ dig (a ++ y :: c) := by
  intro e
  unfold dig at e
  have hH : (11400714819323198485 : Int) = ((11400714819323198485 : Nat) : Int) := rfl
  have hK : (18397679294719823053 : Int) = ((18397679294719823053 : Nat) : Int) := rfl
  rw [hH, hK, fold_nat _ (by decide), fold_nat _ (by decide)] at e
  have hI : (18397679294719823053 * 5725274745694666757) % 18446744073709551616 = 1 := by decide
  have hlt : (11400714819323198485 : Nat) < 18446744073709551616 := by decide
  have l1 := fold_lt (K := 18397679294719823053) (a ++ x :: c) hlt
  have l2 := fold_lt (K := 18397679294719823053) (a ++ y :: c) hlt
  generalize (18397679294719823053 : Nat) = K at *
  generalize (11400714819323198485 : Nat) = H at *
  have r1 := finD_rng ((a ++ x :: c).foldl (fun g (x : UInt8) => stpN K g x.toNat) H : Nat)
  have r2 := finD_rng ((a ++ y :: c).foldl (fun g (x : UInt8) => stpN K g x.toNat) H : Nat)
  have e16 : 16 ^ 16 = 18446744073709551616 := by decide
  have e2 := hexK_inj 16 (by omega) (by omega) e
  have e3 := finD_inj l1 l2 (by omega)
  rw [List.foldl_append, List.foldl_append, List.foldl_cons, List.foldl_cons] at e3
  have l0 := fold_lt (K := K) a hlt
  have e4 := fold_inj hI c (stpN_lt _ _ _) (stpN_lt _ _ _) e3
  have e5 := xor_left (stpN_inj hI l0 l0 x.toNat_lt y.toNat_lt e4)
  exact h (UInt8.toNat_inj.1 e5)
end Go.Vm.Ch55
