/- Chapter 55: what its functions compute. -/
import Derived.Test.YtgmhcmmdfejcmaaDoorC55a
namespace Go.Vm.Ch55
open _root_.Ch55 (T55 c42 c44 c45 c50 c51 c53 c63)
set_option maxRecDepth 10000
set_option maxHeartbeats 4000000
def hx : List UInt8 := [48, 49, 50, 51, 52, 53, 54, 55, 56, 57, 97, 98, 99, 100, 101, 102, 103, 104, 105, 106, 107, 108, 109, 110, 111, 112, 113, 114, 115, 116, 117, 118, 119, 120, 121, 122]
def hexd (n : Nat) : UInt8 := hx.getD n 0
def hexK : Nat → Nat → List UInt8
  | 0, _ => []
  | k + 1, n => hexK k (n / 16) ++ [hexd (n % 16)]
theorem hexK_len : ∀ k n, (hexK k n).length = k
  | 0, _ => rfl
  | k + 1, n => by simp [hexK, hexK_len k]
theorem hexK_zero : ∀ k, hexK k 0 = List.replicate k 48
  | 0 => rfl
  | k + 1 => by
    rw [hexK, Nat.zero_div, hexK_zero k, List.replicate_succ']
    rfl
theorem hexK_small {k n : Nat} (h : n < 16) : hexK (k + 1) n = List.replicate k 48 ++ [hexd n] := by
  rw [hexK, Nat.div_eq_of_lt h, hexK_zero, Nat.mod_eq_of_lt h]
theorem hx_get {n : Nat} (h : n < 16) : hx[n]? = some (hexd n) := by
  have : n < hx.length := by simp [hx]; omega
  simp [hexd, List.getD, this]
theorem drop_set {cs : List AV} {k : Nat} {v : AV} {L : List AV} (hk : k < cs.length) (h : cs.drop (k + 1) = L) : (cs.set k v).drop k = v :: L := by
  rw [List.drop_eq_getElem_cons (by simpa using hk), List.getElem_set_self, List.drop_set_of_lt (by omega), h]
theorem strMO_drop {cs : List AV} {i n : Nat} {R : List UInt8} (h : cs.drop i = byc R) (hn : n = R.length) (hl : i + n ≤ cs.length) : strMO i n (some cs) = some (.str R) := by
  simp only [strMO]
  rw [if_pos hl, h, hn, ← byc_len R, List.take_length, bytesV_byc]
theorem isTr : callL T55 72 [AV.int IntKind.i64 16] [] = some (.bool true, []) := by
  have h : callN T55 20 72 [AV.int IntKind.i64 16] [] = some (.bool true, []) := by kernel_rfl
  exact callL_of h
theorem q73 : callL T55 73 [Uu 16] [] = some (AV.int IntKind.i64 4, []) := by
  have h : callN T55 20 73 [Uu 16] [] = some (AV.int IntKind.i64 4, []) := by kernel_rfl
  exact callL_of h
def hexMin : Nat → Nat → List UInt8
  | 0, n => [hexd n]
  | f + 1, n => if n < 16 then [hexd n] else hexMin f (n / 16) ++ [hexd (n % 16)]
theorem hexMin_small {f n : Nat} (h : n < 16) : hexMin f n = [hexd n] := by
  cases f <;> simp [hexMin, h]
theorem hexMin_pad : ∀ f n, n < 16 ^ (f + 1) → (1 ≤ (hexMin f n).length ∧ (hexMin f n).length ≤ f + 1) ∧ List.replicate (f + 1 - (hexMin f n).length) 48 ++ hexMin f n = hexK (f + 1) n
  | 0, n, h => by
    have h' : n < 16 := by simpa using h
    rw [hexMin_small h', hexK_small h']
    simp
  | f + 1, n, h => by
    by_cases h' : n < 16
    · rw [hexMin_small h', hexK_small h']
      simp
    · have hd : n / 16 < 16 ^ (f + 1) := by
        rw [Nat.pow_succ] at h
        exact Nat.div_lt_of_lt_mul (by omega)
      obtain ⟨⟨h1, h2⟩, h3⟩ := hexMin_pad f (n / 16) hd
      rw [hexMin, if_neg h', hexK, ← h3]
      simp only [List.length_append, List.length_cons, List.length_nil, List.append_assoc]
      refine ⟨by omega, ?_⟩
      congr 2
      omega
theorem q63 (h : Nat) (hh : h < 16 ^ 16) (m : Mem) : callL T55 63 [.vec none false [], Uu h, AV.int IntKind.i64 16, .bool false, .bool false] m = some (.tup [.vec none false [], .str (hexMin 15 h)], m) := by
  apply callL_body (vf := c63) rfl rfl
  have e1 : IntKind.wrap .u64 16 = 16 := by decide
  have e2 : IntKind.wrap .u64 4 = 4 := by decide
  have e3 : IntKind.wrap .u64 15 = 15 := by decide
  simp [c63, isTr, q73, e1, e2, e3]
  refine wp_loop (fun w s => ∃ (j u : Nat) (cs : List AV) (suf : List UInt8), w = u ∧ j ≤ 15 ∧ u < 16 ^ (16 - j) ∧ s.get 4 = .bool false ∧ s.get 3 = .bool false ∧ s.get 10 = .vec none false [] ∧ s.get 1 = Uu u ∧ s.get 13 = AV.int IntKind.i64 (65 - j : Nat) ∧ s.get 14 = Uu 4 ∧ s.get 15 = Uu 16 ∧ s.get 16 = Uu 15 ∧ s.get 12 = .ptr (.loc 12 0) 0 ∧ s.loc 12 = [.cells false cs] ∧ cs.length = 65 ∧ cs.drop (65 - j) = byc suf ∧ suf.length = j ∧ hexMin 15 h = hexMin (15 - j) u ++ suf ∧ s.mem = m) ?_ h _ ?_
  rotate_left
  · exact ⟨0, h, _, [], rfl, by omega, by simpa using hh, by simp; exact ⟨rfl, rfl, rfl⟩⟩
  rintro w s ⟨j, u, cs, suf, hw, hj, hu, g4, g3, g10, g1, g13, g14, g15, g16, g12, l12, hcl, hcd, hsl, hR, hm⟩
  have hk : 64 - j < cs.length := by omega
  have w1 : W64 (((65 - j : Nat) : Int) - 1) ((64 - j : Nat) : Int) := .mkI (by omega) (by omega) (by omega)
  have hcd' : cs.drop (64 - j + 1) = byc suf := by rw [← hcd]; congr 1; omega
  have d65 : (64 - j : Nat) < 65 := by omega
  have d65i : ((64 - j : Nat) : Int) < 65 := by omega
  by_cases hlt : 16 ≤ u
  · have hj2 : j ≤ 14 := by
      refine Classical.byContradiction fun hn => ?_
      have : j = 15 := by omega
      subst this
      simp at hu
      omega
    have hlt' : (16 : Int) ≤ u := by omega
    have hp : u < 2 ^ 64 := Nat.lt_of_lt_of_le hu (Nat.le_trans (Nat.pow_le_pow_right (by omega) (Nat.sub_le 16 j)) (by decide))
    have h64 : ((2 : Nat) ^ 64 : Nat) = 18446744073709551616 := by decide
    obtain ⟨r, hr⟩ : ∃ r, r = u % 16 := ⟨_, rfl⟩
    have em : iand .u64 (u : Int) 15 = (r : Int) := by
      have := iand_mask (a := u) (by omega) (by omega) 4 (by omega)
      rw [hr]
      simpa using this
    have hg : hx[r]? = some (hexd r) := hx_get (by omega)
    unfold hx at hg
    have hds := drop_set (v := bcell (hexd r)) hk hcd'
    have hdv : (u : Int).fdiv 16 = ((u / 16 : Nat) : Int) := by
      rw [Int.fdiv_eq_ediv_of_nonneg _ (by omega)]; omega
    have hq : u / 16 < 16 ^ (15 - j) := by
      have : 16 - j = (15 - j) + 1 := by omega
      rw [this, Nat.pow_succ] at hu
      exact Nat.div_lt_of_lt_mul (by omega)
    have hR2 : hexMin 15 h = hexMin (14 - j) (u / 16) ++ (hexd r :: suf) := by
      have e : 15 - j = (14 - j) + 1 := by omega
      rw [hR, e, hexMin, if_neg (by omega), hr]
      simp
    simp [g4, g3, g10, g1, g13, g14, g15, g16, g12, l12, hm, hlt', w1.eq, em, d65i, objCells, hcl, IntKind.bits, hdv, hg]
    have x1 : 16 - (j + 1) = 15 - j := by omega
    have x2 : 65 - (j + 1) = 64 - j := by omega
    have x3 : 15 - (j + 1) = 14 - j := by omega
    exact ⟨u / 16, by omega, j + 1, by omega, by rw [x1]; exact hq, by omega, by rw [x2], hexd r :: suf, by rw [x2]; exact hds, by simp [hsl], by rw [x3]; exact hR2⟩
  · have hlt' : ¬ (16 : Int) ≤ u := by omega
    have hg : hx[u]? = some (hexd u) := hx_get (by omega)
    unfold hx at hg
    have hds := drop_set (v := bcell (hexd u)) hk hcd'
    have hst : strMO (64 - j) (65 - (64 - j)) (some (cs.set (64 - j) (AV.int .u8 (hexd u).toNat))) = some (.str (hexd u :: suf)) := strMO_drop (by rw [show AV.int .u8 ((hexd u).toNat : Int) = bcell (hexd u) from rfl, hds]; rfl) (by simp; omega) (by simp; omega)
    rw [hexMin_small (f := 15 - j) (n := u) (by omega)] at hR
    simp [g4, g3, g10, g1, g13, g15, g16, g12, l12, hm, hlt', w1.eq, d65i, objCells, hcl, hg, hst]
    exact ⟨by omega, by rw [hR]; rfl⟩
/-! ### sixteen digits -/
theorem q53 (h : Nat) (hh : h < 16 ^ 16) (m : Mem) : callL T55 53 [Uu h, AV.int IntKind.i64 16] m = some (.str (hexMin 15 h), m) := by
  have h63 := q63 h hh []
  apply callL_body (vf := c53) rfl rfl
  simp [c53, h63]
theorem q51 (h : Nat) (hh : h < 16 ^ 16) (m : Mem) : callL T55 51 [Uu h, AV.int IntKind.i64 16] m = some (.str (hexMin 15 h), m) := by
  have h53 := q53 h hh []
  apply callL_body (vf := c51) rfl rfl
  simp [c51, h53]
def chkRep : Bool := (List.range 17).all fun n => match callN T55 60 52 [.str [48], AV.int IntKind.i64 n] [] with
  | some (.str b, []) => b == List.replicate n 48
  | _ => false
theorem q52 (n : Nat) (hn : n ≤ 16) : callL T55 52 [.str [48], AV.int IntKind.i64 n] [] = some (.str (List.replicate n 48), []) := by
  have h : chkRep = true := by kernel_rfl
  unfold chkRep at h
  rw [List.all_eq_true] at h
  have h1 := h n (List.mem_range.2 (by omega))
  split at h1
  · rename_i b hb
    have : b = List.replicate n 48 := by simpa using h1
    rw [← this]; exact callL_of hb
  · simp at h1
def zero16 : List UInt8 := List.replicate 16 48
theorem q45 (m : Mem) : callL T55 45 [] m = some (.str zero16, m) := by
  have h := q52 16 (by omega)
  apply callL_body (vf := c45) rfl rfl
  simp [c45]
  simp at h
  simp [h, zero16]
/-- The digest of a string. -/
def dig (b : List UInt8) : List UInt8 := hexK 16 (finD (b.foldl (stpD 18397679294719823053) 11400714819323198485)).toNat
theorem dig_len (b : List UInt8) : (dig b).length = 16 := hexK_len _ _
theorem q42 (b : List UInt8) (hl : b.length ≤ 1000000) (m : Mem) : callL T55 42 [.str b] m = some (.str (dig b), m) := by
  obtain ⟨f0, f1⟩ := finD_rng (b.foldl (stpD 18397679294719823053) 11400714819323198485)
  have hT : T55 42 = some (c42g 18397679294719823053 11400714819323198485) := rfl
  unfold dig
  have key := fun X h51 hX Z hZ h52 => q42g (f := 42) hT (fun h => q50 h []) b hl X h51 hX Z hZ h52 m
  generalize finD (b.foldl (stpD 18397679294719823053) 11400714819323198485) = F at *
  obtain ⟨n, rfl⟩ := Int.eq_ofNat_of_zero_le f0
  have hn : n < 16 ^ 16 := by
    have : ((16 : Nat) ^ 16 : Nat) = 18446744073709551616 := by decide
    omega
  obtain ⟨⟨l1, l2⟩, l3⟩ := hexMin_pad 15 n hn
  have := key _ (q51 n hn []) (by omega) (List.replicate (16 - (hexMin 15 n).length) 48) (by simp) (by
    have e : (16 - ((hexMin 15 n).length : Int)) = ((16 - (hexMin 15 n).length : Nat) : Int) := by omega
    rw [e]
    exact q52 _ (by omega))
  rw [this, l3]
  rfl
end Go.Vm.Ch55
