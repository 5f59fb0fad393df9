/- Chapter 55: what its functions compute. -/
import Derived.Test.YtgmhcmmdfejcmaaDoorC55b
namespace Go.Vm.Ch55
open _root_.Ch55 (T55 c44 c24 c43 c23 c22 c27 c28)
set_option maxRecDepth 10000
set_option maxHeartbeats 4000000
/-- The reference's digest, its two great numbers left open. -/
def c44g (K H : Int) : VF := ⟨1, [(.tmp 2)], (.seq (.region [⟨(.some 2), (.assign (.k (.str []))), .none⟩]) (.seq (.region [⟨(.some 3), (.assign (.k (.int .u64 H))), .none⟩]) (.seq (.seq (.region [⟨(.some 4), (.assign (.k (.int .i64 0))), .none⟩]) (.block 0 (.loop (.seq (.seq (.region [⟨(.some 7), (.move (.t 4)), .none⟩, ⟨(.some 8), (.move (.t 0)), .none⟩, ⟨(.some 9), (.lenStr (.t 8)), .none⟩, ⟨(.some 10), (.bin .lss (.t 7) (.t 9)), .none⟩]) (.cond (.t 10) .skip (.exit 0))) (.seq (.block 1 (.seq (.region [⟨(.some 13), (.move (.t 3)), .none⟩, ⟨(.some 14), (.bin .shl (.t 13) (.k (.int .u64 7))), .none⟩, ⟨(.some 15), (.move (.t 3)), .none⟩, ⟨(.some 16), (.bin .shr (.t 15) (.k (.int .u64 57))), .none⟩, ⟨(.some 17), (.bin .or (.t 14) (.t 16)), .none⟩, ⟨(.some 18), (.move (.t 0)), .none⟩, ⟨(.some 19), (.move (.t 4)), .none⟩, ⟨(.some 20), (.idxStr (.t 18) (.t 19)), .none⟩, ⟨(.some 21), (.cint .u64 (.t 20)), .none⟩, ⟨(.some 22), (.bin .xor (.t 17) (.t 21)), .none⟩, ⟨(.some 3), (.assign (.t 22)), .none⟩]) (.region [⟨(.some 23), (.move (.t 3)), .none⟩, ⟨(.some 24), (.bin .mul (.t 23) (.k (.int .u64 K))), .none⟩, ⟨(.some 3), (.assign (.t 24)), .none⟩]))) (.region [⟨(.some 11), (.move (.t 4)), .none⟩, ⟨(.some 12), (.bin .add (.t 11) (.k (.int .i64 1))), .none⟩, ⟨(.some 4), (.assign (.t 12)), .none⟩])))))) (.seq (.region [⟨(.some 25), (.move (.t 3)), .none⟩, ⟨(.some 26), (.move (.t 3)), .none⟩, ⟨(.some 27), (.bin .shr (.t 26) (.k (.int .u64 32))), .none⟩, ⟨(.some 28), (.bin .xor (.t 25) (.t 27)), .none⟩, ⟨(.some 3), (.assign (.t 28)), .none⟩]) (.seq (.region [⟨(.some 5), (.assign (.k (.str []))), .none⟩]) (.seq (.seq (.region [⟨(.some 6), (.assign (.k (.int .i64 60))), .none⟩]) (.block 2 (.loop (.seq (.seq (.region [⟨(.some 29), (.move (.t 6)), .none⟩, ⟨(.some 30), (.bin .geq (.t 29) (.k (.int .i64 0))), .none⟩]) (.cond (.t 30) .skip (.exit 2))) (.seq (.block 3 (.region [⟨(.some 33), (.move (.t 5)), .none⟩, ⟨(.some 34), (.move (.t 3)), .none⟩, ⟨(.some 35), (.move (.t 6)), .none⟩, ⟨(.some 36), (.bin .shr (.t 34) (.t 35)), .none⟩, ⟨(.some 37), (.bin .and (.t 36) (.k (.int .u64 15))), .none⟩, ⟨(.some 38), (.move (.t 3)), .none⟩, ⟨(.some 39), (.move (.t 6)), .none⟩, ⟨(.some 40), (.bin .shr (.t 38) (.t 39)), .none⟩, ⟨(.some 41), (.bin .and (.t 40) (.k (.int .u64 15))), .none⟩, ⟨(.some 42), (.bin .add (.t 41) (.k (.int .u64 1))), .none⟩, ⟨(.some 43), (.slStr (.k (.str [48, 49, 50, 51, 52, 53, 54, 55, 56, 57, 97, 98, 99, 100, 101, 102])) (.some (.t 37)) (.some (.t 42))), .none⟩, ⟨(.some 44), (.bin .add (.t 33) (.t 43)), .none⟩, ⟨(.some 5), (.assign (.t 44)), .none⟩])) (.region [⟨(.some 31), (.move (.t 6)), .none⟩, ⟨(.some 32), (.bin .sub (.t 31) (.k (.int .i64 4))), .none⟩, ⟨(.some 6), (.assign (.t 32)), .none⟩])))))) (.seq (.region [⟨(.some 45), (.move (.t 5)), .none⟩, ⟨(.some 2), (.assign (.t 45)), .none⟩]) .ret)))))))⟩
theorem hexd_sl {r : Nat} (h : r < 16) : ((([48, 49, 50, 51, 52, 53, 54, 55, 56, 57, 97, 98, 99, 100, 101, 102] : List UInt8).take (r + 1)).drop r) = [hexd r] := by
  have key : ∀ r : Fin 16, ((([48, 49, 50, 51, 52, 53, 54, 55, 56, 57, 97, 98, 99, 100, 101, 102] : List UInt8).take (r.val + 1)).drop r.val) = [hexd r.val] := by decide +kernel
  exact key ⟨r, h⟩
theorem q44g {T : FuncId → Option VF} {f : FuncId} {K H : Int} (hT : T f = some (c44g K H)) (b : List UInt8) (hl : b.length ≤ 1000000) (m : Mem) : callL T f [.str b] m = some (.str (hexK 16 (finD (b.foldl (stpD K) H)).toNat), m) := by
  apply callL_body (vf := c44g K H) hT rfl
  have e1 : IntKind.wrap .u64 57 = 57 := by decide
  simp [c44g]
  refine wp_loop (fun w s => ∃ i : Nat, w = b.length - i ∧ i ≤ b.length ∧ s.get 0 = .str b ∧ s.get 3 = Uu ((b.take i).foldl (stpD K) H) ∧ s.get 4 = AV.int IntKind.i64 i ∧ s.mem = m) ?_ b.length _ ?_
  rotate_left
  · exact ⟨0, by simp⟩
  rintro w s ⟨i, hn, hi, h0, h3, h4, hm⟩
  have w1 : W64 ((i : Int) + 1) ((i + 1 : Nat) : Int) := .mkI (by omega) (by omega) (by omega)
  by_cases h : i < b.length
  · have ht : (b.take (i + 1)).foldl (stpD K) H = stpD K ((b.take i).foldl (stpD K) H) b[i] := by
      rw [List.take_succ_eq_append_getElem h, List.foldl_append]; rfl
    rw [stpD] at ht
    have hg := get_of h
    simp [h0, h3, h4, hm, h, w1.eq, IntKind.bits, -Int.natCast_add]
    exact ⟨b.length - (i + 1), by omega, i + 1, rfl, by omega, ht.symm, rfl⟩
  · have hib : i = b.length := by omega
    subst hib
    rw [List.take_length] at h3
    obtain ⟨f0, f1⟩ := finD_rng (b.foldl (stpD K) H)
    generalize b.foldl (stpD K) H = D at *
    obtain ⟨n, hn⟩ := Int.eq_ofNat_of_zero_le f0
    rw [hn]
    have hfd := hn
    unfold finD at hfd
    have hnn : n < 18446744073709551616 := by rw [hn] at f1; omega
    simp [h0, h3, h4, IntKind.bits, hfd]
    clear h0 h3 h4 w1 hi h
    refine wp_loop (fun w s => ∃ j : Nat, w = 16 - j ∧ j ≤ 16 ∧ s.get 3 = Uu n ∧ s.get 5 = .str (hexK j (n / 16 ^ (16 - j))) ∧ s.get 6 = AV.int IntKind.i64 (60 - 4 * (j : Int)) ∧ s.mem = m) ?_ 16 _ ?_
    rotate_left
    · refine ⟨0, rfl, by omega, ?_⟩
      have : n / 16 ^ 16 = 0 := Nat.div_eq_of_lt (by
        have : ((16 : Nat) ^ 16 : Nat) = 18446744073709551616 := by decide
        omega)
      simp [hexK, hm]
    rintro w s ⟨j, hw, hj, g3, g5, g6, gm⟩
    by_cases hj16 : j = 16
    · subst hj16
      simp [g3, g5, g6, gm]
    · have hj15 : j ≤ 15 := by omega
      have c1 : (0 : Int) ≤ 60 - 4 * (j : Int) := by omega
      have w2 : W64 (60 - 4 * (j : Int) - 4) (60 - 4 * ((j + 1 : Nat) : Int)) := .mkI (by omega) (by omega) (by omega)
      have c2 : ¬ (60 - 4 * (j : Int) < 0) := by omega
      have tn : (60 - 4 * (j : Int)).toNat = 60 - 4 * j := by omega
      have mn : min (60 - 4 * j) 64 = 60 - 4 * j := by omega
      have hpw : 2 ^ (60 - 4 * j) = 16 ^ (15 - j) := by
        have : 60 - 4 * j = 4 * (15 - j) := by omega
        rw [this, Nat.pow_mul]
      have hfv : (n : Int).fdiv (2 ^ (60 - 4 * j)) = ((n / 16 ^ (15 - j) : Nat) : Int) := by
        have e : ((2 : Int) ^ (60 - 4 * j)) = ((16 ^ (15 - j) : Nat) : Int) := by rw [← hpw]; simp
        rw [e, Int.fdiv_eq_ediv_of_nonneg _ (Int.natCast_nonneg _)]
        rfl
      have hK : hexK (j + 1) (n / 16 ^ (15 - j)) = hexK j (n / 16 ^ (16 - j)) ++ [hexd (n / 16 ^ (15 - j) % 16)] := by
        have : 16 - j = (15 - j) + 1 := by omega
        rw [hexK, Nat.div_div_eq_div_mul, this, Nat.pow_succ]
      have hle : n / 16 ^ (15 - j) ≤ n := Nat.div_le_self _ _
      obtain ⟨q, hq⟩ : ∃ q, q = n / 16 ^ (15 - j) := ⟨_, rfl⟩
      rw [← hq] at hfv hK hle
      obtain ⟨r, hr⟩ : ∃ r, r = q % 16 := ⟨_, rfl⟩
      rw [← hr] at hK
      have em : iand .u64 (q : Int) 15 = (r : Int) := by
        have := iand_mask (a := q) (by omega) (by omega) 4 (by omega)
        rw [hr]
        simpa using this
      have hrl : r < 16 := by omega
      have hs := hexd_sl hrl
      have w3 : IntKind.wrap .u64 ((r : Int) + 1) = ((r + 1 : Nat) : Int) := by rw [wrapU64 (by omega) (by omega)]; omega
      have t3 : ((r + 1 : Nat) : Int) ≤ 16 := by omega
      have t5 : (r : Int) ≤ ((r + 1 : Nat) : Int) := by omega
      have hkl := hexK_len j (n / 16 ^ (16 - j))
      simp [g3, g5, g6, gm, c2, IntKind.bits, tn, mn, hfv, em, w3, t3, t5, w2.eq, hkl, -Int.natCast_add]
      have hs2 := hs
      simp at hs2
      refine ⟨fun _ => ⟨by omega, 16 - (j + 1), by omega, j + 1, rfl, by omega, ?_, rfl⟩, fun h => absurd h (by omega)⟩
      have x1 : 16 - (j + 1) = 15 - j := by omega
      rw [hs2, x1, ← hq, hK]
theorem q44 (b : List UInt8) (hl : b.length ≤ 1000000) (m : Mem) : callL T55 44 [.str b] m = some (.str (dig b), m) := q44g (f := 44) rfl b hl m
/-! ### frames, chains -/
def nxt (h r : List UInt8) : List UInt8 := dig (h ++ r)
theorem nxt_len (h r : List UInt8) : (nxt h r).length = 16 := dig_len _
theorem q24 (h r : List UInt8) (hl : h.length + r.length ≤ 1000000) (m : Mem) : callL T55 24 [.str h, .str r] m = some (.str (nxt h r), m) := by
  have h44 := q44 (h ++ r) (by simp; omega) []
  apply callL_body (vf := c24) rfl rfl
  simp [c24, h44, nxt]
  omega
def front (n : Nat) : List UInt8 := [UInt8.ofNat (n / 256), UInt8.ofNat (n % 256), UInt8.ofNat (255 - n / 256), UInt8.ofNat (255 - n % 256)]
def frm (h r : List UInt8) : List UInt8 := front r.length ++ r ++ nxt h r
theorem frm_len (h r : List UInt8) : (frm h r).length = r.length + 20 := by simp [frm, front, nxt_len]
theorem wrapU8m (n : Nat) : IntKind.wrap .u8 (n : Int) = ((n % 256 : Nat) : Int) := by
  have e1 : IntKind.wrap .u8 (n : Int) = (n : Int) % 256 := by
    simp [IntKind.wrap, IntKind.bits, IntKind.signed]
  rw [e1]; omega
theorem fdiv256 (n : Nat) : (n : Int).fdiv 256 = ((n / 256 : Nat) : Int) := by
  rw [Int.fdiv_eq_ediv_of_nonneg _ (by omega)]; rfl
theorem q43 (h r : List UInt8) (hl : h.length + r.length ≤ 100000) (hr : r.length ≤ 1000) (m : Mem) : callL T55 43 [.str h, .str r] m = some (.tup [.str (frm h r), .str (nxt h r)], m) := by
  have h42 := q42 (h ++ r) (by simp; omega) []
  have hd := dig_len (h ++ r)
  obtain ⟨n, hn⟩ : ∃ n, n = r.length := ⟨_, rfl⟩
  have b1 : IntKind.wrap .u8 ((n / 256 : Nat) : Int) = ((n / 256 : Nat) : Int) := by rw [wrapU8m]; omega
  have b2 := wrapU8m n
  have b3 : IntKind.wrap .u8 (255 - ((n / 256 : Nat) : Int)) = ((255 - n / 256 : Nat) : Int) := by rw [wrapU8b (by omega) (by omega)]; omega
  have b4 : IntKind.wrap .u8 (255 - ((n % 256 : Nat) : Int)) = ((255 - n % 256 : Nat) : Int) := by rw [wrapU8b (by omega) (by omega)]; omega
  have b5 := fdiv256 n
  have hfr : frm h r = UInt8.ofNat (n / 256) :: UInt8.ofNat (n % 256) :: UInt8.ofNat (255 - n / 256) :: UInt8.ofNat (255 - n % 256) :: (r ++ dig (h ++ r)) := by
    simp [frm, front, nxt, hn]
  apply callL_body (vf := c43) rfl rfl
  simp [c43, h42, ← hn, IntKind.bits, b5, -Int.natCast_ediv, -Int.natCast_emod]
  simp only [b1, b2, b3, b4, Int.toNat_natCast]
  exact ⟨by omega, by omega, by omega, hfr.symm, rfl⟩
theorem q23 (h r : List UInt8) (hl : h.length + r.length ≤ 100000) (hr : r.length ≤ 1000) (m : Mem) : callL T55 23 [.str h, .str r] m = some (.str (frm h r), m) := by
  have h24 := q24 h r (by omega) []
  have hd := nxt_len h r
  obtain ⟨n, hn⟩ : ∃ n, n = r.length := ⟨_, rfl⟩
  have d1 : (n : Int).tdiv 256 = ((n / 256 : Nat) : Int) := by rw [Int.tdiv_eq_ediv_of_nonneg (by omega)]; omega
  have d2 : (n : Int).tmod 256 = ((n % 256 : Nat) : Int) := by rw [Int.tmod_eq_emod_of_nonneg (by omega)]; omega
  have v1 : W64 ((n / 256 : Nat) : Int) ((n / 256 : Nat) : Int) := .mkI rfl (by omega) (by omega)
  have v2 : W64 (255 - ((n / 256 : Nat) : Int)) ((255 - n / 256 : Nat) : Int) := .mkI (by omega) (by omega) (by omega)
  have v3 : W64 (255 - ((n % 256 : Nat) : Int)) ((255 - n % 256 : Nat) : Int) := .mkI (by omega) (by omega) (by omega)
  have b1 : IntKind.wrap .u8 ((n / 256 : Nat) : Int) = ((n / 256 : Nat) : Int) := by rw [wrapU8m]; omega
  have b2 : IntKind.wrap .u8 ((n % 256 : Nat) : Int) = ((n % 256 : Nat) : Int) := by rw [wrapU8m]; omega
  have b3 : IntKind.wrap .u8 ((255 - n / 256 : Nat) : Int) = ((255 - n / 256 : Nat) : Int) := by rw [wrapU8m]; omega
  have b4 : IntKind.wrap .u8 ((255 - n % 256 : Nat) : Int) = ((255 - n % 256 : Nat) : Int) := by rw [wrapU8m]; omega
  have hfr : frm h r = UInt8.ofNat (n / 256) :: UInt8.ofNat (n % 256) :: UInt8.ofNat (255 - n / 256) :: UInt8.ofNat (255 - n % 256) :: (r ++ nxt h r) := by
    simp [frm, front, hn]
  apply callL_body (vf := c23) rfl rfl
  simp [c23, h24, ← hn, d1, d2, v1.eq, v2.eq, v3.eq, b1, b2, b3, b4, -Int.natCast_ediv, -Int.natCast_emod]
  exact ⟨by omega, by omega, hfr.symm⟩
theorem q22 (h r : List UInt8) (hl : h.length + r.length ≤ 100000) (m : Mem) : callL T55 22 [.str h, .str r] m = some (if h.length = 16 then if r.length ≤ 1000 then .tup [.str (frm h r), .str (nxt h r), AV.int IntKind.i64 0] else .tup [.str [], .str [], AV.int IntKind.i64 7] else .tup [.str [], .str [], AV.int IntKind.i64 1], m) := by
  apply callL_body (vf := c22) rfl rfl
  by_cases h1 : h.length = 16
  · have h1' : (h.length : Int) = 16 := by omega
    by_cases h2 : r.length ≤ 1000
    · have h2' : ¬ (1000 : Int) < r.length := by omega
      have h43 := q43 h r hl h2 []
      simp [c22, h1, h2, h2', h43]
    · have h2' : (1000 : Int) < r.length := by omega
      simp [c22, h1, h2, h2']
  · have h1' : ¬ (h.length : Int) = 16 := by omega
    simp [c22, h1, h1']
end Go.Vm.Ch55
