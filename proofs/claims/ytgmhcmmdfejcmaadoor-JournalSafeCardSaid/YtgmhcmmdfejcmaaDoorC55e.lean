/- Chapter 55: what its functions compute. -/
import Derived.Test.YtgmhcmmdfejcmaaDoorC55d
namespace Go.Vm.Ch55
open _root_.Ch55 (T55 c46)
set_option maxRecDepth 10000
set_option maxHeartbeats 8000000
theorem byt_get {b : List UInt8} {i : Nat} (h : i < b.length) : b[i]? = some b[i] ∧ byt b i = b[i].toNat := by
  simp [byt, List.getD, h]
theorem byt_lt (b : List UInt8) (i : Nat) : byt b i < 256 := (b.getD i 0).toNat_lt
theorem or_bytes {a b : Nat} (ha : a < 256) (hb : b < 256) : ior .i64 ((a * 256 : Nat) : Int) (b : Int) = ((a * 256 + b : Nat) : Int) := by
  unfold ior
  have e : (BitVec.ofInt 64 ((a * 256 : Nat) : Int) ||| BitVec.ofInt 64 (b : Int)).toNat = a * 256 + b := by
    have h64 : ((2 : Nat) ^ 64 : Nat) = 18446744073709551616 := by decide
    simp only [BitVec.toNat_or, BitVec.ofInt_natCast, BitVec.toNat_ofNat]
    rw [Nat.mod_eq_of_lt (by omega), Nat.mod_eq_of_lt (by omega)]
    have := Nat.shiftLeft_add_eq_or_of_lt (i := 8) (b := b) (by omega) a
    rw [Nat.shiftLeft_eq] at this
    exact this.symm
  show IntKind.wrap .i64 ((BitVec.ofInt 64 ((a * 256 : Nat) : Int) ||| BitVec.ofInt 64 (b : Int)).toNat : Int) = _
  rw [e]
  exact wrap64 (by omega) (by omega)
theorem q46 (d : List UInt8) (hd : d.length ≤ 100000) (g : FuncId) (caps : List AV) (e : Nat) (M : Nat → Mem) (B : Nat → Bool) (he : e ≤ (scanA d).length)
    (hcall : ∀ (k : Nat) (x : Stp), k < e → (scanA d)[k]? = some x → callL T55 g (.str x.r :: AV.int IntKind.i64 x.u :: .str x.h :: caps.map AV.view) (M k) = some (.bool (B k), M (k + 1)))
    (hB : ∀ k, k + 1 < e → B k = true) (hend : e = (scanA d).length ∨ (0 < e ∧ B (e - 1) = false)) : callL T55 46 [.str d, .fn (.func g) caps] (M 0) = some (.tup [], M e) := by
  have h45 := q45 []
  obtain ⟨L, hL⟩ : ∃ L, L = scanA d := ⟨_, rfl⟩
  rw [← hL] at he hcall hend
  unfold scanA at hL
  apply callL_body (vf := c46) rfl rfl
  simp [c46, h45]
  refine wp_loop (fun w s => ∃ (k u f : Nat) (h : List UInt8), w = d.length - u ∧ u ≤ d.length ∧ k ≤ e ∧ d.length - u ≤ f ∧ L.drop k = scanL f (d.drop u) u h ∧ h.length = 16 ∧ (0 < k → B (k - 1) = true) ∧ s.get 0 = .str d ∧ s.get 1 = .fn (.func g) caps ∧ s.get 4 = .str h ∧ s.get 5 = AV.int IntKind.i64 u ∧ s.mem = M k) ?_ d.length _ ?_
  rotate_left
  · exact ⟨0, 0, d.length, zero16, by simp, by omega, by omega, by omega, by simpa using hL, by simp [zero16], by omega, by simp⟩
  rintro w s ⟨k, u, f, h, hw, hu, hk, hf, hrem, hh, hbt, g0, g1, g4, g5, hm⟩
  have hbl : (d.drop u).length = d.length - u := List.length_drop
  have hfin : L.drop k = [] → k = e := by
    intro h0
    have : L.length ≤ k := by simpa using h0
    rcases hend with h1 | ⟨h1, h2⟩
    · omega
    · omega
  obtain ⟨b, hb⟩ : ∃ b, d.drop u = b := ⟨_, rfl⟩
  rw [hb] at hrem hbl
  have w1 : W64 ((d.length : Int) - u) ((d.length - u : Nat) : Int) := .mkI (by omega) (by omega) (by omega)
  by_cases hlt : d.length - u < 20
  · have hlt' : ¬ (20 : Int) ≤ ((d.length - u : Nat) : Int) := by omega
    have h0 : scanL f b u h = [] := by
      cases f with
      | zero => rfl
      | succ f => rw [scanL, if_pos (by omega)]
    rw [h0] at hrem
    have hke := hfin hrem
    subst hke
    simp [g0, g5, hm, w1.eq, hlt']
  have hlt' : (20 : Int) ≤ ((d.length - u : Nat) : Int) := by omega
  obtain ⟨f, rfl⟩ : ∃ f', f = f' + 1 := ⟨f - 1, by omega⟩
  rw [scanL, if_neg (by omega)] at hrem
  obtain ⟨y0, x0⟩ := byt_get (b := b) (i := 0) (by omega)
  obtain ⟨y1, x1⟩ := byt_get (b := b) (i := 1) (by omega)
  obtain ⟨y2, x2⟩ := byt_get (b := b) (i := 2) (by omega)
  obtain ⟨y3, x3⟩ := byt_get (b := b) (i := 3) (by omega)
  have l0 := byt_lt b 0
  have l1 := byt_lt b 1
  have l2 := byt_lt b 2
  have l3 := byt_lt b 3
  have wsh : W64 ((byt b 0 : Int) * 256) ((byt b 0 * 256 : Nat) : Int) := .mkI (by omega) (by omega) (by omega)
  have hor := or_bytes l0 l1
  have u0 : IntKind.wrap .u8 (255 - (byt b 0 : Int)) = ((255 - byt b 0 : Nat) : Int) := by rw [wrapU8b (by omega) (by omega)]; omega
  have u1 : IntKind.wrap .u8 (255 - (byt b 1 : Int)) = ((255 - byt b 1 : Nat) : Int) := by rw [wrapU8b (by omega) (by omega)]; omega
  have wb0 : W64 (byt b 0 : Int) (byt b 0 : Int) := .mkI rfl (by omega) (by omega)
  have wb1 : W64 (byt b 1 : Int) (byt b 1 : Int) := .mkI rfl (by omega) (by omega)
  have z0 := x0.symm
  have z1 := x1.symm
  have z2 := x2.symm
  have z3 := x3.symm
  have hn : recN b = byt b 0 * 256 + byt b 1 := rfl
  have w5 : W64 (4 + (recN b : Int)) ((4 + recN b : Nat) : Int) := .mkI (by omega) (by omega) (by omega)
  have w6 : W64 (((4 + recN b : Nat) : Int) + 16) ((20 + recN b : Nat) : Int) := .mkI (by omega) (by omega) (by omega)
  rw [← hn] at hor
  have hul : (u : Int) ≤ d.length := by omega
  have hbad : badF b → k = e := fun hb => hfin (by rw [hrem, if_pos hb])
  by_cases c2 : byt b 2 = 255 - byt b 0
  rotate_left
  · have hke := hbad (.inl c2)
    subst hke
    have c2' : ¬ ((byt b 2 : Int) = ((255 - byt b 0 : Nat) : Int)) := by omega
    simp [g0, g4, g5, hm, w1.eq, hlt', hul, hb, y0, y1, y2, y3, z0, z1, z2, z3, wsh.eq, hor, u0, wb0.eq, wb1.eq, c2', IntKind.bits, -Int.natCast_add, -Int.natCast_mul]
  by_cases c3 : byt b 3 = 255 - byt b 1
  rotate_left
  · have hke := hbad (.inr (.inl c3))
    subst hke
    have c3' : ¬ ((byt b 3 : Int) = ((255 - byt b 1 : Nat) : Int)) := by omega
    simp [g0, g4, g5, hm, w1.eq, hlt', hul, hb, y0, y1, y2, y3, z0, z1, z2, z3, wsh.eq, hor, u0, u1, wb0.eq, wb1.eq, c2, c3', IntKind.bits, -Int.natCast_add, -Int.natCast_mul]
  by_cases c4 : 1000 < recN b
  · have hke := hbad (.inr (.inr (.inl c4)))
    subst hke
    have c4' : (1000 : Int) < recN b := by omega
    simp [g0, g4, g5, hm, w1.eq, hlt', hul, hb, y0, y1, y2, y3, z0, z1, z2, z3, wsh.eq, hor, u0, u1, wb0.eq, wb1.eq, c2, c3, c4', IntKind.bits, -Int.natCast_add, -Int.natCast_mul]
  have c4' : ¬ (1000 : Int) < recN b := by omega
  by_cases c5 : b.length < recN b + 20
  · have hke := hbad (.inr (.inr (.inr c5)))
    subst hke
    have c5' : (b.length : Int) < ((20 + recN b : Nat) : Int) := by omega
    simp [g0, g4, g5, hm, w1.eq, hlt', hul, hb, y0, y1, y2, y3, z0, z1, z2, z3, wsh.eq, hor, u0, u1, wb0.eq, wb1.eq, c2, c3, c4', w5.eq, w6.eq, c5', IntKind.bits, -Int.natCast_add, -Int.natCast_mul]
  have c5' : ¬ (b.length : Int) < ((20 + recN b : Nat) : Int) := by omega
  have hgood : ¬ badF b := by
    rintro (h | h | h | h)
    · exact h c2
    · exact h c3
    · exact c4 h
    · exact c5 h
  rw [if_neg hgood] at hrem
  have hrl : (recF b).length = recN b := by simp [recF]; omega
  have h43 := q43 h (recF b) (by omega) (by omega) []
  have hfl := frm_len h (recF b)
  have r1 : (4 : Int) ≤ ((4 + recN b : Nat) : Int) := by omega
  have r2 : ((4 + recN b : Nat) : Int) ≤ b.length := by omega
  have hrf : (b.take (4 + recN b)).drop 4 = recF b := rfl
  have r3 : ((frm h (recF b)).length : Int) ≤ b.length := by omega
  by_cases c6 : b.take (frm h (recF b)).length = frm h (recF b)
  rotate_left
  · rw [if_neg c6] at hrem
    have hke := hfin hrem
    subst hke
    simp [g0, g1, g4, g5, hm, w1.eq, hlt', hul, hb, y0, y1, y2, y3, z0, z1, z2, z3, wsh.eq, hor, u0, u1, wb0.eq, wb1.eq, c2, c3, c4', w5.eq, w6.eq, c5', r1, r2, hrf, h43, r3, c6, IntKind.bits, -Int.natCast_add, -Int.natCast_mul]
  rw [if_pos c6] at hrem
  have hkl : k < L.length := by
    refine Classical.byContradiction fun hn => ?_
    rw [List.drop_eq_nil_of_le (by omega)] at hrem
    simp at hrem
  have hke : k < e := by
    refine Classical.byContradiction fun hn => ?_
    have hek : e = k := by omega
    rcases hend with h1 | ⟨h1, h2⟩
    · omega
    · rw [hek] at h1 h2
      rw [hbt h1] at h2; simp at h2
  rw [List.drop_eq_getElem_cons hkl] at hrem
  simp only [List.cons.injEq] at hrem
  obtain ⟨hx, hrem⟩ := hrem
  have hc := hcall k L[k] hke (List.getElem?_eq_getElem hkl)
  rw [hx] at hc
  have w7 : W64 ((u : Int) + ((frm h (recF b)).length : Int)) ((u + (frm h (recF b)).length : Nat) : Int) := .mkI (by omega) (by omega) (by omega)
  rw [← hb, List.drop_drop, hb] at hrem
  have hnl := nxt_len h (recF b)
  generalize hR : recF b = R at *
  generalize frm h R = S at *
  generalize nxt h R = N at *
  cases hBk : B k with
  | true =>
    rw [hBk] at hc
    simp [g0, g1, g4, g5, hm, w1.eq, hlt', hul, hb, y0, y1, y2, y3, z0, z1, z2, z3, wsh.eq, hor, u0, u1, wb0.eq, wb1.eq, c2, c3, c4', w5.eq, w6.eq, c5', r1, r2, hrf, h43, r3, c6, w7.eq, hc, IntKind.bits, -Int.natCast_add, -Int.natCast_mul]
    exact ⟨d.length - (u + S.length), by omega, k + 1, u + S.length, rfl, by omega, by omega, f, by omega, N, hrem, hnl, fun _ => hBk, rfl, rfl, rfl⟩
  | false =>
    rw [hBk] at hc
    have hek : e = k + 1 := by
      refine Classical.byContradiction fun hn => ?_
      have := hB k (by omega)
      rw [hBk] at this; simp at this
    subst hek
    simp [g0, g1, g4, g5, hm, w1.eq, hlt', hul, hb, y0, y1, y2, y3, z0, z1, z2, z3, wsh.eq, hor, u0, u1, wb0.eq, wb1.eq, c2, c3, c4', w5.eq, w6.eq, c5', r1, r2, hrf, h43, r3, c6, w7.eq, hc, IntKind.bits, -Int.natCast_add, -Int.natCast_mul]
end Go.Vm.Ch55
