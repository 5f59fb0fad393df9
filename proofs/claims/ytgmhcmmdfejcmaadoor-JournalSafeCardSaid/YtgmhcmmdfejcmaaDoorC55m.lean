/- Chapter 55: what its functions compute. -/
import Derived.Test.YtgmhcmmdfejcmaaDoorC55l
namespace Go.Vm.Ch55
open _root_.Ch55 (T55 c26 c31)
set_option maxRecDepth 10000
set_option maxHeartbeats 8000000
theorem front_eq {b : List UInt8} (hl : 20 ≤ b.length) (hb : ¬ badF b) : b.take 4 = front (recF b).length := by
  have hn : recN b + 20 ≤ b.length := by
    unfold badF at hb; omega
  have hrl : (recF b).length = recN b := by simp [recF]; omega
  rw [hrl]
  match b, hl, hb with
  | b0 :: b1 :: b2 :: b3 :: r, hl, hb =>
    have e0 := b0.toNat_lt
    have e1 := b1.toNat_lt
    have h2 : b2.toNat = 255 - b0.toNat := Classical.byContradiction fun h => hb (.inl h)
    have h3 : b3.toNat = 255 - b1.toNat := Classical.byContradiction fun h => hb (.inr (.inl h))
    have hr : recN (b0 :: b1 :: b2 :: b3 :: r) = b0.toNat * 256 + b1.toNat := rfl
    have hd : (b0.toNat * 256 + b1.toNat) / 256 = b0.toNat := by omega
    have hm : (b0.toNat * 256 + b1.toNat) % 256 = b1.toNat := by omega
    rw [hr, front, hd, hm, ← h2, ← h3]
    simp
theorem take_frm {b : List UInt8} (h : List UInt8) (hl : 20 ≤ b.length) (hb : ¬ badF b) : b.take (frm h (recF b)).length = frm h (recF b) ↔ (b.drop (4 + recN b)).take 16 = nxt h (recF b) := by
  have hn : recN b + 20 ≤ b.length := by
    unfold badF at hb; omega
  have hrl : (recF b).length = recN b := by simp [recF]; omega
  have hf := front_eq hl hb
  have e : b.take (recN b + 20) = b.take 4 ++ recF b ++ (b.drop (4 + recN b)).take 16 := by
    have e1 : recN b + 20 = (4 + recN b) + 16 := by omega
    have e2 : b.take (4 + recN b) = b.take 4 ++ recF b := by
      unfold recF
      rw [List.take_add, List.drop_append_of_le_length (by simp; omega)]
      simp
    rw [e1, List.take_add, e2]
  rw [frm_len, hrl, e, hf, frm]
  constructor
  · intro h; exact List.append_cancel_left h
  · intro h; rw [h]
theorem q26 (d : List UInt8) (hd : d.length ≤ 100000) (m : Mem) : callL T55 26 [.str d] m = some (.tup [sv true (recs (scanA d)), AV.int IntKind.i64 (used d), .str (hed d)], m) := by
  have hs := scanA_small d
  obtain ⟨L, hL⟩ : ∃ L, L = scanA d := ⟨_, rfl⟩
  unfold used hed
  rw [← hL] at hs ⊢
  unfold scanA at hL
  apply callL_body (vf := c26) rfl rfl
  simp [c26]
  refine wp_loop (fun w s => ∃ (k u f : Nat) (h : List UInt8), w = d.length - u ∧ u ≤ d.length ∧ k ≤ L.length ∧ d.length - u ≤ f ∧ L.drop k = scanL f (d.drop u) u h ∧ h.length = 16 ∧ u = uAt L k ∧ h = hAt L k ∧ s.get 0 = .str d ∧ s.get 5 = vv (some 1) true AV.str (recs (L.take k)) ∧ s.get 6 = AV.int IntKind.i64 u ∧ s.get 7 = .str h ∧ s.mem = m) ?_ d.length _ ?_
  rotate_left
  · refine ⟨0, 0, d.length, zero16, by simp, by omega, by omega, by omega, by simpa using hL, by simp [zero16], ?_⟩
    simp [uAt, hAt, recs]
    exact ⟨rfl, rfl⟩
  rintro w s ⟨k, u, f, h, hw, hu, hk, hf, hrem, hh, hue, hhe, g0, g5, g6, g7, hm⟩
  have hbl : (d.drop u).length = d.length - u := List.length_drop
  have hfin : L.drop k = [] → k = L.length := by
    intro h0
    have : L.length ≤ k := by simpa using h0
    omega
  obtain ⟨b, hb⟩ : ∃ b, d.drop u = b := ⟨_, rfl⟩
  have hdg : ∀ i, d[u + i]? = b[i]? := fun i => by rw [← hb, List.getElem?_drop]
  rw [hb] at hrem hbl
  have w20 : W64 ((u : Int) + 20) ((u + 20 : Nat) : Int) := .mkI (by omega) (by omega) (by omega)
  by_cases hlt : d.length < u + 20
  · have h0 : scanL f b u h = [] := by
      cases f with
      | zero => rfl
      | succ f => rw [scanL, if_pos (by omega)]
    rw [h0] at hrem
    have hke := hfin hrem
    subst hke
    have hlt' : ¬ ((u + 20 : Nat) : Int) ≤ d.length := by omega
    rw [List.take_length] at g5
    simp [g0, g5, g6, g7, hm, w20.eq, hlt', hue.symm, hhe.symm, -Int.natCast_add]
  obtain ⟨f, rfl⟩ : ∃ f', f = f' + 1 := ⟨f - 1, by omega⟩
  rw [scanL, if_neg (by omega)] at hrem
  obtain ⟨y0, x0⟩ := byt_get (b := b) (i := 0) (by omega)
  obtain ⟨y1, x1⟩ := byt_get (b := b) (i := 1) (by omega)
  obtain ⟨y2, x2⟩ := byt_get (b := b) (i := 2) (by omega)
  obtain ⟨y3, x3⟩ := byt_get (b := b) (i := 3) (by omega)
  rw [← hdg, Nat.add_zero] at y0
  rw [← hdg] at y1 y2 y3
  have l0 := byt_lt b 0
  have l1 := byt_lt b 1
  have l2 := byt_lt b 2
  have l3 := byt_lt b 3
  have z0 := x0.symm
  have z1 := x1.symm
  have z2 := x2.symm
  have z3 := x3.symm
  have hn : recN b = byt b 0 * 256 + byt b 1 := rfl
  have wi1 : W64 ((u : Int) + 1) ((u + 1 : Nat) : Int) := .mkI rfl (by omega) (by omega)
  have wi2 : W64 ((u : Int) + 2) ((u + 2 : Nat) : Int) := .mkI rfl (by omega) (by omega)
  have wi3 : W64 ((u : Int) + 3) ((u + 3 : Nat) : Int) := .mkI rfl (by omega) (by omega)
  have wi4 : W64 ((u : Int) + 4) ((u + 4 : Nat) : Int) := .mkI rfl (by omega) (by omega)
  have wb0 : W64 (byt b 0 : Int) (byt b 0 : Int) := .mkI rfl (by omega) (by omega)
  have wb1 : W64 (byt b 1 : Int) (byt b 1 : Int) := .mkI rfl (by omega) (by omega)
  have wb2 : W64 (byt b 2 : Int) (byt b 2 : Int) := .mkI rfl (by omega) (by omega)
  have wc2 : W64 ((255 - byt b 0 : Nat) : Int) ((255 - byt b 0 : Nat) : Int) := .mkI rfl (by omega) (by omega)
  have wc3 : W64 ((255 - byt b 1 : Nat) : Int) ((255 - byt b 1 : Nat) : Int) := .mkI rfl (by omega) (by omega)
  have wb3 : W64 (byt b 3 : Int) (byt b 3 : Int) := .mkI rfl (by omega) (by omega)
  have wm : W64 (256 * (byt b 0 : Int)) ((byt b 0 * 256 : Nat) : Int) := .mkI (by omega) (by omega) (by omega)
  have wa : W64 (((byt b 0 * 256 : Nat) : Int) + (byt b 1 : Int)) (recN b : Int) := .mkI (by omega) (by omega) (by omega)
  have u0 : W64 (255 - (byt b 0 : Int)) ((255 - byt b 0 : Nat) : Int) := .mkI (by omega) (by omega) (by omega)
  have u1 : W64 (255 - (byt b 1 : Int)) ((255 - byt b 1 : Nat) : Int) := .mkI (by omega) (by omega) (by omega)
  have w5 : W64 (((u + 4 : Nat) : Int) + (recN b : Int)) ((u + 4 + recN b : Nat) : Int) := .mkI (by omega) (by omega) (by omega)
  have w6 : W64 (((u + 20 : Nat) : Int) + (recN b : Int)) ((u + 20 + recN b : Nat) : Int) := .mkI (by omega) (by omega) (by omega)
  have hlt' : ((u + 20 : Nat) : Int) ≤ d.length := by omega
  have hbad : badF b → k = L.length := fun hb => hfin (by rw [hrem, if_pos hb])
  by_cases c2 : byt b 2 = 255 - byt b 0
  rotate_left
  · have hke := hbad (.inl c2)
    subst hke
    rw [List.take_length] at g5
    have c2' : ¬ ((byt b 2 : Int) = ((255 - byt b 0 : Nat) : Int)) := by omega
    simp [g0, g5, g6, g7, hm, w20.eq, hlt', y0, y1, y2, z0, z1, z2, wi1.eq, wi2.eq, wb0.eq, wb1.eq, wb2.eq, wm.eq, wa.eq, u0.eq, c2', hue.symm, hhe.symm, -Int.natCast_add, -Int.natCast_mul]
  by_cases c3 : byt b 3 = 255 - byt b 1
  rotate_left
  · have hke := hbad (.inr (.inl c3))
    subst hke
    rw [List.take_length] at g5
    have c2' : ((byt b 2 : Int) = ((255 - byt b 0 : Nat) : Int)) := by omega
    have c3' : ¬ ((byt b 3 : Int) = ((255 - byt b 1 : Nat) : Int)) := by omega
    simp [g0, g5, g6, g7, hm, w20.eq, hlt', y0, y1, y2, y3, z0, z1, z2, z3, wi1.eq, wi2.eq, wi3.eq, wb0.eq, wb1.eq, wb3.eq, wm.eq, wa.eq, u0.eq, u1.eq, c2', c3', hue.symm, hhe.symm, -Int.natCast_add, -Int.natCast_mul]
  have c2' : ((byt b 2 : Int) = ((255 - byt b 0 : Nat) : Int)) := by omega
  have c3' : ((byt b 3 : Int) = ((255 - byt b 1 : Nat) : Int)) := by omega
  by_cases c4 : 1000 < recN b
  · have hke := hbad (.inr (.inr (.inl c4)))
    subst hke
    rw [List.take_length] at g5
    have c4' : (1000 : Int) < recN b := by omega
    simp [g0, g5, g6, g7, hm, w20.eq, hlt', y0, y1, y2, y3, z0, z1, z2, z3, wi1.eq, wi2.eq, wi3.eq, wb0.eq, wb1.eq, wm.eq, wa.eq, u0.eq, u1.eq, c2', c3', c4', hue.symm, hhe.symm, -Int.natCast_add, -Int.natCast_mul]
  have c4' : ¬ (1000 : Int) < recN b := by omega
  by_cases c5 : b.length < recN b + 20
  · have hke := hbad (.inr (.inr (.inr c5)))
    subst hke
    rw [List.take_length] at g5
    have c5' : (d.length : Int) < ((u + 20 + recN b : Nat) : Int) := by omega
    simp [g0, g5, g6, g7, hm, w20.eq, hlt', y0, y1, y2, y3, z0, z1, z2, z3, wi1.eq, wi2.eq, wi3.eq, wb0.eq, wb1.eq, wm.eq, wa.eq, u0.eq, u1.eq, c2', c3', c4', w6.eq, c5', hue.symm, hhe.symm, -Int.natCast_add, -Int.natCast_mul]
  have c5' : ¬ (d.length : Int) < ((u + 20 + recN b : Nat) : Int) := by omega
  have hgood : ¬ badF b := by
    rintro (h | h | h | h)
    · exact h c2
    · exact h c3
    · exact c4 h
    · exact c5 h
  rw [if_neg hgood] at hrem
  have hrl : (recF b).length = recN b := by simp [recF]; omega
  have h24 := q24 h (recF b) (by omega) []
  have r1 : ((u + 4 : Nat) : Int) ≤ ((u + 4 + recN b : Nat) : Int) := by omega
  have r2 : ((u + 4 + recN b : Nat) : Int) ≤ d.length := by omega
  have r3 : ((u + 4 + recN b : Nat) : Int) ≤ ((u + 20 + recN b : Nat) : Int) := by omega
  have r4 : ((u + 20 + recN b : Nat) : Int) ≤ d.length := by omega
  have hrf : (d.take (u + 4 + recN b)).drop (u + 4) = recF b := by
    rw [← List.drop_drop, Nat.add_assoc, List.drop_take, hb, Nat.add_sub_cancel_left]; rfl
  have hrg : (d.take (u + 20 + recN b)).drop (u + 4 + recN b) = (b.drop (4 + recN b)).take 16 := by
    rw [List.drop_take, ← hb, List.drop_drop]
    congr 1
    · omega
    · congr 1; omega
  by_cases c6 : (b.drop (4 + recN b)).take 16 = nxt h (recF b)
  rotate_left
  · rw [if_neg fun e => c6 ((take_frm h (by omega) hgood).1 e)] at hrem
    have hke := hfin hrem
    subst hke
    rw [List.take_length] at g5
    simp [g0, g5, g6, g7, hm, w20.eq, hlt', y0, y1, y2, y3, z0, z1, z2, z3, wi1.eq, wi2.eq, wi3.eq, wi4.eq, wb0.eq, wb1.eq, wm.eq, wa.eq, u0.eq, u1.eq, c2', c3', c4', w6.eq, c5', w5.eq, r1, r2, r3, r4, hrf, hrg, h24, c6, hue.symm, hhe.symm, -Int.natCast_add, -Int.natCast_mul]
  rw [if_pos ((take_frm h (by omega) hgood).2 c6)] at hrem
  have hkl : k < L.length := by
    refine Classical.byContradiction fun hn => ?_
    rw [List.drop_eq_nil_of_le (by omega)] at hrem
    simp at hrem
  rw [List.drop_eq_getElem_cons hkl] at hrem
  simp only [List.cons.injEq] at hrem
  obtain ⟨hx, hrem⟩ := hrem
  rw [← hb, List.drop_drop, hb] at hrem
  have hfl := frm_len h (recF b)
  have hfl2 : u + (frm h (recF b)).length = u + 20 + recN b := by omega
  rw [hfl2] at hx hrem
  have hnl := nxt_len h (recF b)
  have hat := at_take (List.getElem?_eq_getElem hkl)
  have hrt := recs_take (List.getElem?_eq_getElem hkl)
  rw [hx] at hat hrt
  have hrln : (recs (L.take k)).length ≤ 100000 := by simp [recs]; omega
  generalize hR : recF b = R at *
  generalize nxt h R = N at *
  simp [g0, g5, g6, g7, hm, w20.eq, hlt', y0, y1, y2, y3, z0, z1, z2, z3, wi1.eq, wi2.eq, wi3.eq, wi4.eq, wb0.eq, wb1.eq, wm.eq, wa.eq, u0.eq, u1.eq, c2', c3', c4', w6.eq, c5', w5.eq, r1, r2, r3, r4, hrf, hrg, h24, c6, wc2.eq, wc3.eq, -Int.natCast_add, -Int.natCast_mul]
  exact ⟨by omega, d.length - (u + 20 + recN b), by omega, k + 1, u + 20 + recN b, rfl, by omega, by omega, f, by omega, N, hrem, hnl, hat.1.symm, hat.2.symm, by rw [hrt]; simp [vv], rfl, rfl⟩
end Go.Vm.Ch55
