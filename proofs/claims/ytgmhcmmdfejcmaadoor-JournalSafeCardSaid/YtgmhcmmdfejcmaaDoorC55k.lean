/- Chapter 55: what its functions compute. -/
import Derived.Test.YtgmhcmmdfejcmaaDoorC55j
namespace Go.Vm.Ch55
open _root_.Ch55 (T55 c3)
set_option maxRecDepth 10000
set_option maxHeartbeats 16000000
theorem callL_ex {T : FuncId → Option VF} {f : FuncId} {vf : VF} {args : List AV} {m : Mem} {v : AV} (hT : T f = some vf) (hl : args.length = vf.nparams)
    (h : wp T vf.body (St.init args m) (retK vf.results fun u _ => u = v)) : ∃ m', callL T f args m = some (v, m') := by
  obtain ⟨n, e, s', h1, h2⟩ := h
  refine ⟨s'.mem, callL_body hT hl ⟨n, e, s', h1, ?_⟩⟩
  cases e with
  | normal => obtain ⟨u, hu, he⟩ := h2; exact ⟨u, hu, he, rfl⟩
  | ret => obtain ⟨u, hu, he⟩ := h2; exact ⟨u, hu, he, rfl⟩
  | exit i => exact h2
theorem FileAt.set2 {m : Mem} {k : Nat} {oi : Option Nat} {B : List UInt8} {d : Nat} (h : FileAt m k oi B d) {k2 : Nat} (hne : k ≠ k2) (h2 : oi ≠ some k2) (v : Option LObj) : FileAt (m.set k2 v) k oi B d := by
  obtain ⟨⟨cv, hk, hc⟩, h3, h4⟩ := h
  exact ⟨⟨cv, by rw [List.getElem?_set_ne hne.symm]; exact hk, hc.other fun i e => List.getElem?_set_ne fun e2 => h2 (by rw [e, e2])⟩, h3, h4⟩
/-- The program's file and the reference's, side by side. -/
structure Two (m : Mem) (k k2 : Nat) (oi : Option Nat) (B : List UInt8) (d : Nat) : Prop where
  f : FileAt m k oi B d
  r : m[k2]? = some (rfo B d)
  ne : k ≠ k2
  oi : oi ≠ some k2
theorem Two.step {m m' : Mem} {k k2 : Nat} {oi oi' : Option Nat} {B B' : List UInt8} {d d' : Nat} (h : Two m k k2 oi B d) (hf : FileAt m' k oi' B' d') (hk : Keeps m m' k oi oi') :
    m'[k2]? = some (rfo B d) ∧ Two (m'.set k2 (rfo B' d')) k k2 oi' B' d' := by
  have hlt := lt_of_get h.r
  have h1 : oi' ≠ some k2 := by
    rcases hk.new with e | ⟨i, e, hi⟩
    · rw [e]; exact h.oi
    · rw [e]; intro e2; injection e2; omega
  refine ⟨by rw [hk.same k2 hlt h.ne.symm h.oi]; exact h.r, hf.set2 h.ne h1 _, List.getElem?_set_self (by have := hk.len; omega), h.ne, h1⟩
theorem law3 (P : List Mov) (nn : Bool) (hl : inL P.length) (hP : ∀ p ∈ P, inI p.at') : ∃ m, callL T55 3 [mv nn P] [] = some (.bool true, m) := by
  obtain ⟨m0, hw⟩ := awake
  have hsm := q11 P nn 60 hl []
  by_cases hs : P.length ≤ (60 : Int) ∧ sumT P ≤ 5000
  rotate_left
  · rw [decide_eq_false hs] at hsm
    refine callL_ex (vf := c3) rfl rfl ?_
    simp [c3, hw, hsm]
  rw [decide_eq_true hs] at hsm
  obtain ⟨h12, hF⟩ := q12 m0
  generalize hm1 : m0 ++ [some (LObj.cells false [.vec none false [], AV.int IntKind.i64 0])] = m1 at h12 hF
  have hl1 : m1.length = m0.length + 1 := by rw [← hm1]; simp
  refine callL_ex (vf := c3) rfl rfl ?_
  simp [c3, hw, hsm, h12]
  refine wp_loop (fun wx s => ∃ (i : Nat) (os : List LObj) (oi : Option Nat) (B : List UInt8) (d : Nat), wx = P.length - i ∧ i ≤ P.length ∧ s.get 0 = mv nn P ∧ s.get 3 = .ptr (.mem m0.length) 0 ∧ s.get 4 = .ptr (.mem m1.length) 0 ∧ s.get 5 = AV.int IntKind.i64 i ∧ s.loc 6 = os ∧ Two s.mem m0.length m1.length oi B d ∧ B.length ≤ sumT (P.take i)) ?_ P.length _ ?_
  rotate_left
  · refine ⟨0, [], none, [], 0, by simp, by simp, by simp, by simp, by simp, by simp, by simp, ?_, by simp⟩
    have : Two (m1 ++ [rfo [] 0]) m0.length m1.length none [] 0 := by
      obtain ⟨⟨cv, hk, hc⟩, h3, h4⟩ := hF
      refine ⟨⟨⟨cv, ?_, hc.other (by simp)⟩, h3, h4⟩, by simp, by omega, by simp⟩
      rw [List.getElem?_append_left (by omega)]; exact hk
    simpa [rfo] using this
  rintro wx s ⟨i, os, oi, B, d, hn, hi, e0, e3, e4, e5, l6, hT, hB⟩
  by_cases hlt : i < P.length
  · have w1 : W64 ((i : Int) + 1) ((i + 1 : Nat) : Int) := .mkI rfl (by omega) (by omega)
    have hss := sumT_succ hlt
    have hB2 := sumT_le (P := P) (i := i + 1)
    have hPi := hP _ (List.getElem_mem hlt)
    have hnx : ∀ (m' : Mem) (oi' : Option Nat) (B' : List UInt8) (d' : Nat), Two m' m0.length m1.length oi' B' d' → B'.length ≤ sumT (P.take (i + 1)) →
        ∃ n', n' < wx ∧ ∃ i', n' = P.length - i' ∧ i' ≤ P.length ∧ ((i + 1 : Nat) : Int) = ((i' : Nat) : Int) ∧ ∃ x x1, (∃ x2, Two m' m0.length m1.length x x1 x2) ∧ x1.length ≤ sumT (P.take i') := fun m' oi' B' d' h1 h2 =>
      ⟨P.length - (i + 1), by omega, i + 1, rfl, by omega, rfl, oi', B', ⟨d', h1⟩, h2⟩
    have hB3 : B.length ≤ 5000 := by omega
    obtain ⟨m, hm⟩ : ∃ m, s.mem = m := ⟨_, rfl⟩
    rw [hm] at hT
    generalize m0.length = k at *
    generalize m1.length = k2 at *
    have hrr := hT.r
    have hks := setk (lt_of_get hrr)
    by_cases h0 : P[i].kind = 0
    · obtain ⟨m', oi', hc, hf, hk⟩ := q13 m k oi B d hT.f P[i].text (by omega)
      obtain ⟨hr', hT'⟩ := hT.step (d' := d) hf hk
      have h20 := q20 _ _ _ _ _ hT'.f
      have hr2 := hT'.r
      have hlen : B.length + P[i].text.length ≤ 9223372036854775807 := by omega
      simp [e0, e3, e4, e5, l6, hm, hlt, gi_nat hlt, h0, w1.eq, hc, hr', h20, objCells, hlen, hr2, -Int.natCast_add]
      exact hnx _ _ _ _ hT' (by simp; omega)
    by_cases h1 : P[i].kind = 1
    · obtain ⟨m', hc, hf, hk⟩ := q14 m k oi B d hT.f
      obtain ⟨hr', hT'⟩ := hT.step (d' := B.length) hf hk
      have h20 := q20 _ _ _ _ _ hT'.f
      have hr2 := hT'.r
      have h15 := q15 m' k2 B d hr'
      simp [e0, e3, e4, e5, l6, hm, hlt, gi_nat hlt, h1, w1.eq, hc, h15, h20, objCells, hr2, -Int.natCast_add]
      exact hnx _ _ _ _ hT' (by omega)
    by_cases h2 : P[i].kind = 2
    · obtain ⟨m', hc, hf, hk⟩ := q16 m k oi B d hT.f (by omega) P[i].kept P[i].at' hPi P[i].flip
      obtain ⟨hr', hT'⟩ := hT.step hf hk
      have h20 := q20 _ _ _ _ _ hT'.f
      have hr2 := hT'.r
      have h17 := q17 m' k2 B d hr' hT.f.le (by omega) P[i].kept P[i].at' hPi P[i].flip
      have hcl := crs_len B d hT.f.le P[i].kept P[i].at' P[i].flip
      have hll := lft_le B.length d P[i].kept
      have hle := hT.f.le
      generalize crs B d P[i].kept P[i].at' P[i].flip = C at *
      simp [e0, e3, e4, e5, l6, hm, hlt, gi_nat hlt, h2, w1.eq, hc, h17, h20, objCells, hr2, -Int.natCast_add]
      exact hnx _ _ _ _ hT' (by omega)
    by_cases h3 : P[i].kind = 3
    · have h18 := q18 m k oi B d hT.f (by omega) P[i].kept
      by_cases hz : 0 ≤ P[i].kept ∧ P[i].kept ≤ B.length
      · rw [if_pos hz] at h18
        obtain ⟨m', hc, hf, hk⟩ := h18
        obtain ⟨hr', hT'⟩ := hT.step hf hk
        have h20 := q20 _ _ _ _ _ hT'.f
        have hr2 := hT'.r
        have h19 := q19 m' k2 B d hr' P[i].kept
        rw [if_pos hz] at h19
        generalize hC : B.take P[i].kept.toNat = C at *
        have hCl : C.length ≤ B.length := by rw [← hC]; simp; omega
        simp [e0, e3, e4, e5, l6, hm, hlt, gi_nat hlt, h3, w1.eq, hc, h19, h20, objCells, hr2, -Int.natCast_add]
        exact hnx _ _ _ _ hT' (by omega)
      · rw [if_neg hz] at h18
        have h20 := q20 _ _ _ _ _ hT.f
        have h19 := q19 m k2 B d hrr P[i].kept
        rw [if_neg hz] at h19
        simp [e0, e3, e4, e5, l6, hm, hlt, gi_nat hlt, h3, w1.eq, h18, h19, h20, objCells, hrr, -Int.natCast_add]
        exact hnx _ _ _ _ hT (by omega)
    · have h20 := q20 _ _ _ _ _ hT.f
      simp [e0, e3, e4, e5, l6, hm, hlt, gi_nat hlt, h0, h1, h2, h3, w1.eq, h20, objCells, hrr, -Int.natCast_add]
      exact hnx _ _ _ _ hT (by omega)
  · simp [e0, e5, hlt]
end Go.Vm.Ch55
