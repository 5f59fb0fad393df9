/- Chapter 10: what its functions compute. -/
import Derived.Test.YtmncbcgcahfdcaaGreatDoorC10zw
import Derived.Test.YtmncbcgcahfdcaaGreatDoorVI
namespace Go.Vm.Ch10
open _root_.Ch10 (T10 c6)
set_option maxRecDepth 10000
set_option maxHeartbeats 16000000
/-! ### the beginning of a source -/
theorem sp10_split : ∀ (a r : List UInt8), sp10 (a ++ 10 :: r) = sp10 a ++ sp10 r
  | [], r => by simp [sp10]
  | b :: a, r => by
    have ih := sp10_split a r
    by_cases hb : b = 10
    · subst hb
      simp only [List.cons_append, sp10, if_true, ih]
    · simp only [List.cons_append, sp10, if_neg hb, ih]
      cases h : sp10 a with
      | nil => exact absurd h (sp10_ne a)
      | cons x y => simp
theorem lines_begin (a r : List UInt8) : linesL (a ++ [10]) = sp10 a ∧ ∃ X, linesL (a ++ 10 :: r) = sp10 a ++ X := by
  have h1 : sp10 (a ++ [10]) = sp10 a ++ [[]] := by rw [sp10_split]; rfl
  have h2 := sp10_split a r
  refine ⟨?_, ?_⟩
  · unfold linesL; rw [h1]; simp
  · unfold linesL
    rw [h2]
    split
    · exact ⟨(sp10 r).dropLast, by rw [List.dropLast_append_of_ne_nil (sp10_ne r)]⟩
    · exact ⟨sp10 r, rfl⟩
theorem parF_app : ∀ (A B : List (List UInt8)) (i : Nat) (acc : List (Nat × L0)), parF (A ++ B) i acc = match parF A i acc with
    | .fault e l c => .fault e l c
    | .ok acc' => parF B (i + A.length) acc'
  | [], B, i, acc => by simp [parF]
  | row :: A, B, i, acc => by
    simp only [List.cons_append, parF]
    have e : ∀ acc', parF (A ++ B) (i + 1) acc' = _ := fun acc' => parF_app A B (i + 1) acc'
    have hi : i + 1 + A.length = i + (row :: A).length := by simp; omega
    split
    · rfl
    · split
      · rw [e, hi]
      · split
        · rfl
        · rw [e, hi]
theorem parF_pre : ∀ (A : List (List UInt8)) (i : Nat) (acc acc' : List (Nat × L0)), parF A i acc = .ok acc' → ∃ Y, acc' = acc ++ Y
  | [], i, acc, acc', h => by simp only [parF, Par.ok.injEq] at h; exact ⟨[], by rw [h]; simp⟩
  | row :: A, i, acc, acc', h => by
    simp only [parF] at h
    split at h
    · cases h
    · split at h
      · exact parF_pre A _ _ _ h
      · split at h
        · cases h
        · obtain ⟨Y, hY⟩ := parF_pre A _ _ _ h
          exact ⟨_, by rw [hY, List.append_assoc]⟩
theorem par_begin {s : List UInt8} {k : Nat} (hs : s.length ≤ 65536) (hk : s[k]? = some 10) : match parR s with
    | .ok acc => ∃ acc2 Y, parR (s.take (k + 1)) = .ok acc2 ∧ acc = acc2 ++ Y
    | .fault e l c => (∃ acc2, parR (s.take (k + 1)) = .ok acc2) ∨ parR (s.take (k + 1)) = .fault e l c := by
  obtain ⟨hlt, hget⟩ := List.getElem?_eq_some_iff.1 hk
  have e1 : s.take (k + 1) = s.take k ++ [10] := by rw [List.take_succ_eq_append_getElem hlt, hget]
  have e2 : s = s.take k ++ 10 :: s.drop (k + 1) := by
    conv => lhs; rw [← List.take_append_drop k s, List.drop_eq_getElem_cons hlt, hget]
  obtain ⟨h1, X, h2⟩ := lines_begin (s.take k) (s.drop (k + 1))
  have hl : ¬ 65536 < s.length := by omega
  have hl2 : ¬ 65536 < (s.take (k + 1)).length := by simp; omega
  have p1 : parR s = parF (sp10 (s.take k) ++ X) 0 [] := by
    unfold parR; rw [if_neg hl]
    conv => lhs; rw [e2]
    rw [h2]
  have p2 : parR (s.take (k + 1)) = parF (sp10 (s.take k)) 0 [] := by
    unfold parR; rw [if_neg hl2, e1, h1]
  rw [p1, p2, parF_app]
  cases hp : parF (sp10 (s.take k)) 0 [] with
  | fault e l c => simp
  | ok acc2 =>
    simp only
    cases hq : parF X (0 + (sp10 (s.take k)).length) acc2 with
    | fault e l c => exact .inl ⟨_, rfl⟩
    | ok acc =>
      obtain ⟨Y, hY⟩ := parF_pre _ _ _ _ hq
      exact ⟨acc2, Y, rfl, hY⟩
theorem parF_e : ∀ (A : List (List UInt8)) (i : Nat) (acc : List (Nat × L0)) (e l c : Int), parF A i acc = .fault e l c → e ≠ 0
  | [], i, acc, e, l, c, h => by simp [parF] at h
  | row :: A, i, acc, e, l, c, h => by
    simp only [parF] at h
    split at h
    · rename_i hs
      simp only [Par.fault.injEq] at h
      rw [← h.1]; exact scan_e hs
    · split at h
      · exact parF_e A _ _ _ _ _ h
      · split at h
        · simp only [Par.fault.injEq] at h; omega
        · exact parF_e A _ _ _ _ _ h
theorem parR_e {s : List UInt8} {e l c : Int} (h : parR s = .fault e l c) : e ≠ 0 := by
  unfold parR at h
  split at h
  · simp only [Par.fault.injEq] at h; omega
  · exact parF_e _ _ _ _ _ _ h
/-! ### one line as a tree, rows as slices -/
theorem TV_one (nt : Bool) (T : List Tk) (hnt : nt = false → T = []) (h : Bool) (a : Int) (m : Mem) : TV m 0 0 [.mk T h [] a] (.vec none true [.agg [vv none nt tv T, .bool h, .vec none false [], AV.int IntKind.i64 a]]) := by
  have hg : gi [Ln.mk T h [] a] (0 : Int) = Ln.mk T h [] a := rfl
  refine .mk _ _ (fun _ => nt) (fun _ => .vec none false []) (.inl ⟨true, ?_, by simp⟩) ?_ ?_
  · simp [vv, List.range_succ, hg, Ln.toks, Ln.head, Ln.at_]
  · intro j hj
    have : j = 0 := by simpa using hj
    subst this
    exact hnt
  · intro j hj
    have : j = 0 := by simpa using hj
    subst this
    rw [show gi [Ln.mk T h [] a] ((0 : Nat) : Int) = Ln.mk T h [] a from rfl]
    exact .nil
theorem W2.el {m : Mem} {hi : Nat} {vo vd : AV} {es : List (List AV)} {ds : List Nat} (h : W2 m hi vo vd es ds) (h0 : 0 < hi) : ElSl 4 vo.view m es ∧ ElSl 1 vd.view m (ds.map fun d => [AV.int IntKind.i64 (d : Nat)]) := by
  have hfl : ∀ l : List Nat, (l.map fun d => [AV.int IntKind.i64 (d : Nat)]).flatten = l.map fun d => AV.int IntKind.i64 (d : Nat) := by
    intro l
    induction l with
    | nil => rfl
    | cons x r ih => simp [ih]
  rcases h with ⟨rfl, rfl, rfl, rfl⟩ | ⟨i, j, -, k1, k2, h3, h4', rfl, rfl, h5, h6, h7, -, h9⟩
  · constructor
    · exact SlAt.el (lo := 0) (hi := 0) (.inl ⟨false, rfl, fun _ => rfl⟩) (by simp)
    · exact SlAt.el (lo := 0) (hi := 0) (.inl ⟨false, rfl, fun _ => rfl⟩) (by simp)
  · have hl : (ds.map fun d => [AV.int IntKind.i64 (d : Nat)]).length = es.length := by simp [h5]
    constructor
    · exact SlAt.el (lo := 0) (hi := m.length + i + 1) (.inr ⟨i, [], rfl, by omega, by omega, by rw [h6]; simp⟩) h9
    · have := SlAt.el (z := 1) (lo := 0) (hi := m.length + j + 1) (v := .row (.mem j) 0 (ds.map fun d => [AV.int IntKind.i64 (d : Nat)]).length) (m := m) (.inr ⟨j, [], rfl, by omega, by omega, by rw [h7, hfl]; simp⟩) (by simp)
      rw [hl] at this
      exact this
theorem W2.mono {m m' : Mem} {hi : Nat} {vo vd : AV} {es : List (List AV)} {ds : List Nat} (h : W2 m hi vo vd es ds) (hm : ∀ i, i < m.length → m'[i]? = m[i]?) (hl : m.length ≤ m'.length) : W2 m' hi vo vd es ds := by
  rcases h with h | ⟨i, j, hij, k1, k2, h3, h4, rfl, rfl, h5, h6, h7, h8⟩
  · exact .inl h
  · exact .inr ⟨i, j, hij, k1, k2, by omega, by omega, rfl, rfl, h5, by rw [hm i h3]; exact h6, by rw [hm j h4]; exact h7, h8⟩
theorem pre_toks : ∀ N b (K : List Ln), szL K < N → ∀ x ∈ pre b K, x.2.toks.length + 1 ≤ szL K := by
  intro N
  induction N with
  | zero => intro b K h; omega
  | succ N ih =>
    intro b K
    induction K with
    | nil => intro _ x hx; simp [pre] at hx
    | cons y r ihr =>
      intro h x hx
      obtain ⟨T, hd, K', a⟩ := y
      simp only [szL, szN] at h
      simp only [pre, preN, List.cons_append, List.mem_cons, List.mem_append] at hx
      simp only [szL, szN]
      rcases hx with rfl | hx | hx
      · simp only; omega
      · have := ih (b + 1) K' (by omega) x hx; omega
      · have := ihr (by omega) x hx; omega
theorem eqL_one (T : List Tk) (h : Bool) (a : Int) : eqL true [.mk T h [] a] [.mk T h [] a] = true := eqL_refl _ _
theorem q6 (s : List UInt8) (at_ : Int) (hi : inI at_) : ∃ m', callL T10 6 [.str s, AV.int IntKind.i64 at_] [] = some (.bool true, m') := by
  obtain ⟨mA, hmA, hA⟩ := Aw.awake0
  apply callL_ex3 (vf := c6) rfl rfl
  by_cases a1 : 1500 < s.length
  · have b1 : (1500 : Int) < s.length := by omega
    simp [c6, hA, b1]
  have b1 : ¬ (1500 : Int) < s.length := by omega
  by_cases a2 : at_ < 0
  · simp [c6, hA, b1, a2]
  by_cases a3 : (s.length : Int) ≤ at_
  · simp [c6, hA, b1, a2, a3]
  obtain ⟨k, rfl⟩ : ∃ k : Nat, at_ = k := ⟨at_.toNat, by omega⟩
  have hk : k < s.length := by omega
  by_cases a4 : s[k] = 10
  rotate_left
  · have a4' : ¬ (s[k].toNat : Int) = 10 := by
      intro h; apply a4
      have : s[k].toNat = (10 : UInt8).toNat := by
        have h2 : (10 : UInt8).toNat = 10 := rfl
        omega
      exact UInt8.toNat_inj.1 this
    simp [c6, hA, b1, a3, hk, a4']
  have hk? : s[k]? = some 10 := by rw [List.getElem?_eq_getElem hk, a4]
  have w1 : W64 ((k : Int) + 1) ((k + 1 : Nat) : Int) := .mkI rfl (by omega) (by omega)
  have hk1 : k + 1 ≤ s.length := hk
  have hll := linesL_len s
  obtain ⟨v1, m1, h10, -, hml1, hmf1, hp1⟩ := q10 s mA
  obtain ⟨v2, m2, h10b, -, hml2, hmf2, hp2⟩ := q10 (s.take (k + 1)) m1
  have hpb := par_begin (by omega) hk?
  have a4' : (s[k].toNat : Int) = 10 := by rw [a4]; rfl
  cases hr : parR s with
  | fault e l c =>
    rw [hr] at hp1 hpb
    subst hp1
    have he := parR_e hr
    rcases hpb with ⟨acc2, h2⟩ | h2
    · rw [h2] at hp2
      obtain ⟨kv2, rfl, hkv2, -⟩ := hp2
      obtain ⟨⟨e2, he2, -⟩⟩ := hkv2.at
      simp [c6, hA, b1, a3, hk, hk1, a4', h10, w1.eq, h10b, he, he2.tk, he2.view, objCells, -Int.natCast_add]
    · rw [h2] at hp2
      subst hp2
      simp [c6, hA, b1, a3, hk, hk1, a4', h10, w1.eq, h10b, he, objCells, -Int.natCast_add]
  | ok acc =>
  rw [hr] at hp1 hpb
  obtain ⟨acc2, Y, hr2, hY⟩ := hpb
  rw [hr2] at hp2
  obtain ⟨kv1, rfl, hkv1, -⟩ := hp1
  obtain ⟨kv2, rfl, hkv2, -⟩ := hp2
  obtain ⟨c1, hc1, hc2, hc3, -⟩ := parR_ok hr
  obtain ⟨c2, hd1, hd2, hd3, -⟩ := parR_ok hr2
  rw [hc2] at hkv1
  rw [hd2] at hkv2
  have hsl : (s.take (k + 1)).length ≤ 1500 := by simp; omega
  have hK1 : TV m2 mA.length m2.length (Tc c1) kv1 := hkv1.mono (Nat.le_refl _) hml2 fun i _ h => hmf2 i h
  obtain ⟨u3, m3, h21, vo1, vd1, fs1, rfl, hW1, hE1, hf1, hl1⟩ := q21 (szL (Tc c1) + 1) (Tc c1) kv1 m2 mA.length m2.length 0 (.vec none false []) (.vec none false []) [] [] (Nat.lt_succ_self _) (by omega) (by simp; omega) hK1 (Nat.le_refl _) (.inl ⟨rfl, rfl, rfl, rfl⟩)
  have hK2 : TV m3 m1.length m3.length (Tc c2) kv2 := hkv2.mono (Nat.le_refl _) hl1 fun i _ h => hf1 i h
  obtain ⟨u4, m4, h21b, vo2, vd2, fs2, rfl, hW2, hE2, hf2, hl2⟩ := q21 (szL (Tc c2) + 1) (Tc c2) kv2 m3 m1.length m3.length 0 (.vec none false []) (.vec none false []) [] [] (Nat.lt_succ_self _) (by omega) (by simp; omega) hK2 (Nat.le_refl _) (.inl ⟨rfl, rfl, rfl, rfl⟩)
  have hW1' := hW1.mono hf2 hl2
  rw [List.nil_append] at hW1' hW2
  rw [show (((0 : Nat) : Int)) = 0 from rfl] at h21 h21b
  obtain ⟨el1, ed1⟩ := hW1'.el (by omega)
  obtain ⟨el2, ed2⟩ := hW2.el (by omega)
  rw [← hc1] at hE1
  rw [← hd1] at hE2
  have hn1 := hE1.len
  have hn2 := hE2.len
  have hle : acc2.length ≤ acc.length := by rw [hY]; simp
  have hll2 : ¬ fs1.length < fs2.length := by omega
  obtain ⟨⟨e1, he1, -⟩⟩ := hkv1.at
  obtain ⟨⟨e2, he2, -⟩⟩ := hkv2.at
  have ho1 : vo1.pass = vo1 := by rcases hW1' with ⟨-, -, rfl, -⟩ | ⟨i, j, -, -, -, -, -, rfl, -⟩ <;> rfl
  have ho2 : vo2.pass = vo2 := by rcases hW2 with ⟨-, -, rfl, -⟩ | ⟨i, j, -, -, -, -, -, rfl, -⟩ <;> rfl
  simp [c6, hA, b1, a3, hk, hk1, a4', h10, w1.eq, h10b, he1.tk, he1.view, he1.nl, he2.tk, he2.view, he2.nl, objCells, h21, h21b, el1.tk, el1.view, el1.len, el2.tk, el2.view, el2.len, ed1.tk, ed2.tk, hll2, -Int.natCast_add]
  refine wp_loop (fun n s => ∃ i : Nat, n = fs2.length - i ∧ i ≤ fs2.length ∧ s.get 9 = vo1.view ∧ s.get 11 = vo2.view ∧ s.get 13 = AV.int IntKind.i64 i ∧ s.mem = m4) ?_ fs2.length _ ?_
  rotate_left
  · exact ⟨0, by simp⟩
  rintro n s ⟨i, hn, hi', e9, e11, e13, em⟩
  by_cases hlt : i < fs2.length
  rotate_left
  · have hl' : ¬ (i : Int) < fs2.length := by omega
    simp [e9, e11, e13, el2.view, el2.len, hl']
  have hl' : (i : Int) < fs2.length := by omega
  have hps := pre_szL 0 (Tc c2)
  rw [← hd1] at hps
  have w3 : W64 ((i : Int) + 1) ((i + 1 : Nat) : Int) := .mkI rfl (by omega) (by omega)
  have hx1 := hE1.get i (by omega) (by omega)
  have hx2 := hE2.get i (by omega) hlt
  have hacc : acc[i]'(by omega) = acc2[i]'(by omega) := by subst hY; exact List.getElem_append_left (by omega)
  rw [hacc] at hx1
  obtain ⟨⟨d, T, hd, ax⟩, hp⟩ : ∃ p, acc2[i]'(by omega) = p := ⟨_, rfl⟩
  rw [hp] at hx1 hx2
  obtain ⟨n1, k1, hE1', hn1'⟩ := hx1
  obtain ⟨n2, k2, hE2', hn2'⟩ := hx2
  simp only at hE1' hE2' hn1' hn2'
  obtain ⟨a, ha1, -, -, -, -, ha6⟩ := el1.adr i (by omega)
  obtain ⟨b, hb1, -, -, -, -, hb6⟩ := el2.adr i hlt
  rw [hE1'] at ha6
  rw [hE2'] at hb6
  obtain ⟨a0, x0, y0, -, -⟩ := ha6 0 _ rfl
  obtain ⟨a1', x1, y1, -, -⟩ := ha6 1 _ rfl
  obtain ⟨a3', x3, y3, -, -⟩ := ha6 3 _ rfl
  obtain ⟨b0, z0, u0, -, -⟩ := hb6 0 _ rfl
  obtain ⟨b1', z1, u1, -, -⟩ := hb6 1 _ rfl
  obtain ⟨b3', z3, u3, -, -⟩ := hb6 3 _ rfl
  have h12 : callL T10 12 [.vec none true [.agg [vv none n1 tv T, .bool hd, .vec none false [], AV.int IntKind.i64 ax]], .vec none true [.agg [vv none n2 tv T, .bool hd, .vec none false [], AV.int IntKind.i64 ax]], .bool true] m4 = some (.bool true, m4) := by
    have := q12 (szL [.mk T hd [] ax] + 1) true [.mk T hd [] ax] [.mk T hd [] ax] _ _ m4 0 0 0 0 (Nat.lt_succ_self _) (by
      have := pre_toks _ 0 (Tc c2) (Nat.lt_succ_self _) (d, ⟨T, hd, ax⟩) (by rw [← hd1, ← hp]; exact List.getElem_mem _)
      simp [szL, szN] at this ⊢; omega) (TV_one n1 T hn1' hd ax m4) (TV_one n2 T hn2' hd ax m4)
    rwa [eqL_one] at this
  simp [e9, e11, e13, em, el1.view, el2.view, el2.len, hl', ha1, hb1, x0, y0, x1, y1, x3, y3, z0, u0, z1, u1, z3, u3, h12, w3.eq, -Int.natCast_add]
  exact ⟨fs2.length - (i + 1), by omega, i + 1, rfl, by omega, rfl⟩
end Go.Vm.Ch10
