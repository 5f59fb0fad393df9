/- Chapter 10: what its functions compute. -/
import Derived.Test.YtmncbcgcahfdcaaGreatDoorC10xg
import Derived.Test.YtmncbcgcahfdcaaGreatDoorVJ
namespace Go.Vm.Ch10
open _root_.Ch10 (T10 c21)
set_option maxRecDepth 10000
set_option maxHeartbeats 16000000
/-! ### the lines of a tree and their depths, in two own rows -/
def W2 (m : Mem) (hi : Nat) (vo vd : AV) (es : List (List AV)) (ds : List Nat) : Prop :=
  (es = [] ∧ ds = [] ∧ vo = .vec none false [] ∧ vd = .vec none false []) ∨
  ∃ i j, i ≠ j ∧ hi ≤ i ∧ hi ≤ j ∧ i < m.length ∧ j < m.length ∧ vo = .orow 4 i es.length ∧ vd = .orow 1 j es.length ∧ ds.length = es.length ∧ m[i]? = some (some (.cells false es.flatten)) ∧ m[j]? = some (some (.cells false (ds.map fun d => AV.int IntKind.i64 (d : Nat)))) ∧
    es.flatten.map AV.view = es.flatten ∧ ∀ e ∈ es, e.length = 4
def EL (p : Nat × L0) (e : List AV) : Prop := ∃ nt kv, e = [vv none nt tv p.2.toks, .bool p.2.head, kv, AV.int IntKind.i64 p.2.at_] ∧ (nt = false → p.2.toks = [])
theorem TV.at2 {m : Mem} {lo hi : Nat} {K : List Ln} {v : AV} (h : TV m lo hi K v) : ∃ es, ElSl 4 v m es ∧ es.length = K.length ∧ ∀ j (h : j < es.length), ∃ nt kv, es[j] = [vv none nt tv (gi K (j : Int)).toks, .bool (gi K (j : Int)).head, kv, AV.int IntKind.i64 (gi K (j : Int)).at_] ∧ (nt = false → (gi K (j : Int)).toks = []) ∧ TV m lo hi (gi K (j : Int)).kids kv.view := by
  cases h with
  | mk _ _ nt kv h hnt hk =>
    refine ⟨_, h.el (z := 4) (by simp), by simp, fun j hj => ?_⟩
    have hj' : j < K.length := by simpa using hj
    exact ⟨nt j, kv j, by simp, hnt j hj', hk j hj'⟩
theorem flatten_len4 : ∀ {es : List (List AV)}, (∀ e ∈ es, e.length = 4) → es.flatten.length = es.length * 4
  | [], _ => rfl
  | e :: es, h => by
    rw [List.flatten_cons, List.length_append, h e (by simp), flatten_len4 fun x hx => h x (List.mem_cons_of_mem _ hx), List.length_cons]; omega
theorem W2.len {m : Mem} {hi : Nat} {vo vd : AV} {es : List (List AV)} {ds : List Nat} (h : W2 m hi vo vd es ds) : ds.length = es.length := by
  rcases h with ⟨rfl, rfl, -⟩ | ⟨i, j, -, -, -, -, -, -, -, h, -⟩
  · rfl
  · exact h
inductive All2 {α β : Type} (R : α → β → Prop) : List α → List β → Prop where
  | nil : All2 R [] []
  | cons {a : α} {b : β} {l : List α} {r : List β} (h : R a b) (t : All2 R l r) : All2 R (a :: l) (b :: r)
theorem All2.len {α β : Type} {R : α → β → Prop} {l : List α} {r : List β} (h : All2 R l r) : l.length = r.length := by
  induction h with
  | nil => rfl
  | cons _ _ ih => simp [ih]
theorem All2.app {α β : Type} {R : α → β → Prop} {l l' : List α} {r r' : List β} (h : All2 R l r) (h' : All2 R l' r') : All2 R (l ++ l') (r ++ r') := by
  induction h with
  | nil => exact h'
  | cons h _ ih => exact .cons h ih
theorem All2.get {α β : Type} {R : α → β → Prop} {l : List α} {r : List β} (h : All2 R l r) : ∀ (i : Nat) (h1 : i < l.length) (h2 : i < r.length), R l[i] r[i] := by
  induction h with
  | nil => intro i h1; simp at h1
  | cons h _ ih =>
    intro i h1 h2
    cases i with
    | zero => exact h
    | succ i => exact ih i (by simpa using h1) (by simpa using h2)
theorem pre_take {b : Nat} {K : List Ln} {k : Nat} (h : k < K.length) : pre b (K.take (k + 1)) = pre b (K.take k) ++ ((b, ⟨(gi K (k : Int)).toks, (gi K (k : Int)).head, (gi K (k : Int)).at_⟩) :: pre (b + 1) (gi K (k : Int)).kids) := by
  rw [List.take_succ_eq_append_getElem h, pre_append, gi_nat h]
  congr 1
  obtain ⟨T, hd, K', a⟩ := K[k]
  simp [pre, preN, Ln.toks, Ln.head, Ln.kids, Ln.at_]
theorem szL_kid {K : List Ln} {k : Nat} (h : k < K.length) : szL (gi K (k : Int)).kids < szL K := by
  have h1 := szL_get K k h
  rw [gi_nat h]
  revert h1
  generalize K[k] = x
  intro h1
  obtain ⟨T, hd, K', a⟩ := x
  simp only [szN, Ln.kids] at h1 ⊢
  omega
theorem pre_szL (b : Nat) : ∀ K : List Ln, (pre b K).length ≤ szL K := by
  have key : ∀ N b (K : List Ln), szL K < N → (pre b K).length ≤ szL K := by
    intro N
    induction N with
    | zero => intro b K h; omega
    | succ N ih =>
      intro b K
      induction K with
      | nil => intro _; simp [pre]
      | cons x r ihr =>
        intro h
        obtain ⟨T, hd, K', a⟩ := x
        simp only [szL, szN] at h
        have h1 := ih (b + 1) K' (by omega)
        have h2 := ihr (by omega)
        simp only [pre, preN, List.length_append, List.length_cons, szL, szN]
        omega
  exact fun K => key _ b K (Nat.lt_succ_self _)
theorem szL_take : ∀ (K : List Ln) (k : Nat) (_ : k < K.length), szL (K.take k) + 1 + szL (gi K (k : Int)).kids ≤ szL K
  | x :: r, 0, _ => by
    obtain ⟨T, hd, K', a⟩ := x
    have : gi (Ln.mk T hd K' a :: r) ((0 : Nat) : Int) = Ln.mk T hd K' a := rfl
    rw [this]
    simp only [List.take_zero, szL, szN, Ln.kids]; omega
  | x :: r, k + 1, h => by
    have hr : k < r.length := by simpa using h
    have := szL_take r k hr
    rw [gi_nat hr] at this
    rw [gi_nat h]
    simp only [List.take_succ_cons, szL, List.getElem_cons_succ]; omega
theorem elsC4 {cs : List AV} (hl : cs.length = 4) (ho : cs.all AV.one = true) : elems? 4 (.vec (some 4) true [.agg cs]) = some [.agg cs] := by
  simp [elems?, AV.cells, hl]
  simpa using ho
def r21a : VC := (.region [⟨(.some 17), (.take 2), .none⟩, ⟨(.some 18), (.move (.t 0)), .none⟩, ⟨(.some 19), (.move (.t 10)), .none⟩, ⟨(.some 20), (.iaddrSl 4 (.t 18) (.t 19)), .none⟩, ⟨(.some 21), (.load (.some 4) (.t 20)), .none⟩, ⟨(.some 22), (.buildSl 4 (.agg [(.vec .none .false []), (.bool .false), (.vec .none .false []), (.int .i64 0)]) 1 [(0, (.t 21))]), .none⟩, ⟨(.some 23), (.appendO 4 64 (.t 17) (.t 22)), .none⟩, ⟨(.some 24), (.take 3), .none⟩, ⟨(.some 25), (.move (.t 1)), .none⟩, ⟨(.some 26), (.buildSl 1 (.int .i64 0) 1 [(0, (.t 25))]), .none⟩, ⟨(.some 27), (.appendO 1 8 (.t 24) (.t 26)), .none⟩, ⟨(.some 2), (.assign (.t 23)), .none⟩, ⟨(.some 3), (.assign (.t 27)), .none⟩])
def r21b : VC := (.region [⟨(.some 29), (.move (.t 0)), .none⟩, ⟨(.some 30), (.move (.t 10)), .none⟩, ⟨(.some 31), (.iaddrSl 4 (.t 29) (.t 30)), .none⟩, ⟨(.some 32), (.faddr 2 (.t 31)), .none⟩, ⟨(.some 33), (.load .none (.t 32)), .none⟩, ⟨(.some 34), (.move (.t 1)), .none⟩, ⟨(.some 35), (.bin .add (.t 34) (.k (.int .i64 1))), .none⟩, ⟨(.some 36), (.take 2), .none⟩, ⟨(.some 37), (.take 3), .none⟩, ⟨(.some 38), (.callO (.k (.fn (.func 21) [])) [(.t 33), (.t 35), (.t 36), (.t 37)]), .none⟩, ⟨(.some 28), (.move (.t 38)), .none⟩, ⟨(.some 39), (.upure 4 0 (.t 28) (.k .undef)), .none⟩, ⟨(.some 40), (.upure 4 1 (.t 28) (.k .undef)), .none⟩, ⟨(.some 2), (.assign (.t 39)), .none⟩, ⟨(.some 3), (.assign (.t 40)), .none⟩])
def b21 : VC := (.seq (.seq (.region [⟨(.some 11), (.move (.t 10)), .none⟩, ⟨(.some 12), (.move (.t 0)), .none⟩, ⟨(.some 13), (.lenSl (.t 12)), .none⟩, ⟨(.some 14), (.bin .lss (.t 11) (.t 13)), .none⟩]) (.cond (.t 14) .skip (.exit 0))) (.seq (.block 1 (.seq r21a r21b)) (.region [⟨(.some 15), (.move (.t 10)), .none⟩, ⟨(.some 16), (.bin .add (.t 15) (.k (.int .i64 1))), .none⟩, ⟨(.some 10), (.assign (.t 16)), .none⟩])))
/-- A line is appended. -/
theorem r21a_ok (v : AV) (m : Mem) (lo hi b k : Nat) (K : List Ln) (vo vd : AV) (es : List (List AV)) (ds : List Nat) (hk : k < K.length) (hK : TV m lo hi K v) (hhi : hi ≤ m.length) (hw : W2 m hi vo vd es ds) (hes : es.length ≤ 1000000000)
    (s : St) (e0 : s.get 0 = v) (e1 : s.get 1 = AV.int IntKind.i64 b) (e2 : s.get 2 = vo) (e3 : s.get 3 = vd) (e10 : s.get 10 = AV.int IntKind.i64 k) (em : s.mem = m) :
    wp T10 r21a s fun e s' => e = .normal ∧ s'.get 0 = v ∧ s'.get 1 = AV.int IntKind.i64 b ∧ s'.get 10 = AV.int IntKind.i64 k ∧ ∃ E vo' vd', EL (b, ⟨(gi K (k : Int)).toks, (gi K (k : Int)).head, (gi K (k : Int)).at_⟩) E ∧ s'.get 2 = vo' ∧ s'.get 3 = vd' ∧
      W2 s'.mem hi vo' vd' (es ++ [E]) (ds ++ [b]) ∧ (∀ i, i < hi → s'.mem[i]? = m[i]?) ∧ hi ≤ s'.mem.length := by
  obtain ⟨ea, hea, la, ha⟩ := hK.at2
  obtain ⟨nt, kv, hE, hnt, hkv⟩ := ha k (by omega)
  obtain ⟨a, ha1, ha2, -, -, -⟩ := hea.adr k (by omega)
  rw [hE] at ha2
  have hone : kv.one = true := by
    obtain ⟨⟨ek, hek, -⟩⟩ := hkv.at
    rw [← one_view]; exact hek.one
  have hgood : kv.good = true := one_good hone
  have hvv := hea.view
  generalize gi K (k : Int) = x at *
  obtain ⟨T, hd, K', ax⟩ := x
  simp only [Ln.toks, Ln.head, Ln.kids, Ln.at_] at *
  rcases hw with ⟨rfl, rfl, rfl, rfl⟩ | ⟨i, j, hij, h1, h2, h3, h4, rfl, rfl, h5, h6, h7, h8, h9⟩
  · have hfl : List.map AV.view (flat [AV.agg [vv none nt tv T, AV.bool hd, kv, AV.int IntKind.i64 ax]]) = [vv none nt tv T, .bool hd, kv.view, AV.int IntKind.i64 ax] := rfl
    have hfd : List.map AV.view (flat [AV.int IntKind.i64 (b : Nat)]) = [AV.int IntKind.i64 (b : Nat)] := rfl
    simp [r21a, e0, e1, e2, e3, e10, em, hvv, ha1, ha2, elems?, hone, hfl, hfd]
    refine ⟨_, ⟨nt, kv.view, rfl, hnt⟩, .inr ⟨m.length, m.length + 1, by omega, hhi, by omega, by simp, by simp, rfl, rfl, rfl, ?_, ?_, ?_, by simp⟩, fun i hi' => ?_, by omega⟩
    · rw [List.getElem?_append_right (Nat.le_refl _), Nat.sub_self]; rfl
    · rw [List.getElem?_append_right (by omega), show m.length + 1 - m.length = 1 by omega]; rfl
    · simp; cases kv <;> rfl
    · rw [List.getElem?_append_left (by omega)]
  · have hCl := flatten_len4 h9
    obtain ⟨C, hC⟩ : ∃ C, es.flatten = C := ⟨_, rfl⟩
    rw [hC] at h6 h8 hCl
    have hfl : List.map AV.view (flat [AV.agg [vv none nt tv T, AV.bool hd, kv, AV.int IntKind.i64 ax]]) = [vv none nt tv T, .bool hd, kv.view, AV.int IntKind.i64 ax] := rfl
    have hfd : List.map AV.view (flat [AV.int IntKind.i64 (b : Nat)]) = [AV.int IntKind.i64 (b : Nat)] := rfl
    have hj' : ∀ X : Mem, (m.set i none ++ X)[j]? = some (some (.cells false (ds.map fun d => AV.int IntKind.i64 (d : Nat)))) := fun X => by
      rw [List.getElem?_append_left (by simp; exact h4), List.getElem?_set_ne hij]; exact h7
    have hb1 : es.length * 4 ≤ C.length := by omega
    have hb2 : (es.length + 1) * 64 ≤ 140737488355328 := by omega
    have hb3 : (es.length + 1) * 8 ≤ 140737488355328 := by omega
    have htk : C.take (es.length * 4) = C := by rw [← hCl]; exact List.take_length
    have hdl : (ds.map fun d => AV.int IntKind.i64 (d : Nat)).length = es.length := by simpa using h5
    have hdv : (ds.map fun d => AV.int IntKind.i64 (d : Nat)).map AV.view = ds.map fun d => AV.int IntKind.i64 (d : Nat) := by simp
    obtain ⟨DD, hDD⟩ : ∃ D, (ds.map fun d => AV.int IntKind.i64 (d : Nat)) = D := ⟨_, rfl⟩
    rw [hDD] at h7 hdl hdv
    simp only [hDD] at hj'
    have htd : DD.take es.length = DD := by rw [← hdl]; exact List.take_length
    simp [r21a, e0, e1, e2, e3, e10, em, hvv, ha1, ha2, elems?, hone, h6, hj', hb1, hb2, hb3, htk, htd, hdl, -List.map_append]
    rw [List.map_append, List.map_append, h8, hfl, hdv, hfd]
    obtain ⟨E, hE2⟩ : ∃ E, [vv none nt tv T, .bool hd, kv.view, AV.int IntKind.i64 ax] = E := ⟨_, rfl⟩
    have hEl : E.length = 4 := by rw [← hE2]; rfl
    have hEv : E.map AV.view = E := by rw [← hE2]; simp; cases kv <;> rfl
    have hin : i < ((m.set i none ++ [some (LObj.cells false (C ++ E))]).set j none).length := by simp; omega
    rw [hE2]
    refine ⟨E, ⟨nt, kv.view, hE2.symm, hnt⟩, .inr ⟨m.length, m.length + 1, by omega, hhi, by omega, by simp <;> omega, by simp <;> omega, by simp, by simp, by simp [h5], ?_, ?_, ?_, ?_⟩, fun q hq => ?_, by omega⟩
    · rw [List.getElem?_append_left (by simp), List.getElem?_set_ne (by omega), List.getElem?_append_right (by simp)]
      simp [hC]
    · rw [List.getElem?_append_right (by simp)]
      simp [← hDD]
    · rw [List.flatten_append, List.map_append, hC, h8]
      simp [hEv]
    · intro e he
      rcases List.mem_append.1 he with h | h
      · exact h9 e h
      · rw [List.mem_singleton.1 h]; exact hEl
    · rw [List.getElem?_append_left (by simp; omega), List.getElem?_set_ne (by omega), List.getElem?_append_left (by simp; omega), List.getElem?_set_ne (by omega)]
theorem q21 : ∀ (N : Nat) (K : List Ln) (v : AV) (m : Mem) (lo hi b : Nat) (vo vd : AV) (es : List (List AV)) (ds : List Nat), szL K < N → b + N ≤ 1000000000 → es.length + szL K ≤ 1000000000 → TV m lo hi K v → hi ≤ m.length → W2 m hi vo vd es ds →
    ∃ u m', callL T10 21 [v, AV.int IntKind.i64 b, vo, vd] m = some (u, m') ∧ ∃ vo' vd' fs, u = .tup [vo', vd'] ∧ W2 m' hi vo' vd' (es ++ fs) (ds ++ (pre b K).map (·.1)) ∧ All2 EL (pre b K) fs ∧ (∀ i, i < hi → m'[i]? = m[i]?) ∧ hi ≤ m'.length := by
  intro N
  induction N with
  | zero => intro K v m lo hi b vo vd es ds h; omega
  | succ N ih =>
    intro K v m lo hi b vo vd es ds hN hb hbe hK hhi hw
    obtain ⟨⟨ea, hea, la, ha⟩⟩ := hK.at
    have hvt := hea.tk
    have hvv := hea.view
    have hvl := hea.len
    have hszl := szL_len K
    apply callL_exP (vf := c21) rfl rfl
    simp [c21]
    refine wp_loop (fun n s => ∃ (k : Nat) (vo1 vd1 : AV) (fs : List (List AV)), n = K.length - k ∧ k ≤ K.length ∧ s.get 0 = v ∧ s.get 1 = AV.int IntKind.i64 b ∧ s.get 2 = vo1 ∧ s.get 3 = vd1 ∧ s.get 10 = AV.int IntKind.i64 k ∧ W2 s.mem hi vo1 vd1 (es ++ fs) (ds ++ (pre b (K.take k)).map (·.1)) ∧ All2 EL (pre b (K.take k)) fs ∧ (∀ i, i < hi → s.mem[i]? = m[i]?) ∧ hi ≤ s.mem.length) ?_ K.length _ ?_
    rotate_left
    · exact ⟨0, vo, vd, [], by simp, by simp, by simp, by simp, by simp, by simp, by simp, by simpa [pre] using hw, by simpa [pre] using All2.nil, by simp, by simpa using hhi⟩
    rintro n s ⟨k, vo1, vd1, fs, hn, hk, e0, e1, e2, e3, e10, hW, hA, hM, hH⟩
    have hfl := hA.len
    by_cases hlt : k < K.length
    rotate_left
    · have hke : k = K.length := by omega
      subst hke
      rw [List.take_length] at hW hA
      have hkl : ¬ (K.length : Int) < ea.length := by omega
      rcases hW with ⟨h1, h2, rfl, rfl⟩ | ⟨i, j, hij, h1, h2, h3, h4, rfl, rfl, hrest⟩
      · simp [e0, e2, e3, e10, hvv, hvl, hkl]
        exact ⟨_, _, ⟨rfl, rfl⟩, fs, .inl ⟨by simpa using h1, by simpa using h2, rfl, rfl⟩, hA, hM, hH⟩
      · simp [e0, e2, e3, e10, hvv, hvl, hkl]
        exact ⟨_, _, ⟨rfl, rfl⟩, fs, .inr ⟨i, j, hij, h1, h2, h3, h4, by simp, by simp, hrest⟩, hA, hM, hH⟩
    have hkl : (k : Int) < ea.length := by omega
    have hsz := szL_take K k hlt
    have hpl := pre_szL b (K.take k)
    have hK1 : TV s.mem lo hi K v := hK.mono (Nat.le_refl _) (Nat.le_refl _) fun i _ h => hM i h
    have w1 : W64 ((k : Int) + 1) ((k + 1 : Nat) : Int) := .mkI rfl (by omega) (by omega)
    have w2 : W64 ((b : Int) + 1) ((b + 1 : Nat) : Int) := .mkI rfl (by omega) (by omega)
    have hpt := pre_take (b := b) hlt
    show wp T10 b21 s _
    simp [b21, e0, e10, hvv, hvl, hkl]
    refine wp_mono (r21a_ok v s.mem lo hi b k K vo1 vd1 (es ++ fs) (ds ++ (pre b (K.take k)).map (·.1)) hlt hK1 hH hW (by simp; omega) _ (by simp [e0]) (by simp [e1]) (by simp [e2]) (by simp [e3]) (by simp [e10]) (by simp)) ?_
    rintro e s2 ⟨rfl, f0, f1, f10, E, vo2, vd2, hE, f2, f3, hW2, hM2, hH2⟩
    obtain ⟨mm, hmm⟩ : ∃ mm, s2.mem = mm := ⟨_, rfl⟩
    rw [hmm] at hW2 hM2 hH2
    have hM2' : ∀ i, i < hi → mm[i]? = m[i]? := fun i h => (hM2 i h).trans (hM i h)
    have hK2 : TV mm lo hi K v := hK.mono (Nat.le_refl _) (Nat.le_refl _) fun i _ h => hM2' i h
    obtain ⟨⟨eb, heb, lb, hb2⟩⟩ := hK2.at
    obtain ⟨nt, kv, hEb, hkv⟩ := hb2 k (by omega)
    obtain ⟨a, ha1, -, -, -, -, ha6⟩ := heb.adr k (by omega)
    obtain ⟨ad, ha7, ha8, -, -⟩ := ha6 2 kv (by rw [hEb]; rfl)
    have hkid := szL_kid hlt
    obtain ⟨u, m3, h21, vo3, vd3, fs3, rfl, hW3, hA3, hM3, hH3⟩ := ih (gi K (k : Int)).kids kv.view mm lo hi (b + 1) vo2 vd2 (es ++ fs ++ [E]) (ds ++ (pre b (K.take k)).map (·.1) ++ [b]) (by omega) (by omega) (by simp; omega) hkv hH2 hW2
    obtain ⟨⟨ek, hek, -⟩⟩ := hkv.at
    have hkl' := hek.nl
    have hfin : W2 m3 hi vo3 vd3 (es ++ (fs ++ E :: fs3)) (ds ++ (pre b (K.take (k + 1))).map (·.1)) := by
      rw [hpt]
      simpa using hW3
    have hfin2 : All2 EL (pre b (K.take (k + 1))) (fs ++ E :: fs3) := by
      rw [hpt]
      exact hA.app (.cons hE hA3)
    have hM4 : ∀ i, i < hi → m3[i]? = m[i]? := fun i h => (hM3 i h).trans (hM2' i h)
    have hpo2 : vo2.nl = true ∧ vo2.pass = vo2 ∧ (∀ (s : St) (t : Nat), takeV s t vo2 = (vo2, s)) := by
      rcases hW2 with ⟨-, -, rfl, -⟩ | ⟨i, j, -, -, -, -, -, rfl, -⟩ <;> exact ⟨rfl, rfl, fun _ _ => rfl⟩
    have hpd2 : vd2.nl = true ∧ vd2.pass = vd2 ∧ (∀ (s : St) (t : Nat), takeV s t vd2 = (vd2, s)) := by
      rcases hW2 with ⟨-, -, -, rfl⟩ | ⟨i, j, -, -, -, -, -, -, rfl, -⟩ <;> exact ⟨rfl, rfl, fun _ _ => rfl⟩
    have hpo3 : vo3.pass = vo3 ∧ (∀ (s : St) (t : Nat), takeV s t vo3 = (vo3, s)) := by
      rcases hW3 with ⟨-, -, rfl, -⟩ | ⟨i, j, -, -, -, -, -, rfl, -⟩ <;> exact ⟨rfl, fun _ _ => rfl⟩
    have hpd3 : vd3.pass = vd3 ∧ (∀ (s : St) (t : Nat), takeV s t vd3 = (vd3, s)) := by
      rcases hW3 with ⟨-, -, -, rfl⟩ | ⟨i, j, -, -, -, -, -, -, rfl, -⟩ <;> exact ⟨rfl, fun _ _ => rfl⟩
    have hkvv : kv.view.view = kv.view := hek.view
    have hpk : kv.view.pass = kv.view := by cases kv <;> rfl
    simp [r21b, f0, f1, f2, f3, f10, hmm, hvv, ha1, ha7, ha8, w1.eq, w2.eq, hpo2.1, hpo2.2.1, hpo2.2.2, hpd2.1, hpd2.2.1, hpd2.2.2, hpo3.1, hpo3.2, hpd3.1, hpd3.2, hpk, hkl', h21, -Int.natCast_add]
    exact ⟨K.length - (k + 1), by omega, k + 1, rfl, by omega, rfl, fs ++ E :: fs3, hfin, hfin2, hM4, hH3⟩
end Go.Vm.Ch10
