/- Chapter 10: what its functions compute. -/
import Derived.Test.YtmncbcgcahfdcaaGreatDoorC10zb
namespace Go.Vm.Ch10
open _root_.Ch10 (T10 c36)
set_option maxRecDepth 10000
set_option maxHeartbeats 16000000
theorem TV_mem {K : List Ln} {v : AV} {m : Mem} {lo hi : Nat} (h : TV [] 0 0 K v) : TV m lo hi K v := by
  induction h with
  | mk K v nt kv h hnt hk ih =>
    rcases h with h | ⟨i, rest, _, h1, h2, _⟩
    · exact .mk K v nt kv (.inl h) hnt ih
    · omega
/-- What a copy of lines leaves. -/
def Cln (K : List Ln) (m : Mem) (v : AV) (m' : Mem) : Prop := v.view = v ∧ v.one = true ∧ v.nl = true ∧ TV m' (m.length - 1) m'.length K v ∧ m.length ≤ m'.length ∧ ∀ j, j < m.length → m'[j]? = m[j]?
theorem q36 : ∀ (N : Nat) (T : List Tk) (b h : Bool) (K : List Ln) (kv : AV) (a : Int) (m : Mem), 1 + T.length + szL K < N → N ≤ 1000 → (b = false → T = []) → TV [] 0 0 K kv.view → kv.one = true → 0 < m.length →
    ∃ kv' m', callL T10 36 [.agg [vv none b tv T, .bool h, kv, AV.int IntKind.i64 a]] m = some (.agg [vv none b tv T, .bool h, kv', AV.int IntKind.i64 a], m') ∧ Cln K m kv' m' := by
  intro N
  induction N with
  | zero => intro T b h K kv a m h1; omega
  | succ N ih =>
    intro T b h K kv a m h1 h2 hb hkv hone hm0
    have h63 := q63 T b hb (by omega)
    obtain ⟨nn, nt, kf, hkv', hnn, hnt, hk⟩ := VT_inv hkv
    have hlK := szL_len K
    obtain ⟨es, hes⟩ : ∃ es, ((List.range K.length).map fun j => [vv none (nt j) tv (gi K (j : Int)).toks, .bool (gi K (j : Int)).head, kf j, AV.int IntKind.i64 (gi K (j : Int)).at_]) = es := ⟨_, rfl⟩
    have hel : es.length = K.length := by rw [← hes]; simp
    have hej : ∀ j (hj : j < es.length), es[j] = [vv none (nt j) tv (gi K (j : Int)).toks, .bool (gi K (j : Int)).head, kf j, AV.int IntKind.i64 (gi K (j : Int)).at_] := by
      intro j hj
      simp only [← hes, List.getElem_map, List.getElem_range]
    rw [hes] at hkv'
    have hnn' : nn = false → es = [] := fun hn => by
      have := hnn hn
      subst this
      rw [← hes]; rfl
    have h64 := q64 es nn hnn' (by omega) (fun e he => by
        obtain ⟨j, hj, rfl⟩ := List.mem_iff_getElem.1 he
        rw [hej j hj]; rfl) (fun e he x hx => by
        obtain ⟨j, hj, rfl⟩ := List.mem_iff_getElem.1 he
        rw [hej j hj] at hx
        simp at hx
        rcases hx with rfl | rfl | rfl | rfl
        · rfl
        · rfl
        · exact (hk j (by omega)).2
        · rfl) m
    by_cases h0 : es = []
    · rw [if_pos h0] at h64
      have hK0 : K = [] := by
        have : K.length = 0 := by rw [← hel, h0]; rfl
        exact List.length_eq_zero_iff.1 this
      subst hK0
      refine ⟨.vec none nn [], m, ?_, rfl, rfl, rfl, .nil, Nat.le_refl _, fun _ _ => rfl⟩
      apply callL_body (vf := c36) rfl rfl
      simp [c36, hkv', h63, h64, objCells]
      refine wp_loop (fun n t => n = 0 ∧ t.get 1 = .ptr (.loc 1 0) 0 ∧ t.get 2 = .ptr (.loc 2 0) 0 ∧ t.loc 1 = [.cells false [vv none b tv T, .bool h, .vec none nn [], AV.int IntKind.i64 a]] ∧ t.loc 2 = [.cells false [.vec none false [], .bool false, .vec none false [], AV.int IntKind.i64 0]] ∧ t.get 14 = AV.int IntKind.i64 0 ∧ t.get 15 = AV.int IntKind.i64 0 ∧ t.mem = m) ?_ 0 _ (by simp)
      rintro n t ⟨rfl, e1, e2, l1, l2, e14, e15, hm⟩
      simp [e1, e2, l1, l2, e14, e15, hm, objCells]
    · rw [if_neg h0] at h64
      have key : ∃ v m', callL T10 36 [.agg [vv none b tv T, .bool h, kv, AV.int IntKind.i64 a]] m = some (v, m') ∧ ∃ kv', v = .agg [vv none b tv T, .bool h, kv', AV.int IntKind.i64 a] ∧ Cln K m kv' m' := by
        apply callL_exP (vf := c36) rfl rfl
        obtain ⟨es', hes'⟩ : ∃ es', es.map (List.map AV.view) = es' := ⟨_, rfl⟩
        have hfl : es.flatten.map AV.view = es'.flatten := by rw [← hes', List.map_flatten]
        have hel' : es'.length = K.length := by rw [← hes']; simp [hel]
        have hej' : ∀ j (hj : j < es'.length), es'[j] = [vv none (nt j) tv (gi K (j : Int)).toks, .bool (gi K (j : Int)).head, (kf j).view, AV.int IntKind.i64 (gi K (j : Int)).at_] := by
          intro j hj
          have hj2 : j < es.length := by omega
          simp only [← hes', List.getElem_map, hej j hj2]
          rfl
        rw [hfl, hel] at h64
        simp [c36, hkv', h63, h64, objCells]
        have hK0 : 0 < K.length := by
          have := List.length_pos_iff.2 h0
          omega
        refine wp_loop (fun n t => ∃ (i : Nat) (done : List (List AV)), n = K.length - i ∧ i ≤ K.length ∧ t.get 1 = .ptr (.loc 1 0) 0 ∧ t.get 2 = .ptr (.loc 2 0) 0 ∧ t.loc 1 = [.cells false [vv none b tv T, .bool h, .row (.mem m.length) 0 K.length, AV.int IntKind.i64 a]] ∧ t.loc 2 = [.cells false [.vec none false [], .bool false, .vec none false [], AV.int IntKind.i64 0]] ∧ t.get 14 = AV.int IntKind.i64 (K.length : Nat) ∧ t.get 15 = AV.int IntKind.i64 (i : Nat) ∧ m.length < t.mem.length ∧ (∀ j, j < m.length → t.mem[j]? = m[j]?) ∧
          Pels t.mem m.length t.mem.length (K.take i) done ∧ t.mem[m.length]? = some (some (LObj.cells false (done ++ es'.drop i).flatten))) ?_ K.length _ ?_
        rotate_left
        · refine ⟨0, [], ?_⟩
          simp
          exact ⟨fun j hj => List.getElem?_append_left hj, .nil⟩
        rintro n t ⟨i, done, hn, hi, e1, e2, l1, l2, e14, e15, hml, hfr, hP, hr⟩
        have hdl := hP.len
        rw [List.length_take, Nat.min_eq_left hi] at hdl
        by_cases hlt : i < K.length
        rotate_left
        · have hli : ¬ (i : Int) < K.length := by omega
          simp [e1, e2, l1, l2, e14, e15, hli, objCells]
          obtain rfl : i = K.length := by omega
          rw [List.take_length] at hP
          rw [List.drop_eq_nil_of_le (by omega), List.append_nil] at hr
          obtain ⟨nt', kv', d1, d2, d3⟩ := hP
          refine ⟨rfl, rfl, rfl, .mk K _ nt' kv' (.inr ⟨m.length, [], by simp, by omega, hml, by rw [hr, d1]; simp⟩) d2 fun j hj => (d3 j hj).mono (by omega) (Nat.le_refl _) fun _ _ _ => rfl, by omega, hfr⟩
        have hli : (i : Int) < K.length := by omega
        have hie : i < es'.length := by omega
        have hsz := szL_get K i hlt
        rw [← gi_nat hlt] at hsz
        have hx := hej' i hie
        have hTk : K.take (i + 1) = K.take i ++ [gi K (i : Int)] := by rw [gi_nat hlt, List.take_add_one, List.getElem?_eq_getElem hlt]; rfl
        have hnti := hnt i hlt
        have hki := (hk i hlt).1
        generalize gi K (i : Int) = x at *
        obtain ⟨T', h', K', a'⟩ := x
        simp only [Ln.toks, Ln.head, Ln.kids, Ln.at_] at *
        rw [szN] at hsz
        obtain ⟨kv', m', hc, c1, c2, c3, c4, c5, c6⟩ := ih T' (nt i) h' K' (kf i).view a' t.mem (by omega) (by omega) hnti (by rw [view_view]; exact hki) (by rw [one_view]; exact (hk i hlt).2) (by omega)
        have hr' := hr
        rw [← c6 _ hml] at hr'
        have hz : ∀ e ∈ done ++ es'.drop i, e.length = 4 := by
          intro e he
          rcases List.mem_append.1 he with he | he
          · obtain ⟨nt', kv', d1, d2, d3⟩ := hP
            rw [d1] at he
            obtain ⟨j, _, rfl⟩ := List.mem_map.1 he
            rfl
          · obtain ⟨j, hj, rfl⟩ := List.mem_iff_getElem.1 (List.mem_of_mem_drop he)
            rw [hej' j hj]; rfl
        obtain ⟨f1, f2⟩ := flatten_at hz i (by rw [List.length_append, List.length_drop]; omega) []
        rw [List.append_nil] at f1 f2
        have hget : (done ++ es'.drop i)[i]'(by rw [List.length_append, List.length_drop]; omega) = es'[i] := by
          rw [List.getElem_append_right (by omega)]
          simp [hdl]
        rw [hget, hx] at f1
        have hnew : ∀ E : List AV, E.length = 4 → ((done ++ es'.drop i).flatten).take (i * 4) ++ (E ++ ((done ++ es'.drop i).flatten).drop (i * 4 + 4)) = ((done ++ [E]) ++ es'.drop (i + 1)).flatten := by
          intro E hE
          have hdf : done.flatten.length = i * 4 := by
            rw [← hdl]
            exact flat4 done fun e he => hz e (by simp [he])
          have hdr : es'.drop i = es'[i] :: es'.drop (i + 1) := by simp
          have h4 : es'[i].length = 4 := by rw [hx]; rfl
          rw [List.flatten_append, hdr, List.flatten_cons, List.take_left' hdf, ← List.drop_drop, List.drop_left' hdf, List.drop_left' h4]
          simp
        generalize hX : (done ++ es'.drop i).flatten = X at *
        have w1 : W64 ((i : Int) + 1) ((i + 1 : Nat) : Int) := .mkI rfl (by omega) (by omega)
        simp [e1, e2, l1, l2, e14, e15, hli, hr, memO, f1, f2, hc, hr', c1, c2, w1.eq, objCells, -Int.natCast_add]
        have hE := hnew [vv none (nt i) tv T', .bool h', kv', AV.int IntKind.i64 a'] rfl
        refine ⟨K.length - (i + 1), by omega, i + 1, rfl, by omega, rfl, by omega, fun j hj => ?_, done ++ [[vv none (nt i) tv T', .bool h', kv', AV.int IntKind.i64 a']], ?_, ?_⟩
        · rw [List.getElem?_set_ne (by omega), c6 j (by omega), hfr j hj]
        · rw [hTk]
          refine Pels.snoc (hP.mono (Nat.le_refl _) c5 fun j j1 j2 => ?_) hnti ?_
          · rw [List.getElem?_set_ne (by omega), c6 j j2]
          · rw [c1]
            exact c4.mono (by omega) (by omega) fun j j1 j2 => List.getElem?_set_ne (by omega)
        · rw [List.getElem?_set_self (by omega), ← List.flatten_append, ← hE]
          rfl
      obtain ⟨v, m', e1, kv', rfl, e2⟩ := key
      exact ⟨kv', m', e1, e2⟩
end Go.Vm.Ch10
