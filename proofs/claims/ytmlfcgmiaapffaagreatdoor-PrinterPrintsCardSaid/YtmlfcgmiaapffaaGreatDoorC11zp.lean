/- Chapter 11: what its functions compute. -/
import Derived.Test.YtmlfcgmiaapffaaGreatDoorC11za
namespace Go.Vm.Ch11
set_option maxRecDepth 10000
theorem view_view (v : AV) : v.view.view = v.view := by cases v <;> rfl
theorem VT_inv {K : List Ln} {v : AV} (h : TV [] 0 0 K v) : ∃ (nn : Bool) (nt : Nat → Bool) (kv : Nat → AV), v = vv none nn AV.agg ((List.range K.length).map fun j => [vv none (nt j) tv (gi K (j : Int)).toks, .bool (gi K (j : Int)).head, kv j, AV.int .i64 (gi K (j : Int)).at_]) ∧ (nn = false → K = []) ∧
    (∀ j, j < K.length → nt j = false → (gi K (j : Int)).toks = []) ∧ ∀ j, j < K.length → TV [] 0 0 (gi K (j : Int)).kids (kv j).view ∧ (kv j).one = true := by
  cases h with
  | mk _ _ nt kv h hnt hk =>
    rcases h with ⟨nn, rfl, h⟩ | ⟨i, rest, _, h1, h2, _⟩
    · refine ⟨nn, nt, kv, rfl, fun hn => ?_, hnt, fun j hj => ⟨hk j hj, ?_⟩⟩
      · have := h hn
        simpa using this
      · obtain ⟨⟨es, he, -⟩⟩ := (hk j hj).at
        rw [← one_view]; exact he.one
    · omega
structure Els (K : List Ln) (v : AV) (es : List (List AV)) : Prop where
  el : ElSl 4 v [] es
  len : es.length = K.length
  at_ : ∀ j (h : j < es.length), ∃ nt kv, es[j] = [vv none nt tv (gi K (j : Int)).toks, .bool (gi K (j : Int)).head, kv, AV.int .i64 (gi K (j : Int)).at_] ∧ (nt = false → (gi K (j : Int)).toks = []) ∧ TV [] 0 0 (gi K (j : Int)).kids kv.view ∧ kv.one = true
theorem els_of {K : List Ln} {v : AV} (h : TV [] 0 0 K v) : ∃ nn es, v = vv none nn AV.agg es ∧ Els K v es ∧ ∀ m, ElSl 4 v m es := by
  obtain ⟨nn, nt, kf, rfl, hnn, hnt, hk⟩ := VT_inv h
  have h4 : ∀ e ∈ ((List.range K.length).map fun j => [vv none (nt j) tv (gi K (j : Int)).toks, .bool (gi K (j : Int)).head, kf j, AV.int .i64 (gi K (j : Int)).at_]), e.length = 4 := by
    intro e he
    obtain ⟨j, _, rfl⟩ := List.mem_map.1 he
    rfl
  refine ⟨nn, _, rfl, ⟨SlAt.el (m := []) (lo := 0) (hi := 0) (.inl ⟨nn, rfl, fun hn => by rw [hnn hn]; rfl⟩) h4, by simp, fun j hj => ?_⟩, fun m => SlAt.el (lo := 0) (hi := 0) (.inl ⟨nn, rfl, fun hn => by rw [hnn hn]; rfl⟩) h4⟩
  have hjk : j < K.length := by simpa using hj
  exact ⟨nt j, kf j, by simp, hnt j hjk, hk j hjk⟩
theorem take_succ {K : List Ln} {i : Nat} (h : i < K.length) : K.take (i + 1) = K.take i ++ [gi K (i : Int)] := by rw [gi_nat h, List.take_add_one, List.getElem?_eq_getElem h]; rfl
mutual
def allL (f : Tk → Bool) : List Ln → Bool
  | [] => true
  | x :: r => allN f x && allL f r
def allN (f : Tk → Bool) : Ln → Bool
  | .mk T _ K _ => T.all f && allL f K
end
theorem allL_at {f : Tk → Bool} : ∀ {K : List Ln}, allL f K = true → ∀ x ∈ K, allN f x = true
  | [], _, x, h => by simp at h
  | y :: r, h, x, hx => by
    rw [allL, Bool.and_eq_true] at h
    rcases List.mem_cons.1 hx with rfl | hx
    · exact h.1
    · exact allL_at h.2 x hx
mutual
theorem allL_true : ∀ K, allL (fun _ => true) K = true
  | [] => rfl
  | x :: r => by rw [allL, allN_true x, allL_true r]; rfl
theorem allN_true : ∀ x, allN (fun _ => true) x = true
  | .mk T h K a => by rw [allN, allL_true K]; simp
end
theorem TV_mem {K : List Ln} {v : AV} {m : Mem} {lo hi : Nat} (h : TV [] 0 0 K v) : TV m lo hi K v := by
  induction h with
  | mk K v nt kv h hnt hk ih =>
    rcases h with h | ⟨i, rest, _, h1, h2, _⟩
    · exact .mk K v nt kv (.inl h) hnt ih
    · omega
end Go.Vm.Ch11
