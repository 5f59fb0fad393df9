/- Chapter 10: what its functions compute. -/
import Derived.Test.YtmncbcgcahfdcaaGreatDoorC10za
namespace Go.Vm.Ch10
open _root_.Ch10 (T10 c36 c63 c64)
set_option maxRecDepth 10000
set_option maxHeartbeats 16000000
/-! ### copies of lines -/
theorem view_view (v : AV) : v.view.view = v.view := by cases v <;> rfl
theorem flat_aggs : ∀ es : List (List AV), flat (es.map AV.agg) = es.flatten
  | [] => rfl
  | e :: es => by rw [List.map_cons, List.flatten_cons, ← flat_aggs es]; rfl
theorem VT_inv {K : List Ln} {v : AV} (h : TV [] 0 0 K v) : ∃ (nn : Bool) (nt : Nat → Bool) (kv : Nat → AV), v = vv none nn AV.agg ((List.range K.length).map fun j => [vv none (nt j) tv (gi K (j : Int)).toks, .bool (gi K (j : Int)).head, kv j, AV.int IntKind.i64 (gi K (j : Int)).at_]) ∧ (nn = false → K = []) ∧
    (∀ j, j < K.length → nt j = false → (gi K (j : Int)).toks = []) ∧ ∀ j, j < K.length → TV [] 0 0 (gi K (j : Int)).kids (kv j).view ∧ (kv j).one = true := by
  cases h with
  | mk _ _ nt kv h hnt hk =>
    rcases h with ⟨nn, rfl, h⟩ | ⟨i, rest, _, h1, h2, _⟩
    · refine ⟨nn, nt, kv, rfl, fun hn => ?_, hnt, fun j hj => ⟨hk j hj, ?_⟩⟩
      · have := h hn
        simpa using this
      · obtain ⟨⟨es, he, -⟩⟩ := (hk j hj).at
        rw [← one_view]; exact he.one
    · omega
theorem q63 (T : List Tk) (b : Bool) (hb : b = false → T = []) (hl : T.length ≤ 1000000) : callL T10 63 [vv none b tv T] [] = some (vv none b tv T, []) := by
  apply callL_body (vf := c63) rfl rfl
  cases b with
  | false =>
    obtain rfl := hb rfl
    simp [c63, vv]
  | true =>
    have hall : (T.map tv).all (fun x => decide (x.cells.length = 4) && x.cells.all AV.one) = true := by
      rw [List.all_eq_true]
      intro x hx
      obtain ⟨e, he, rfl⟩ := List.mem_map.1 hx
      rfl
    have hel : elems? 4 (vv none true tv T) = some (T.map tv) := by
      simp only [elems?, vv]
      rw [if_pos hall]
    simp [c63, hel]
    exact ⟨by omega, rfl⟩
theorem q64 (es : List (List AV)) (nn : Bool) (hn : nn = false → es = []) (hl : es.length ≤ 1000000) (h4 : ∀ e ∈ es, e.length = 4) (h1 : ∀ e ∈ es, ∀ x ∈ e, x.one = true) (m : Mem) :
    callL T10 64 [vv none nn AV.agg es] m = if es = [] then some (.vec none nn [], m) else some (.row (.mem m.length) 0 es.length, m ++ [some (LObj.cells false (es.flatten.map AV.view))]) := by
  by_cases h0 : es = []
  · subst h0
    rw [if_pos rfl]
    apply callL_body (vf := c64) rfl rfl
    cases nn <;> simp [c64, vv]
  · obtain rfl : nn = true := by
      cases nn with
      | true => rfl
      | false => exact absurd (hn rfl) h0
    rw [if_neg h0]
    apply callL_body (vf := c64) rfl rfl
    have hall : (es.map AV.agg).all (fun x => decide (x.cells.length = 4) && x.cells.all AV.one) = true := by
      rw [List.all_eq_true]
      intro x hx
      obtain ⟨e, he, rfl⟩ := List.mem_map.1 hx
      simp only [AV.cells, h4 e he, decide_true, Bool.true_and]
      exact List.all_eq_true.2 (h1 e he)
    have hel : elems? 4 (.vec none true (es.map AV.agg)) = some (es.map AV.agg) := by
      simp only [elems?]
      rw [if_pos hall]
    simp [c64, h0, vv, hel, flat_aggs]
    omega
end Go.Vm.Ch10
