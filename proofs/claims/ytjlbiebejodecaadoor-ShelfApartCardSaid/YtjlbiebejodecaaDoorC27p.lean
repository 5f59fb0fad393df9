/- Chapter 27: what its functions compute. -/
import Derived.Test.YtjlbiebejodecaaDoorC27o
namespace Go.Vm.Ch27
open _root_.Ch27 (T27 c24 c26 c52 c54 c55 c56 c72 c5)
set_option maxRecDepth 10000
set_option maxHeartbeats 8000000
def has (l : List Int) (k : Int) : Bool := l.contains k
theorem has_app (l : List Int) (p k : Int) : has (l ++ [p]) k = (has l k || (k == p)) := by
  unfold has; rw [Bool.eq_iff_iff]; simp
/-- Which indices were seen. -/
def seenB (l : List Int) (n : Nat) : List AV := (List.range n).map fun j : Nat => AV.bool (has l (j : Int))
theorem seen_len (l : List Int) (n : Nat) : (seenB l n).length = n := by simp [seenB]
theorem seen_get {l : List Int} {n : Nat} {p : Int} (hp : 0 ≤ p ∧ p < n) : (seenB l n)[p.toNat]? = some (.bool (has l p)) := by
  have : p.toNat < n := by omega
  have e : ((p.toNat : Nat) : Int) = p := by omega
  simp [seenB, this, e]
theorem seen_set {l : List Int} {n : Nat} {p : Int} (hp : 0 ≤ p ∧ p < n) : (seenB l n).set p.toNat (.bool true) = seenB (l ++ [p]) n := by
  apply List.ext_getElem?
  intro j
  rw [List.getElem?_set]
  have hlt : p.toNat < n := by omega
  by_cases hj : p.toNat = j
  · subst hj
    have e : ((p.toNat : Nat) : Int) = p := by omega
    simp [seenB, hlt, e, has_app]
  · rw [if_neg hj]
    by_cases hjn : j < n
    · have hne : ¬ (j : Int) = p := by omega
      simp [seenB, hjn, has_app, hne]
    · simp [seenB, hjn]
theorem seen_zero (n : Nat) : (flat (List.replicate n (AV.bool false))).map AV.view = seenB [] n := by
  have h1 : flat (List.replicate n (AV.bool false)) = List.replicate n (AV.bool false) := by
    unfold flat
    induction n with
    | zero => rfl
    | succ k ih => rw [List.replicate_succ, List.flatMap_cons, ih]; rfl
  rw [h1]
  apply List.ext_getElem?
  intro j
  by_cases hj : j < n <;> simp [seenB, hj, has]
/-- May an index still be taken? -/
def newB (l : List Int) (n : Nat) (k : Int) : Bool := decide (0 ≤ k ∧ k < n) && !has l k
/-- All indices are new, one after the other. -/
def useB (n : Nat) : List Int → List Int → Bool
  | _, [] => true
  | l, k :: r => newB l n k && useB n (l ++ [k]) r
abbrev smem (m : Mem) (l : List Int) (n : Nat) : Mem := m ++ [some (.cells false (seenB l n))]
theorem q52 (P : List Prt) (nn : Bool) (m : Mem) (l : List Int) (k : Int) :
    callL T27 52 [AV.int IntKind.i64 k, .vptr [pv nn P] 0, .vptr [.row (.mem m.length) 0 P.length] 0] (smem m l P.length) = some (.bool (newB l P.length k), if newB l P.length k then smem m (l ++ [k]) P.length else smem m l P.length) := by
  unfold newB
  by_cases h1 : 0 ≤ k ∧ k < P.length
  rotate_left
  · apply callL_body (vf := c52) rfl rfl
    by_cases h2 : k < 0
    · simp [c52, h1, h2]
    · have h3 : (P.length : Int) ≤ k := by omega
      simp [c52, h1, h2, h3]
  · have hg := seen_get (l := l) (n := P.length) h1
    have hs := seen_set (l := l) (n := P.length) h1
    have hl := seen_len l P.length
    have h2 : ¬ k < 0 := by omega
    have h3 : ¬ (P.length : Int) ≤ k := by omega
    have h4 : k.toNat < P.length := by omega
    have hge : ∀ h, (seenB l P.length)[k.toNat]'h = .bool (has l k) := fun h => by rw [List.getElem?_eq_getElem h] at hg; exact Option.some.inj hg
    cases hc : has l k
    · rw [hc] at hg hge
      apply callL_body (vf := c52) rfl rfl
      simp [c52, h1, h2, h3, hge, hl, hs, memO, objCells]
      omega
    · rw [hc] at hg hge
      apply callL_body (vf := c52) rfl rfl
      simp [c52, h1, h2, h3, hge, hl, memO, objCells]
theorem callL_ex {T : FuncId → Option VF} {f : FuncId} {vf : VF} {args : List AV} {m : Mem} {v : AV} (hT : T f = some vf) (hl : args.length = vf.nparams)
    (h : wp T vf.body (St.init args m) (retK vf.results fun u _ => u = v)) : ∃ m', callL T f args m = some (v, m') := by
  obtain ⟨n, e, s', h1, h2⟩ := h
  refine ⟨s'.mem, callL_body hT hl ⟨n, e, s', h1, ?_⟩⟩
  cases e with
  | normal => obtain ⟨u, hu, he⟩ := h2; exact ⟨u, hu, he, rfl⟩
  | ret => obtain ⟨u, hu, he⟩ := h2; exact ⟨u, hu, he, rfl⟩
  | exit i => exact h2
abbrev onceV (nn : Bool) (P : List Prt) (m : Mem) : AV := .fn (.func 52) [.vptr [pv nn P] 0, .vptr [.row (.mem m.length) 0 P.length] 0]
theorem q54 (P : List Prt) (nn : Bool) (m : Mem) (l : List Int) (k : Int) :
    callL T27 54 [AV.int IntKind.i64 k, .vptr [onceV nn P m] 0] (smem m l P.length) = some (.bool (!newB l P.length k), if newB l P.length k then smem m (l ++ [k]) P.length else smem m l P.length) := by
  have h52 := q52 P nn m l k
  apply callL_body (vf := c54) rfl rfl
  cases hB : newB l P.length k <;> rw [hB] at h52 <;> simp at h52 <;> simp [c54, h52]
/-- All indices were seen. -/
def fullB (l : List Int) (n : Nat) : Bool := (List.range n).all fun j : Nat => has l (j : Int)
theorem q72f (m : Mem) (l : List Int) (n : Nat) (hn : n ≤ 1000000) (hf : fullB l n = true) : callL T27 72 [.row (.mem m.length) 0 n, .bool false] (smem m l n) = some (AV.int IntKind.i64 (-1), smem m l n) := by
  apply callL_body (vf := c72) rfl rfl
  simp [c72]
  refine wp_loop (fun w s => ∃ i : Nat, w = n - i ∧ i ≤ n ∧ s.get 0 = .row (.mem m.length) 0 n ∧ s.get 1 = .bool false ∧ s.get 7 = AV.int IntKind.i64 n ∧ s.get 8 = AV.int IntKind.i64 i ∧ s.mem = smem m l n) ?_ n _ ?_
  rotate_left
  · exact ⟨0, by simp⟩
  rintro w s ⟨i, hw, hi, e0, e1, e7, e8, hm⟩
  have w1 : IntKind.wrap .i64 ((i : Int) + 1) = (i : Int) + 1 := wrap64 (by omega) (by omega)
  by_cases h : i < n
  · have hg := seen_get (l := l) (n := n) (p := (i : Int)) (by omega)
    have e : ((i : Int)).toNat = i := by omega
    rw [e] at hg
    have hl := seen_len l n
    have hge : ∀ h, (seenB l n)[i]'h = .bool (has l (i : Int)) := fun h => by rw [List.getElem?_eq_getElem h] at hg; exact Option.some.inj hg
    unfold fullB at hf
    rw [List.all_eq_true] at hf
    have hc := hf i (List.mem_range.2 h)
    rw [hc] at hg hge
    simp [e0, e1, e7, e8, hm, h, hge, hl, memO, objCells, w1]
    exact ⟨n - (i + 1), by omega, i + 1, rfl, by omega, rfl⟩
  · simp [e0, e1, e7, e8, hm, h]
theorem q72n (m : Mem) (l : List Int) (n : Nat) (hn : n ≤ 1000000) (hf : fullB l n = false) : ∃ k : Nat, callL T27 72 [.row (.mem m.length) 0 n, .bool false] (smem m l n) = some (AV.int IntKind.i64 k, smem m l n) := by
  obtain ⟨k, hk, hkf, hkb⟩ : ∃ k, k < n ∧ has l (k : Int) = false ∧ ∀ j : Nat, j < k → has l (j : Int) = true := by
    have h1 : ((List.range n).findIdx? fun j : Nat => !has l (j : Int)).isSome = true := by
      rw [Option.isSome_iff_ne_none]
      intro hnone
      rw [List.findIdx?_eq_none_iff] at hnone
      have : fullB l n = true := by
        unfold fullB; rw [List.all_eq_true]
        intro j hj; simpa using hnone j hj
      rw [hf] at this; cases this
    obtain ⟨k, hk⟩ := Option.isSome_iff_exists.1 h1
    rw [List.findIdx?_eq_some_iff_getElem] at hk
    obtain ⟨h2, h3, h4⟩ := hk
    refine ⟨k, by simpa using h2, by simpa using h3, fun j hj => by simpa using h4 j hj⟩
  refine ⟨k, ?_⟩
  apply callL_body (vf := c72) rfl rfl
  simp [c72]
  refine wp_loop (fun w s => ∃ i : Nat, w = n - i ∧ i ≤ k ∧ s.get 0 = .row (.mem m.length) 0 n ∧ s.get 1 = .bool false ∧ s.get 7 = AV.int IntKind.i64 n ∧ s.get 8 = AV.int IntKind.i64 i ∧ s.mem = smem m l n) ?_ n _ ?_
  rotate_left
  · exact ⟨0, by simp⟩
  rintro w s ⟨i, hw, hi, e0, e1, e7, e8, hm⟩
  have w1 : IntKind.wrap .i64 ((i : Int) + 1) = (i : Int) + 1 := wrap64 (by omega) (by omega)
  have h : i < n := by omega
  have hg := seen_get (l := l) (n := n) (p := (i : Int)) (by omega)
  have e : ((i : Int)).toNat = i := by omega
  rw [e] at hg
  have hl := seen_len l n
  have hge : ∀ h, (seenB l n)[i]'h = .bool (has l (i : Int)) := fun h => by rw [List.getElem?_eq_getElem h] at hg; exact Option.some.inj hg
  by_cases hik : i = k
  · subst hik
    rw [hkf] at hg hge
    simp [e0, e1, e7, e8, hm, h, hge, hl, memO, objCells]
  · rw [hkb i (by omega)] at hg hge
    simp [e0, e1, e7, e8, hm, h, hge, hl, memO, objCells, w1]
    exact ⟨n - (i + 1), by omega, i + 1, rfl, by omega, rfl⟩
theorem q55 (m : Mem) (l : List Int) (n : Nat) (hn : n ≤ 1000000) : callL T27 55 [.row (.mem m.length) 0 n, .bool false] (smem m l n) = some (.bool (!fullB l n), smem m l n) := by
  cases hf : fullB l n
  · obtain ⟨k, hk⟩ := q72n m l n hn hf
    have : (0 : Int) ≤ k := by omega
    apply callL_body (vf := c55) rfl rfl
    simp [c55, hk, this]
  · have hk := q72f m l n hn hf
    apply callL_body (vf := c55) rfl rfl
    simp [c55, hk]
end Go.Vm.Ch27
