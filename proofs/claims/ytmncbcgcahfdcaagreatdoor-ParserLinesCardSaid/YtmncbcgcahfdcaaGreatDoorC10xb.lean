/- Chapter 10: what its functions compute. -/
import Derived.Test.YtmncbcgcahfdcaaGreatDoorC10x
namespace Go.Vm.Ch10
set_option maxRecDepth 10000
set_option maxHeartbeats 4000000
/-! ### the open path of a tree in memory -/
def fieldAt (m : Mem) (q o : Nat) (v : AV) : Prop := ∃ cs, m[q]? = some (some (.cells false cs)) ∧ cs[o]? = some v
def lnC (b : Bool) (l : L0) (v : AV) : List AV := [vv none b tv l.toks, .bool l.head, v, AV.int IntKind.i64 l.at_]
def Pels (m : Mem) (lo hi : Nat) (p : List Ln) (es : List (List AV)) : Prop := ∃ (nt : Nat → Bool) (kv : Nat → AV), es = ((List.range p.length).map fun j => [vv none (nt j) tv (gi p (j : Int)).toks, .bool (gi p (j : Int)).head, kv j, AV.int IntKind.i64 (gi p (j : Int)).at_]) ∧ (∀ j, j < p.length → nt j = false → (gi p (j : Int)).toks = []) ∧ ∀ j, j < p.length → TV m lo hi (gi p (j : Int)).kids (kv j).view
/-- The line at o of object q has the lines of the chain below it. -/
def CH (m : Mem) : Nat → Nat → Chain → List AV → Prop
  | q, o, [], ps => ps = [] ∧ fieldAt m q (o + 2) (.vec none false [])
  | q, o, (p, l) :: c, ps => ∃ (i : Nat) (es : List (List AV)) (b : Bool) (x : AV) (ps' : List AV), q < i ∧ (b = false → l.toks = []) ∧ fieldAt m q (o + 2) (.orow 4 i (p.length + 1)) ∧ Pels m q i p es ∧ m[i]? = some (some (.cells false (es.flatten ++ lnC b l x))) ∧ ps = .ptr (.mem i) (p.length * 4) :: ps' ∧ CH m i (p.length * 4) c ps'
theorem fieldAt_uniq {m : Mem} {q o : Nat} {v w : AV} (h1 : fieldAt m q o v) (h2 : fieldAt m q o w) : v = w := by
  obtain ⟨cs, a1, a2⟩ := h1
  obtain ⟨ds, b1, b2⟩ := h2
  rw [a1] at b1
  simp only [Option.some.injEq, LObj.cells.injEq, true_and] at b1
  subst b1
  rw [a2] at b2
  exact Option.some.inj b2
theorem fieldAt_lt {m : Mem} {q o : Nat} {v : AV} (h1 : fieldAt m q o v) : q < m.length := by
  obtain ⟨cs, a1, a2⟩ := h1
  exact (List.getElem?_eq_some_iff.1 a1).1
theorem Pels.mono {m m' : Mem} {lo hi lo' hi' : Nat} {p : List Ln} {es : List (List AV)} (h : Pels m lo hi p es) (hlo : lo' ≤ lo) (hhi : hi ≤ hi') (hm : ∀ i, lo < i → i < hi → m'[i]? = m[i]?) : Pels m' lo' hi' p es := by
  obtain ⟨nt, kv, h1, hn, h2⟩ := h
  exact ⟨nt, kv, h1, hn, fun j hj => (h2 j hj).mono hlo hhi hm⟩
theorem Pels.len {m : Mem} {lo hi : Nat} {p : List Ln} {es : List (List AV)} (h : Pels m lo hi p es) : es.length = p.length := by
  obtain ⟨nt, kv, h1, hn, h2⟩ := h
  simp [h1]
theorem flat4 : ∀ (es : List (List AV)), (∀ e ∈ es, e.length = 4) → es.flatten.length = es.length * 4
  | [], _ => rfl
  | e :: es, h => by
    have := flat4 es fun x hx => h x (List.mem_cons_of_mem _ hx)
    have := h e (by simp)
    simp only [List.flatten_cons, List.length_append, List.length_cons]
    omega
theorem Pels.four {m : Mem} {lo hi : Nat} {p : List Ln} {es : List (List AV)} (h : Pels m lo hi p es) : es.flatten.length = p.length * 4 := by
  rw [← h.len]
  apply flat4
  obtain ⟨nt, kv, h1, hn, h2⟩ := h
  intro e he
  rw [h1] at he
  obtain ⟨j, _, rfl⟩ := List.mem_map.1 he
  rfl
theorem Pels.nil {m : Mem} {lo hi : Nat} : Pels m lo hi [] [] := ⟨fun _ => false, fun _ => .undef, rfl, fun _ h => absurd h (Nat.not_lt_zero _), fun _ h => absurd h (Nat.not_lt_zero _)⟩
theorem gi_app_lt {α : Type} [Inhabited α] {l r : List α} {j : Nat} (h : j < l.length) : gi (l ++ r) (j : Int) = gi l (j : Int) := by
  rw [gi_nat h, gi_nat (by rw [List.length_append]; omega), List.getElem_append_left h]
theorem gi_app_eq {α : Type} [Inhabited α] {l : List α} {x : α} : gi (l ++ [x]) (l.length : Int) = x := by
  rw [gi_nat (by rw [List.length_append]; simp)]
  simp
theorem Pels.snoc {m : Mem} {lo hi : Nat} {p : List Ln} {es : List (List AV)} {T : List Tk} {h : Bool} {K : List Ln} {a : Int} {b : Bool} {v : AV} (hp : Pels m lo hi p es) (hb : b = false → T = []) (hv : TV m lo hi K v.view) : Pels m lo hi (p ++ [.mk T h K a]) (es ++ [[vv none b tv T, .bool h, v, AV.int IntKind.i64 a]]) := by
  obtain ⟨nt, kv, h1, hn, h2⟩ := hp
  refine ⟨fun j => if j < p.length then nt j else b, fun j => if j < p.length then kv j else v, ?_, ?_, ?_⟩
  · rw [List.length_append, List.length_singleton, List.range_succ, List.map_append, h1]
    congr 1
    · apply List.map_congr_left
      intro j hj
      have hj : j < p.length := by simpa using hj
      simp [hj, gi_app_lt hj]
    · simp [gi_app_eq, Ln.toks, Ln.head, Ln.at_]
  · intro j hj
    rw [List.length_append, List.length_singleton] at hj
    by_cases hlt : j < p.length
    · simp only [if_pos hlt, gi_app_lt hlt]
      exact hn j hlt
    · have : j = p.length := by omega
      subst this
      simp only [if_neg hlt, gi_app_eq]
      exact hb
  · intro j hj
    rw [List.length_append, List.length_singleton] at hj
    by_cases hlt : j < p.length
    · simp only [if_pos hlt, gi_app_lt hlt]
      exact h2 j hlt
    · have : j = p.length := by omega
      subst this
      simp only [if_neg hlt, gi_app_eq]
      exact hv
theorem fieldAt_lnC {m : Mem} {i n : Nat} {F : List AV} {b : Bool} {l : L0} {x v : AV} (hm : m[i]? = some (some (.cells false (F ++ lnC b l x)))) (hF : F.length = n) (hf : fieldAt m i (n + 2) v) : x = v := by
  refine fieldAt_uniq (m := m) (q := i) (o := n + 2) ⟨_, hm, ?_⟩ hf
  rw [List.getElem?_append_right (by omega)]
  simp [hF, lnC]
theorem CH_TV {m : Mem} : ∀ (c : Chain) (q o : Nat) (ps : List AV) (v : AV), CH m q o c ps → fieldAt m q (o + 2) v → TV m q m.length (Tc c) v.view
  | [], q, o, ps, v, h, hf => by
    rw [← fieldAt_uniq h.2 hf]
    exact .nil
  | (p, l) :: c, q, o, ps, v, h, hf => by
    obtain ⟨i, es, b, x, ps', h1, hb, h2, h3, h4, h5, h6⟩ := h
    rw [← fieldAt_uniq h2 hf]
    have hi : i < m.length := (List.getElem?_eq_some_iff.1 h4).1
    have hx : fieldAt m i (p.length * 4 + 2) x := ⟨_, h4, by rw [List.getElem?_append_right (by rw [h3.four]; omega)]; simp [h3.four, lnC]⟩
    have hT := CH_TV c i (p.length * 4) ps' x h6 hx
    have hP := (h3.mono (m' := m) (Nat.le_refl _) (Nat.le_of_lt hi) fun _ _ _ => rfl).snoc (T := l.toks) (h := l.head) (a := l.at_) (b := b) hb (hT.mono (m' := m) (Nat.le_of_lt h1) (Nat.le_refl _) fun _ _ _ => rfl)
    obtain ⟨nt, kv, e1, en, e2⟩ := hP
    refine .mk _ _ nt kv (.inr ⟨i, [], ?_, h1, hi, ?_⟩) en e2
    · simp [AV.view, Tc]
    · rw [h4]
      simp only [Tc]
      rw [← e1]
      simp [lnC]
theorem pre_len : ∀ (K : List Ln) (b : Nat), K.length ≤ (pre b K).length
  | [], _ => Nat.zero_le _
  | .mk T h k a :: r, b => by
    have := pre_len r b
    simp only [pre, preN, List.length_append, List.length_cons]
    omega
/-- The last line of the open path. -/
def chH (c : Chain) : Bool := match c.getLast? with | some e => e.2.head | none => true
theorem pre_last : ∀ (c : Chain) (b : Nat), (pre b (Tc c)).getLast? = c.getLast?.map fun e => (b + c.length - 1, e.2)
  | [], b => rfl
  | (p, l) :: [], b => by simp [Tc, pre_append, pre, preN]
  | (p, l) :: e :: c, b => by
    have ih := pre_last (e :: c) (b + 1)
    obtain ⟨z, hz⟩ : ∃ z, (e :: c).getLast? = some z := ⟨_, List.getLast?_cons⟩
    rw [hz, Option.map_some] at ih
    rw [List.getLast?_cons_cons, hz, Option.map_some, Tc, pre_append, pre, preN, pre, List.append_nil, List.getLast?_append, List.getLast?_cons, ih]
    simp
    omega
theorem most_ch (c : Chain) : (mostF (pre 0 (Tc c)) : Int) = (c.length : Int) - 1 + (if chH c then 1 else 0) := by
  unfold mostF chH
  rw [pre_last]
  cases c with
  | nil => rfl
  | cons e c =>
    rw [List.getLast?_cons]
    simp
    split <;> omega
theorem insC_len (l : L0) : ∀ (d : Nat) (c : Chain), d ≤ c.length → (insC d l c).length = d + 1
  | 0, [], _ => rfl
  | 0, (p, x) :: c, _ => rfl
  | d + 1, [], h => by simp at h
  | d + 1, e :: c, h => by simp [insC, insC_len l d c (by simpa using h)]
theorem insC_H (l : L0) : ∀ (d : Nat) (c : Chain), d ≤ c.length → chH (insC d l c) = l.head
  | 0, [], _ => rfl
  | 0, (p, x) :: c, _ => rfl
  | d + 1, [], h => by simp at h
  | d + 1, e :: c, h => by
    have ih := insC_H l d c (by simpa using h)
    have hl := insC_len l d c (by simpa using h)
    simp only [insC, chH] at ih ⊢
    cases hc : insC d l c with
    | nil => rw [hc] at hl; simp at hl
    | cons x r =>
      rw [hc] at ih
      rw [List.getLast?_cons_cons]
      exact ih
theorem CH_ps {m : Mem} : ∀ (c : Chain) (q o : Nat) (ps : List AV), CH m q o c ps → ps.length = c.length
  | [], _, _, _, h => by rw [h.1]; rfl
  | (p, l) :: c, q, o, ps, h => by
    obtain ⟨i, es, b, x, ps', h1, hb, h2, h3, h4, rfl, h6⟩ := h
    simp [CH_ps c i _ ps' h6]
/-! ### a line is added -/
/-- What the machine makes of the memory when a line is added below the line at o of object q. -/
structure Upd (m m' : Mem) (q o len : Nat) (kill : Option Nat) (new : List AV) : Prop where
  u1 : ∀ j, j < q → m'[j]? = m[j]?
  u2 : ∀ cs, m[q]? = some (some (.cells false cs)) → m'[q]? = some (some (.cells false (cs.set (o + 2) (.orow 4 m.length (len + 1)))))
  u3 : ∀ j, q < j → j < m.length → some j ≠ kill → m'[j]? = m[j]?
  u4 : m'[m.length]? = some (some (.cells false new))
/-- The lines that are below a line of the open path: none, or a row. -/
def Old (m : Mem) (q : Nat) (kv : AV) (len : Nat) (kill : Option Nat) (old : List AV) : Prop :=
  (kv = .vec none false [] ∧ len = 0 ∧ kill = none ∧ old = []) ∨ ∃ i, kv = .orow 4 i len ∧ q < i ∧ kill = some i ∧ m[i]? = some (some (.cells false old)) ∧ old.length = len * 4
theorem view_Pels {m : Mem} {lo hi : Nat} {p : List Ln} {es : List (List AV)} (h : Pels m lo hi p es) : Pels m lo hi p (es.map (List.map AV.view)) := by
  obtain ⟨nt, kv, h1, hn, h2⟩ := h
  refine ⟨nt, fun j => (kv j).view, ?_, hn, fun j hj => ?_⟩
  · rw [h1, List.map_map]
    apply List.map_congr_left
    intro j _
    rfl
  · have e : (kv j).view.view = (kv j).view := by cases kv j <;> rfl
    rw [e]; exact h2 j hj
theorem CH_ins (l : L0) (b : Bool) (hb : b = false → l.toks = []) {m : Mem} : ∀ (d q o : Nat) (c : Chain) (ps : List AV), CH m q o c ps → d ≤ c.length →
    ∃ (q' o' : Nat) (kv : AV) (len : Nat) (kill : Option Nat) (old : List AV), (AV.ptr (.mem q) o :: ps)[d]? = some (.ptr (.mem q') o') ∧ q ≤ q' ∧ (q' = q → o' = o) ∧ fieldAt m q' (o' + 2) kv ∧ Old m q' kv len kill old ∧ (∀ b, len ≤ (pre b (Tc c)).length) ∧
      ∀ m', Upd m m' q' o' len kill (old.map AV.view ++ lnC b l (.vec none false [])) → CH m' q o (insC d l c) (ps.take d ++ [.ptr (.mem m.length) (len * 4)])
  | 0, q, o, [], ps, h, _ => by
    obtain ⟨rfl, h2⟩ := h
    refine ⟨q, o, .vec none false [], 0, none, [], rfl, Nat.le_refl _, fun _ => rfl, h2, .inl ⟨rfl, rfl, rfl, rfl⟩, fun _ => Nat.zero_le _, fun m' U => ?_⟩
    have hq := fieldAt_lt h2
    obtain ⟨cs, f1, f2⟩ := h2
    have ho : o + 2 < cs.length := (List.getElem?_eq_some_iff.1 f2).1
    refine ⟨m.length, [], b, .vec none false [], [], hq, hb, ⟨_, U.u2 cs f1, by simp [ho]⟩, .nil, by simpa using U.u4, rfl, rfl, ⟨_, U.u4, by simp [lnC]⟩⟩
  | 0, q, o, (p, x) :: c, ps, h, _ => by
    obtain ⟨i, es, bx, v, ps', h1, hbx, h2, h3, h4, h5, h6⟩ := h
    have hi : i < m.length := (List.getElem?_eq_some_iff.1 h4).1
    refine ⟨q, o, _, p.length + 1, some i, _, rfl, Nat.le_refl _, fun _ => rfl, h2, .inr ⟨i, rfl, h1, rfl, h4, by simp [h3.four, lnC]; omega⟩, fun b => by
      have := pre_len (p ++ [Ln.mk x.toks x.head (Tc c) x.at_]) b
      rw [List.length_append, List.length_singleton] at this
      exact this, fun m' U => ?_⟩
    have hq := fieldAt_lt h2
    obtain ⟨cs, f1, f2⟩ := h2
    have ho : o + 2 < cs.length := (List.getElem?_eq_some_iff.1 f2).1
    have hx : fieldAt m i (p.length * 4 + 2) v := ⟨_, h4, by rw [List.getElem?_append_right (by rw [h3.four]; omega)]; simp [h3.four, lnC]⟩
    have hT := CH_TV c i (p.length * 4) ps' v h6 hx
    have e : v.view.view = v.view := by cases v <;> rfl
    have hP : Pels m' q m.length (p ++ [.mk x.toks x.head (Tc c) x.at_]) (es.map (List.map AV.view) ++ [lnC bx x v.view]) :=
      ((view_Pels h3).mono (Nat.le_refl _) (Nat.le_of_lt hi) fun j hj1 hj2 => U.u3 j hj1 (by omega) (by simp; omega)).snoc (hb := hbx) (hv := by
        rw [e]
        exact hT.mono (Nat.le_of_lt h1) (Nat.le_refl _) fun j hj1 hj2 => U.u3 j (by omega) hj2 (by simp; omega))
    refine ⟨m.length, _, b, .vec none false [], [], hq, hb, ⟨_, U.u2 cs f1, by simp [ho]⟩, hP, ?_, by simp, rfl, ⟨_, U.u4, ?_⟩⟩
    · rw [U.u4]
      have e1 : (lnC bx x v).map AV.view = lnC bx x v.view := rfl
      rw [List.map_append, e1, List.map_flatten, List.flatten_append]
      simp
    · have hl := hP.four
      rw [List.flatten_append, List.length_append, List.length_append] at hl
      have hl2 : ((es.flatten ++ lnC bx x v).map AV.view).length = (p.length + 1) * 4 := by rw [List.length_map, List.length_append, h3.four]; simp [lnC]; omega
      have hl3 : (p ++ [Ln.mk x.toks x.head (Tc c) x.at_]).length * 4 + 2 = ((es.flatten ++ lnC bx x v).map AV.view).length + 2 := by rw [hl2]; simp
      rw [hl3, List.getElem?_append_right (by omega)]
      simp [lnC]
  | d + 1, q, o, [], ps, h, hd => by simp at hd
  | d + 1, q, o, (p, x) :: c, ps, h, hd => by
    obtain ⟨i, es, bx, v, ps', h1, hbx, h2, h3, h4, rfl, h6⟩ := h
    obtain ⟨q', o', kv, len, kill, old, g1, g2, g3, g4, g5, gl, g6⟩ := CH_ins l b hb d i (p.length * 4) c ps' h6 (by simpa using hd)
    refine ⟨q', o', kv, len, kill, old, by simpa using g1, by omega, by omega, g4, g5, fun b => by
      have := gl (b + 1)
      simp only [Tc, pre_append, pre, preN, List.length_append, List.length_cons]
      omega, fun m' U => ?_⟩
    have hC := g6 m' U
    obtain ⟨cs, f1, f2⟩ := h2
    by_cases hq : q' = i
    · have ho := g3 hq
      subst hq
      subst ho
      refine ⟨q', es, bx, .orow 4 m.length (len + 1), ps'.take d ++ [_], h1, hbx, ⟨cs, by rw [U.u1 q h1]; exact f1, f2⟩, h3.mono (Nat.le_refl _) (Nat.le_refl _) fun j _ hj => U.u1 j hj, ?_, by simp, hC⟩
      rw [U.u2 _ h4, List.set_append_right _ _ (by rw [h3.four]; omega)]
      simp [h3.four, lnC]
    · refine ⟨i, es, bx, v, ps'.take d ++ [_], h1, hbx, ⟨cs, by rw [U.u1 q (by omega)]; exact f1, f2⟩, h3.mono (Nat.le_refl _) (Nat.le_refl _) fun j _ hj => U.u1 j (by omega), by rw [U.u1 i (by omega)]; exact h4, by simp, hC⟩
end Go.Vm.Ch10
