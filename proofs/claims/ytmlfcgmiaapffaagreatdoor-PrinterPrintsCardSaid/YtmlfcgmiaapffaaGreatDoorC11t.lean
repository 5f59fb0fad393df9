/- Chapter 11: what its functions compute. -/
import Derived.Test.YtmlfcgmiaapffaaGreatDoorC11n
import Derived.Test.YtmlfcgmiaapffaaGreatDoorVI
namespace Go.Vm.Ch11
open _root_.Ch11 (T11 c18)
set_option maxRecDepth 10000
set_option maxHeartbeats 16000000
theorem one_view (v : AV) : v.view.one = v.one := by cases v <;> rfl
structure ElSl (z : Nat) (v : AV) (m : Mem) (es : List (List AV)) : Prop where
  len : lenSlV v = some (.int .i64 es.length)
  view : v.view = v
  nl : v.nl = true
  tk : ∀ s t, takeV s t v = (v, s)
  good : v.good = true
  one : v.one = true
  cells : v.cells = [v]
  adr : ∀ (i : Nat) (h : i < es.length), ∃ a, iaddrSlV z v (.int .i64 i) = some a ∧ (∀ s : St, s.mem = m → loadV (some z) s a = some (.agg es[i])) ∧ (∀ t k o, apart (.ptr (.loc t k) o) a = true ∧ apart a (.ptr (.loc t k) o) = true) ∧ a.view = a ∧ a.nl = true ∧
    ∀ k x, es[i][k]? = some x → ∃ b, faddrV k a = some b ∧ (∀ s : St, s.mem = m → loadV none s b = viewO (some x)) ∧ b.view = b ∧ b.nl = true
def SlAt (m : Mem) (lo hi : Nat) (v : AV) (es : List (List AV)) : Prop :=
  (∃ nn, v = vv none nn AV.agg es ∧ (nn = false → es = [])) ∨ ∃ i rest, v = .row (.mem i) 0 es.length ∧ lo < i ∧ i < hi ∧ m[i]? = some (some (.cells false (es.flatten ++ rest)))
theorem flatten_at {z : Nat} : ∀ {es : List (List AV)} (_ : ∀ e ∈ es, e.length = z) (i : Nat) (h : i < es.length) (rest : List AV), ((es.flatten ++ rest).drop (i * z)).take z = es[i] ∧ i * z + z ≤ (es.flatten ++ rest).length
  | e :: es, hz, 0, h, rest => by
    have h0 := hz e (by simp)
    simp [h0]
  | e :: es, hz, i + 1, h, rest => by
    have h0 := hz e (by simp)
    obtain ⟨h1, h2⟩ := flatten_at (es := es) (z := z) (fun x hx => hz x (List.mem_cons_of_mem _ hx)) i (by simpa using h) rest
    have e1 : (i + 1) * z = e.length + i * z := by rw [h0, Nat.add_mul]; omega
    constructor
    · rw [List.flatten_cons, List.append_assoc, e1, ← List.drop_drop, List.drop_left]
      simpa using h1
    · rw [List.flatten_cons, List.append_assoc, e1, List.length_append]; omega
theorem SlAt.el {m : Mem} {lo hi z : Nat} {v : AV} {es : List (List AV)} (h : SlAt m lo hi v es) (hz : ∀ e ∈ es, e.length = z) : ElSl z v m es := by
  rcases h with ⟨nn, rfl, -⟩ | ⟨b, rest, rfl, h1, h2, h3⟩
  · exact {
      len := by simp
      view := rfl
      nl := rfl
      tk := fun _ _ => rfl
      good := rfl
      one := rfl
      cells := rfl
      adr := fun i h => by
        have hl := hz es[i] (List.getElem_mem h)
        refine ⟨.vptr es[i] 0, by simp [h, gi_nat h, hl], fun s _ => by simp [hl, List.take_of_length_le], fun _ _ _ => ⟨rfl, by simp⟩, rfl, rfl, fun k x hk => ⟨.vptr es[i] (0 + k), rfl, fun s _ => by simp [hk], rfl, rfl⟩⟩ }
  · exact {
      len := by simp
      view := rfl
      nl := rfl
      tk := fun _ _ => rfl
      good := rfl
      one := rfl
      cells := rfl
      adr := fun i h => by
        have hl := hz es[i] (List.getElem_mem h)
        obtain ⟨f1, f2⟩ := flatten_at hz i h rest
        have f3 : i * z + z ≤ (es.map List.length).sum + rest.length := by simpa using f2
        have ho : ∀ s : St, s.mem = m → s.obj (.mem b) = some (.cells false (es.flatten ++ rest)) := by
          rintro s rfl
          show (match s.mem[b]? with | some o => o | none => none) = _
          rw [h3]
        refine ⟨.ptr (.mem b) (0 + i * z), by simp [h], fun s hs => ?_, fun _ _ _ => ⟨rfl, rfl⟩, rfl, rfl, fun k x hk => ⟨.ptr (.mem b) (0 + i * z + k), rfl, fun s hs => ?_, rfl, rfl⟩⟩
        · simp [ho s hs, objCells, f3, f1]
        · have hk' : (es.flatten ++ rest)[i * z + k]? = some x := by
            rw [← f1] at hk
            rw [List.getElem?_take] at hk
            split at hk
            · rw [List.getElem?_drop] at hk; exact hk
            · simp at hk
          simp [ho s hs, objCells, hk'] }
inductive Ln where
  | mk (toks : List Tk) (head : Bool) (kids : List Ln) (at_ : Int)
instance : Inhabited Ln := ⟨.mk [] false [] 0⟩
def Ln.toks : Ln → List Tk | .mk t _ _ _ => t
def Ln.head : Ln → Bool | .mk _ h _ _ => h
def Ln.kids : Ln → List Ln | .mk _ _ k _ => k
def Ln.at_ : Ln → Int | .mk _ _ _ a => a
inductive TV (m : Mem) (lo hi : Nat) : List Ln → AV → Prop where
  | mk (K : List Ln) (v : AV) (nt : Nat → Bool) (kv : Nat → AV) (h : SlAt m lo hi v ((List.range K.length).map fun j => [vv none (nt j) tv (gi K (j : Int)).toks, .bool (gi K (j : Int)).head, kv j, AV.int .i64 (gi K (j : Int)).at_])) (hnt : ∀ j, j < K.length → nt j = false → (gi K (j : Int)).toks = [])
      (hk : ∀ j, j < K.length → TV m lo hi (gi K (j : Int)).kids (kv j).view) : TV m lo hi K v
theorem TV.mono {m m' : Mem} {lo hi lo' hi' : Nat} {K : List Ln} {v : AV} (h : TV m lo hi K v) (hlo : lo' ≤ lo) (hhi : hi ≤ hi') (hm : ∀ i, lo < i → i < hi → m'[i]? = m[i]?) : TV m' lo' hi' K v := by
  induction h with
  | mk K v nt kv h hnt hk ih =>
    refine .mk K v nt kv ?_ hnt ih
    rcases h with h | ⟨i, rest, h1, h2, h3, h4⟩
    · exact .inl h
    · exact .inr ⟨i, rest, h1, by omega, by omega, by rw [hm i h2 h3]; exact h4⟩
theorem TV.nil {m : Mem} {lo hi : Nat} {nn : Bool} : TV m lo hi [] (.vec none nn []) := .mk [] _ (fun _ => false) (fun _ => .undef) (.inl ⟨nn, rfl, fun _ => rfl⟩) (fun j h => by simp at h) (fun j h => by simp at h)
mutual
def szL : List Ln → Nat
  | [] => 0
  | x :: r => szN x + szL r
def szN : Ln → Nat
  | .mk T _ K _ => 1 + T.length + szL K
end
def tkEq (p : Bool) (s t : Tk) : Bool := decide (s.k = t.k) && decide (s.t = t.t) && decide (s.n = t.n) && (!p || decide (s.a = t.a))
def toksEq (p : Bool) : List Tk → List Tk → Bool
  | [], [] => true
  | x :: r, y :: r' => tkEq p x y && toksEq p r r'
  | _, _ => false
mutual
def eqL (p : Bool) : List Ln → List Ln → Bool
  | [], [] => true
  | x :: r, y :: r' => eqN p x y && eqL p r r'
  | _, _ => false
def eqN (p : Bool) : Ln → Ln → Bool
  | .mk T h K a, .mk T' h' K' a' => decide (T.length = T'.length) && (h == h') && (!p || decide (a = a')) && eqL p K K' && toksEq p T T'
end
theorem szL_get : ∀ (K : List Ln) (j : Nat) (h : j < K.length), szN K[j] ≤ szL K
  | x :: r, 0, _ => by simp [szL]
  | x :: r, j + 1, h => by
    have := szL_get r j (by simpa using h)
    simp only [List.getElem_cons_succ, szL]; omega
theorem szL_len : ∀ (K : List Ln), K.length ≤ szL K
  | [] => Nat.le_refl _
  | .mk T h k a :: r => by
    have := szL_len r
    simp only [List.length_cons, szL, szN]; omega
structure LnAt (m : Mem) (lo hi : Nat) (v : AV) (K : List Ln) : Prop where
  sl : ∃ es, ElSl 4 v m es ∧ es.length = K.length ∧ ∀ j (h : j < es.length), ∃ nt kv, es[j] = [vv none nt tv (gi K (j : Int)).toks, .bool (gi K (j : Int)).head, kv, AV.int .i64 (gi K (j : Int)).at_] ∧ TV m lo hi (gi K (j : Int)).kids kv.view
theorem TV.at {m : Mem} {lo hi : Nat} {K : List Ln} {v : AV} (h : TV m lo hi K v) : LnAt m lo hi v K := by
  cases h with
  | mk _ _ nt kv h hnt hk =>
    refine ⟨_, h.el (z := 4) (by simp), by simp, fun j hj => ?_⟩
    have hj' : j < K.length := by simpa using hj
    exact ⟨nt j, kv j, by simp, hk j hj'⟩
end Go.Vm.Ch11
