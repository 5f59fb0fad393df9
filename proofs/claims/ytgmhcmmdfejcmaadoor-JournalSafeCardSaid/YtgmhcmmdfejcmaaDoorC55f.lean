/- Chapter 55: what its functions compute. -/
import Derived.Test.YtgmhcmmdfejcmaaDoorC55e
namespace Go.Vm.Ch55
open _root_.Ch55 (T55 c47 c25 c48 c30)
set_option maxRecDepth 10000
set_option maxHeartbeats 8000000
section
variable {β : Type}
@[simp] theorem ap_get0 {m l : List β} {a : β} : (m ++ a :: l)[m.length]? = some a := by simp
@[simp] theorem ap_get {m l : List β} {k : Nat} : (m ++ l)[m.length + k]? = l[k]? := by rw [List.getElem?_append_right (by omega)]; congr 1; omega
@[simp] theorem ap_set0 {m l : List β} {a v : β} : (m ++ a :: l).set m.length v = m ++ v :: l := by rw [List.set_append_right _ _ (Nat.le_refl _)]; simp
@[simp] theorem ap_set {m l : List β} {k : Nat} {v : β} : (m ++ l).set (m.length + k) v = m ++ l.set k v := by rw [List.set_append_right _ _ (by omega)]; congr 2; omega
end
abbrev cel (v : AV) : Option LObj := some (.cells false [v])
def scM (m : Mem) (P : List (List UInt8)) (z : Nat) (h : List UInt8) : Mem := m ++ [cel (ov 1 AV.str P), cel (AV.int IntKind.i64 z), cel (.str h)]
theorem q47 (m : Mem) (P : List (List UInt8)) (hP : P.length ≤ 1000000) (z : Nat) (h0 r : List UInt8) (u : Nat) (h : List UInt8) :
    callL T55 47 [.str r, AV.int IntKind.i64 u, .str h, .ptr (.mem m.length) 0, .ptr (.mem (m.length + 1)) 0, .ptr (.mem (m.length + 2)) 0] (scM m P z h0) = some (.bool true, scM m (P ++ [r]) u h) := by
  unfold scM
  apply callL_body (vf := c47) rfl rfl
  simp [c47, objCells, ov_snoc]
  omega
def uAt (L : List Stp) (k : Nat) : Nat := ((L.take k).getLast?.map (·.u)).getD 0
def hAt (L : List Stp) (k : Nat) : List UInt8 := ((L.take k).getLast?.map (·.h)).getD zero16
theorem last_take {L : List Stp} {k : Nat} (h : k < L.length) : (L.take (k + 1)).getLast? = some L[k] := by
  rw [List.take_succ_eq_append_getElem h, List.getLast?_append]; simp
def recs (L : List Stp) : List (List UInt8) := L.map (·.r)
theorem recs_take {L : List Stp} {k : Nat} {x : Stp} (h : L[k]? = some x) : recs (L.take (k + 1)) = recs (L.take k) ++ [x.r] := by
  obtain ⟨h1, rfl⟩ := List.getElem?_eq_some_iff.1 h
  rw [List.take_succ_eq_append_getElem h1]; unfold recs; rw [List.map_append]; rfl
theorem at_take {L : List Stp} {k : Nat} {x : Stp} (h : L[k]? = some x) : uAt L (k + 1) = x.u ∧ hAt L (k + 1) = x.h := by
  obtain ⟨h1, rfl⟩ := List.getElem?_eq_some_iff.1 h
  simp [uAt, hAt, last_take h1]
theorem scanL_small : ∀ (f : Nat) (b : List UInt8) (u : Nat) (h : List UInt8), 20 * (scanL f b u h).length ≤ b.length
  | 0, b, u, h => by simp [scanL]
  | f + 1, b, u, h => by
    rw [scanL]
    split
    · simp
    · split
      · simp
      · split
        · rename_i h1 h2 h3
          have := scanL_small f (b.drop (frm h (recF b)).length) (u + (frm h (recF b)).length) (nxt h (recF b))
          have hl := congrArg List.length h3
          have hf := frm_len h (recF b)
          simp only [List.length_take] at hl
          simp only [List.length_drop] at this
          simp only [List.length_cons]
          omega
        · simp
theorem scanA_small (d : List UInt8) : 20 * (scanA d).length ≤ d.length := scanL_small _ _ _ _
def used (d : List UInt8) : Nat := uAt (scanA d) (scanA d).length
def hed (d : List UInt8) : List UInt8 := hAt (scanA d) (scanA d).length
theorem q25 (d : List UInt8) (hd : d.length ≤ 100000) (m : Mem) : callL T55 25 [.str d] m = some (.tup [sv (!(recs (scanA d)).isEmpty) (recs (scanA d)), AV.int IntKind.i64 (used d), .str (hed d)], scM m (recs (scanA d)) (used d) (hed d)) := by
  have h45 := q45 []
  have hs := scanA_small d
  have key := q46 d hd 47 [.ptr (.mem m.length) 0, .ptr (.mem (m.length + 1)) 0, .ptr (.mem (m.length + 2)) 0] (scanA d).length
    (fun k => scM m (recs ((scanA d).take k)) (uAt (scanA d) k) (hAt (scanA d) k)) (fun _ => true) (Nat.le_refl _) (fun k x hk hx => by
      have h1 := q47 m (recs ((scanA d).take k)) (by simp [recs]; omega) (uAt (scanA d) k) (hAt (scanA d) k) x.r x.u x.h
      have h2 := at_take hx
      simp only [recs_take hx, h2.1, h2.2]
      exact h1) (fun _ _ => rfl) (.inl rfl)
  simp only [List.take_length] at key
  unfold used hed
  generalize scanA d = L at *
  have e0 : scM m (recs (L.take 0)) (uAt L 0) (hAt L 0) = m ++ [cel (.vec none false []), cel (AV.int IntKind.i64 0), cel (.str zero16)] := by simp [scM, recs, uAt, hAt, ov]
  rw [e0] at key
  unfold scM at key ⊢
  generalize recs L = P at *
  generalize uAt L L.length = U at *
  generalize hAt L L.length = H at *
  apply callL_body (vf := c25) rfl rfl
  have two : m.length + 1 + 1 = m.length + 2 := rfl
  simp [c25, h45, objCells, two, key]
theorem stop_at (p : Nat → Bool) : ∀ n, ∃ e, e ≤ n ∧ (∀ k, k + 1 < e → p (k + 1) = false) ∧ (e = n ∨ (0 < e ∧ p e = true))
  | 0 => ⟨0, Nat.le_refl _, fun _ h => by omega, .inl rfl⟩
  | n + 1 => by
    obtain ⟨e, h1, h2, h3⟩ := stop_at p n
    rcases h3 with h3 | h3
    · by_cases hp : 0 < n ∧ p n = true
      · exact ⟨e, by omega, h2, .inr (by rw [h3]; exact hp)⟩
      · refine ⟨n + 1, Nat.le_refl _, fun k hk => ?_, .inl rfl⟩
        by_cases hk2 : k + 1 < n
        · exact h2 k (by omega)
        · have : k + 1 = n := by omega
          rw [this]
          cases hq : p n with
          | false => rfl
          | true => exact absurd ⟨by omega, hq⟩ hp
    · exact ⟨e, by omega, h2, .inr h3⟩
/-- Is it the head of the empty chain or one of the first k? -/
def fnd (L : List Stp) (w : List UInt8) (k : Nat) : Bool := decide (w = zero16 ∨ ∃ x ∈ L.take k, x.h = w)
theorem fnd_succ {L : List Stp} {w : List UInt8} {k : Nat} {x : Stp} (h : L[k]? = some x) : fnd L w (k + 1) = (fnd L w k || decide (x.h = w)) := by
  obtain ⟨h1, rfl⟩ := List.getElem?_eq_some_iff.1 h
  unfold fnd
  rw [List.take_succ_eq_append_getElem h1, Bool.eq_iff_iff]
  simp only [List.mem_append, List.mem_singleton, decide_eq_true_eq, Bool.or_eq_true]
  constructor
  · rintro (h | ⟨x, h | h, h2⟩)
    · exact .inl (.inl h)
    · exact .inl (.inr ⟨x, h, h2⟩)
    · subst h; exact .inr h2
  · rintro ((h | ⟨x, h, h2⟩) | h)
    · exact .inl h
    · exact .inr ⟨x, .inl h, h2⟩
    · exact .inr ⟨_, .inr rfl, h⟩
theorem fnd_mono {L : List Stp} {w : List UInt8} {k n : Nat} (hk : k ≤ n) (h : fnd L w k = true) : fnd L w n = true := by
  unfold fnd at *
  simp only [decide_eq_true_eq] at *
  rcases h with h | ⟨x, h, h2⟩
  · exact .inl h
  · exact .inr ⟨x, (List.take_subset_take_left L hk) h, h2⟩
def ext (d w : List UInt8) : Bool := fnd (scanA d) w (scanA d).length
theorem q48 (m : Mem) (f : Bool) (w r : List UInt8) (u : Int) (h : List UInt8) :
    callL T55 48 [.str r, AV.int IntKind.i64 u, .str h, .ptr (.mem m.length) 0, .vptr [.str w] 0] (m ++ [cel (.bool f)]) = some (.bool (!(f || decide (h = w))), m ++ [cel (.bool (f || decide (h = w)))]) := by
  apply callL_body (vf := c48) rfl rfl
  cases f
  · by_cases hw : h = w <;> simp [c48, objCells, hw]
  · simp [c48, objCells]
theorem q30 (d w : List UInt8) (hd : d.length ≤ 100000) (m : Mem) : callL T55 30 [.str d, .str w] m = some (.bool (ext d w), m ++ [cel (.bool (ext d w))]) := by
  have h45 := q45 []
  obtain ⟨e, e1, e2, e3⟩ := stop_at (fnd (scanA d) w) (scanA d).length
  have hfe : fnd (scanA d) w e = ext d w := by
    rcases e3 with e3 | ⟨_, e3⟩
    · rw [e3]; rfl
    · rw [e3]; exact (fnd_mono e1 e3).symm
  have key := q46 d hd 48 [.ptr (.mem m.length) 0, .vptr [.str w] 0] e (fun k => m ++ [cel (.bool (fnd (scanA d) w k))]) (fun k => !fnd (scanA d) w (k + 1)) e1
    (fun k x hk hx => by
      have h1 := q48 m (fnd (scanA d) w k) w x.r x.u x.h
      simp only [fnd_succ hx]
      exact h1) (fun k hk => by simp [e2 k hk]) (e3.imp id fun ⟨h1, h2⟩ => ⟨h1, by
        have : e - 1 + 1 = e := by omega
        simp [this, h2]⟩)
  rw [hfe] at key
  have e0 : fnd (scanA d) w 0 = (w == zero16) := by unfold fnd; rw [Bool.eq_iff_iff]; simp
  rw [e0] at key
  generalize ext d w = X at *
  apply callL_body (vf := c30) rfl rfl
  simp [c30, h45, objCells, key]
end Go.Vm.Ch55
