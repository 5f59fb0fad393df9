/- Chapter 10: what its functions compute. -/
import Derived.Test.YtmncbcgcahfdcaaGreatDoorC10t
namespace Go.Vm.Ch10
/-! ### a tree and the list of its lines with their depths -/
structure L0 where
  toks : List Tk
  head : Bool
  at_ : Int
mutual
def pre (b : Nat) : List Ln → List (Nat × L0)
  | [] => []
  | x :: r => preN b x ++ pre b r
def preN (b : Nat) : Ln → List (Nat × L0)
  | .mk T h K a => (b, ⟨T, h, a⟩) :: pre (b + 1) K
end
/-- The tree of lines with depths, as the reference makes it. -/
def treeF : Nat → Nat → List (Nat × L0) → List Ln
  | 0, _, _ => []
  | _ + 1, _, [] => []
  | f + 1, b, (d, l) :: r => if d = b then .mk l.toks l.head (treeF f (b + 1) (r.takeWhile fun x => decide (b < x.1))) l.at_ :: treeF f b r else treeF f b r
mutual
theorem pre_deep (b : Nat) : ∀ (K : List Ln), ∀ x ∈ pre b K, b ≤ x.1
  | [], x, h => by simp [pre] at h
  | y :: r, x, h => by
    rw [pre] at h
    rcases List.mem_append.1 h with h | h
    · exact preN_deep b y x h
    · exact pre_deep b r x h
theorem preN_deep (b : Nat) : ∀ (y : Ln), ∀ x ∈ preN b y, b ≤ x.1
  | .mk T h K a, x, hx => by
    rw [preN] at hx
    rcases List.mem_cons.1 hx with rfl | hx
    · exact Nat.le_refl _
    · exact Nat.le_of_succ_le (pre_deep (b + 1) K x hx)
end
theorem pre_head (b : Nat) (K : List Ln) : pre b K = [] ∨ ∃ l r, pre b K = (b, l) :: r := by
  cases K with
  | nil => exact .inl rfl
  | cons y r => obtain ⟨T, h, K, a⟩ := y; exact .inr ⟨_, _, rfl⟩
theorem take_deep (b : Nat) (K r : List Ln) : (pre (b + 1) K ++ pre b r).takeWhile (fun x => decide (b < x.1)) = pre (b + 1) K := by
  rw [List.takeWhile_append_of_pos (p := fun x : Nat × L0 => decide (b < x.1)) fun x hx => decide_eq_true (pre_deep (b + 1) K x hx)]
  rcases pre_head b r with h | ⟨l, r', h⟩
  · rw [h]; simp
  · rw [h]; simp
theorem tree_skip {b : Nat} : ∀ (X Y : List (Nat × L0)) (f : Nat), (∀ x ∈ X, b < x.1) → treeF (f + X.length) b (X ++ Y) = treeF f b Y
  | [], Y, f, _ => rfl
  | (d, l) :: X, Y, f, h => by
    have hd : b < d := h (d, l) (by simp)
    have e : f + ((d, l) :: X).length = (f + X.length) + 1 := by simp; omega
    rw [e, List.cons_append, treeF, if_neg (by omega)]
    exact tree_skip X Y f fun x hx => h x (by simp [hx])
theorem tree_fuel : ∀ (f g b : Nat) (X : List (Nat × L0)), X.length ≤ f → X.length ≤ g → treeF f b X = treeF g b X
  | f, g, b, [], _, _ => by cases f <;> cases g <;> rfl
  | 0, _, _, _ :: _, h, _ => by simp at h
  | _ + 1, 0, _, _ :: _, _, h => by simp at h
  | f + 1, g + 1, b, (d, l) :: r, hf, hg => by
    simp only [List.length_cons] at hf hg
    have ht : (r.takeWhile fun x => decide (b < x.1)).length ≤ r.length := (List.takeWhile_prefix _).length_le
    simp only [treeF]
    rw [tree_fuel f g (b + 1) _ (by omega) (by omega), tree_fuel f g b r (by omega) (by omega)]
mutual
theorem tree_pre (b : Nat) : ∀ (K : List Ln) (f : Nat), (pre b K).length ≤ f → treeF f b (pre b K) = K
  | [], f, _ => by cases f <;> rfl
  | .mk T h K a :: r, f, hf => by
    simp only [pre, preN, List.cons_append, List.length_cons, List.length_append] at hf ⊢
    obtain ⟨f, rfl⟩ : ∃ g, f = g + 1 := ⟨f - 1, by omega⟩
    simp only [treeF, if_true, take_deep]
    rw [tree_pre (b + 1) K f (by omega)]
    have e : treeF f b (pre (b + 1) K ++ pre b r) = r := by
      have h1 := tree_skip (b := b) (pre (b + 1) K) (pre b r) (f - (pre (b + 1) K).length) (fun x hx => pre_deep (b + 1) K x hx)
      have h2 : f - (pre (b + 1) K).length + (pre (b + 1) K).length = f := by omega
      rw [h2] at h1
      rw [h1]
      exact tree_pre b r _ (by omega)
    rw [e]
end
/-! ### the open path of a tree that is being made -/
abbrev Chain := List (List Ln × L0)
def Tc : Chain → List Ln
  | [] => []
  | (p, l) :: c => p ++ [.mk l.toks l.head (Tc c) l.at_]
def insC : Nat → L0 → Chain → Chain
  | 0, l, [] => [([], l)]
  | 0, l, (p, x) :: c => [(p ++ [.mk x.toks x.head (Tc c) x.at_], l)]
  | _ + 1, l, [] => [([], l)]
  | d + 1, l, e :: c => e :: insC d l c
theorem pre_append (b : Nat) : ∀ X Y : List Ln, pre b (X ++ Y) = pre b X ++ pre b Y
  | [], Y => rfl
  | x :: X, Y => by simp only [List.cons_append, pre, pre_append b X Y, List.append_assoc]
theorem pre_ins (l : L0) : ∀ (d b : Nat) (c : Chain), d ≤ c.length → pre b (Tc (insC d l c)) = pre b (Tc c) ++ [(b + d, l)]
  | 0, b, [], _ => rfl
  | 0, b, (p, x) :: c, _ => by simp [insC, Tc, pre_append, pre, preN]
  | d + 1, b, [], h => by simp at h
  | d + 1, b, (p, x) :: c, h => by
    have ih := pre_ins l d (b + 1) c (by simpa using h)
    simp only [insC, Tc, pre_append, pre, preN, ih, List.append_nil, List.append_assoc, List.cons_append]
    simp
    omega
end Go.Vm.Ch10
