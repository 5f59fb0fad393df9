/- Chapter 10: what its functions compute. -/
import Derived.Test.YtmncbcgcahfdcaaGreatDoorC10zk
namespace Go.Vm.Ch10
open _root_.Ch10 (T10 c24)
set_option maxRecDepth 10000
set_option maxHeartbeats 16000000
/-! ### well-formed trees -/
mutual
def formL : List Ln → Bool
  | [] => true
  | x :: r => formN x && formL r
def formN : Ln → Bool
  | .mk T h K _ => formP T h K && formL K
end
mutual
def crowL : List Ln → Bool
  | [] => false
  | x :: r => crowN x || crowL r
def crowN : Ln → Bool
  | .mk T h K _ => decide (64 < T.length + (if h then 1 else 0)) || crowL K
end
def pvF (x : Ln) (_ : Nat) (_ : Unit) : Bool × Unit := (formP x.toks x.head x.kids, ())
def pvC (x : Ln) (d : Nat) (_ : Unit) : Bool × Unit := (smallP x.toks x.head d, ())
mutual
theorem walkF : ∀ (K : List Ln) (d : Nat), walkS pvF K d () = (formL K, ())
  | [], d => rfl
  | x :: r, d => by
    rw [walkS, walkFN x d, formL]
    cases formN x with
    | true => simp only [Bool.true_and]; exact walkF r d
    | false => rfl
theorem walkFN : ∀ (x : Ln) (d : Nat), walkN pvF x d () = (formN x, ())
  | .mk T h K a, d => by
    rw [walkN, formN]
    simp only [pvF, Ln.toks, Ln.head, Ln.kids]
    cases formP T h K with
    | true => simp only [Bool.true_and]; exact walkF K (d + 1)
    | false => rfl
end
theorem walkS_u {pv : Ln → Nat → Unit → Bool × Unit} {x : Ln} {r : List Ln} {d : Nat} : (walkS pv (x :: r) d ()).1 = ((walkN pv x d ()).1 && (walkS pv r d ()).1) := by
  rw [walkS]
  cases walkN pv x d () with
  | mk b u => cases b <;> rfl
theorem walkN_u {pv : Ln → Nat → Unit → Bool × Unit} {T : List Tk} {h : Bool} {K : List Ln} {a : Int} {d : Nat} : (walkN pv (.mk T h K a) d ()).1 = ((pv (.mk T h K a) d ()).1 && (walkS pv K (d + 1) ()).1) := by
  rw [walkN]
  cases pv (.mk T h K a) d () with
  | mk b u => cases b <;> rfl
mutual
theorem walkC : ∀ (K : List Ln) (d : Nat), 1 ≤ d → d ≤ 8 → ((walkS pvC K d ()).1 = true ↔ crowL K = false ∧ d - 1 + dL K ≤ 7)
  | [], d, h1, h2 => by
    have e : dL [] = 0 := rfl
    rw [e]
    exact ⟨fun _ => ⟨rfl, by omega⟩, fun _ => rfl⟩
  | x :: r, d, h1, h2 => by
    have ih := walkC r d h1 h2
    have ihx := walkCN x d h1 h2
    have e : dL (x :: r) = max (dN x) (dL r) := rfl
    have e2 : crowL (x :: r) = (crowN x || crowL r) := rfl
    rw [walkS_u, Bool.and_eq_true, ih, ihx, e, e2, Bool.or_eq_false_iff]
    generalize dN x = p at *
    generalize dL r = q at *
    constructor
    · rintro ⟨⟨a1, a2⟩, a3, a4⟩
      exact ⟨⟨a1, a3⟩, by omega⟩
    · rintro ⟨⟨a1, a3⟩, a4⟩
      exact ⟨⟨a1, by omega⟩, a3, by omega⟩
theorem walkCN : ∀ (x : Ln) (d : Nat), 1 ≤ d → d ≤ 8 → ((walkN pvC x d ()).1 = true ↔ crowN x = false ∧ d - 1 + dN x ≤ 7)
  | .mk T h K a, d, h1, h2 => by
    have e : dN (.mk T h K a) = 1 + dL K := rfl
    have e2 : crowN (.mk T h K a) = (decide (64 < T.length + (if h then 1 else 0)) || crowL K) := rfl
    have e3 : (pvC (.mk T h K a) d ()).1 = (decide (T.length + (if h then 1 else 0) ≤ 64) && decide (d ≤ 7)) := rfl
    rw [walkN_u, Bool.and_eq_true, e, e2, e3, Bool.or_eq_false_iff, Bool.and_eq_true, decide_eq_true_eq, decide_eq_true_eq, decide_eq_false_iff_not]
    generalize T.length + (if h then 1 else 0) = n at *
    by_cases hd : d ≤ 7
    · have ih := walkC K (d + 1) (by omega) (by omega)
      rw [ih]
      generalize dL K = q at *
      constructor
      · rintro ⟨⟨a1, a2⟩, a3, a4⟩
        exact ⟨⟨by omega, a3⟩, by omega⟩
      · rintro ⟨⟨a1, a3⟩, a4⟩
        exact ⟨⟨by omega, hd⟩, a3, by omega⟩
    · constructor
      · rintro ⟨⟨a1, a2⟩, _⟩
        exact absurd a2 hd
      · rintro ⟨_, a4⟩
        omega
end
def codeF (K : List Ln) : Int := if formL K then (if !crowL K && decide (dL K ≤ 7) then 0 else 7) else 1
theorem q24 (K : List Ln) (v : AV) (m : Mem) (lo hi : Nat) (hs : szL K ≤ 900000) (hall : allL tkOK K = true) (hv : TV m lo hi K v) : callL T10 24 [v] m = some (AV.int IntKind.i64 (codeF K), m) := by
  have hF : callL T10 44 [v, AV.int IntKind.i64 1, .fn (.func 46) []] m = _ := q44 tkOK m lo hi (fun _ : Unit => m) (fun _ _ _ _ => rfl) 46 [] rfl pvF (fun T b h K kv a d s hT hl _ _ hk ho => q46 T b h K kv a d m hT hl hk ho) 900001 K v 1 () hall (by omega) (by omega) (by omega) hv
  have hC : callL T10 44 [v, AV.int IntKind.i64 1, .fn (.func 51) []] m = _ := q44 tkOK m lo hi (fun _ : Unit => m) (fun _ _ _ _ => rfl) 51 [] rfl pvC (fun T b h K kv a d s hT hl _ _ hk ho => q51 T b h kv a d m (by omega) ho) 900001 K v 1 () hall (by omega) (by omega) (by omega) hv
  rw [walkF] at hF
  have hw : (walkS pvC K 1 ()).1 = (!crowL K && decide (dL K ≤ 7)) := by
    have h := walkC K 1 (by omega) (by omega)
    rw [Bool.eq_iff_iff, h]
    simp
  rw [hw] at hC
  unfold codeF
  obtain ⟨⟨es, he, -⟩⟩ := hv.at
  apply callL_body (vf := c24) rfl rfl
  cases h1 : formL K with
  | false =>
    rw [h1] at hF
    simp [c24, he.view, he.nl, hF]
  | true =>
    rw [h1] at hF
    cases h2 : (!crowL K && decide (dL K ≤ 7)) with
    | false =>
      rw [h2] at hC
      simp [c24, he.view, he.nl, hF, hC]
    | true =>
      rw [h2] at hC
      simp [c24, he.view, he.nl, hF, hC]
end Go.Vm.Ch10
