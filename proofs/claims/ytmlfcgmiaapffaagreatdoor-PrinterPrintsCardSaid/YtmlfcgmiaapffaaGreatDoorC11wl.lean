/- Chapter 11: what its functions compute. -/
import Derived.Test.YtmlfcgmiaapffaaGreatDoorC11t
namespace Go.Vm.Ch11
set_option maxRecDepth 10000
mutual
def lnV : Ln → AV
  | .mk T h K a => .agg [ovn tv T, .bool h, lnsV K, AV.int .i64 a]
def lnsV : List Ln → AV
  | [] => .vec none false []
  | x :: r => .vec none true (lnV x :: lnsL r)
def lnsL : List Ln → List AV
  | [] => []
  | x :: r => lnV x :: lnsL r
end
theorem lnsL_eq : ∀ K, lnsL K = K.map lnV
  | [] => rfl
  | x :: r => by simp [lnsL, lnsL_eq r]
theorem lnsV_eq (K : List Ln) : lnsV K = ovn lnV K := by
  cases K with
  | nil => rfl
  | cons x r => simp [lnsV, lnsL_eq, ovn, vv]
theorem callL_exP {T : FuncId → Option VF} {f : FuncId} {vf : VF} {args : List AV} {m : Mem} {P : AV → Mem → Prop} (hT : T f = some vf) (hl : args.length = vf.nparams)
    (h : wp T vf.body (St.init args m) (retK vf.results P)) : ∃ v m', callL T f args m = some (v, m') ∧ P v m' := by
  obtain ⟨n, e, s', h1, h2⟩ := h
  cases e with
  | normal => obtain ⟨u, hu, he⟩ := h2; exact ⟨u, s'.mem, callL_body hT hl ⟨n, _, s', h1, u, hu, rfl, rfl⟩, he⟩
  | ret => obtain ⟨u, hu, he⟩ := h2; exact ⟨u, s'.mem, callL_body hT hl ⟨n, _, s', h1, u, hu, rfl, rfl⟩, he⟩
  | exit i => exact h2.elim
end Go.Vm.Ch11
