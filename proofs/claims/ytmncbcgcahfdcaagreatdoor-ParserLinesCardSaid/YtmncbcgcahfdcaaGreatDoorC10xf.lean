/- Chapter 10: what its functions compute. -/
import Derived.Test.YtmncbcgcahfdcaaGreatDoorC10xe
namespace Go.Vm.Ch10
open _root_.Ch10 (T10)
set_option maxRecDepth 10000
set_option maxHeartbeats 16000000
theorem toksEq_refl (p : Bool) : ∀ T, toksEq p T T = true
  | [] => rfl
  | x :: r => by simp [toksEq, tkEq, toksEq_refl p r]
mutual
theorem eqL_refl (p : Bool) : ∀ K, eqL p K K = true
  | [] => rfl
  | x :: r => by rw [eqL, eqL_refl p r, eqN_refl p x]; rfl
theorem eqN_refl (p : Bool) : ∀ x, eqN p x x = true
  | .mk T h K a => by simp [eqN, eqL_refl p K, toksEq_refl]
end
theorem callL_ex3 {T : FuncId → Option VF} {f : FuncId} {vf : VF} {args : List AV} {m : Mem} {v : AV} (hT : T f = some vf) (hl : args.length = vf.nparams)
    (h : wp T vf.body (St.init args m) (retK vf.results fun u _ => u = v)) : ∃ m', callL T f args m = some (v, m') := by
  obtain ⟨u, m', h1, h2⟩ := callL_exP hT hl h
  exact ⟨m', by rw [h1, h2]⟩
end Go.Vm.Ch10
