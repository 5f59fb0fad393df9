/- The law DryingPossible answers true whatever its arguments are, and leaves them as they were. No condition. -/
import Derived.Test.YtdodnhbegabbpaaRows
import Derived.Test.YtdodnhbegabbpaaTr51
import Derived.Test.YtdodnhbegabbpaaT51e
import Derived.ProofKit
namespace Go.Proofs.Ytdodnhbegabbpaa
open Go.ChangeShapes Go.WideShapes Go.ChangeAt Go.RowKit Go.Vm
theorem dryingPossible_calls : CallOK Try.prog (callL _root_.Ch51.T51) := Go.Vm.Ch51.callL_ok fun k => sound (by kernel_rfl) tr_all k
set_option maxRecDepth 100000 in
theorem dryingPossible_lifted (os : Os) (started : os.Started) (H : Type) (enc : TypeId × Value → H) :
    ReturnsInHanded {} Try.checked os 8 .any (Rows.dryingPossibleSpec.pre6 enc Try.prog Try.f8 Rows.dryingPossibleRow.domain false) (Rows.dryingPossibleSpec.post enc Try.prog Try.f8 false true false false) := by
  refine returnsInHanded_of_change (C := Try.checked) (by kernel_rfl) started (by kernel_rfl) Try.func8
    (ChangeSpec.witness6 (enc := enc) (C := Try.checked) false ⟨#[], #[.agg #[.slice none 0 0, .slice none 0 0], .int .i64 0, .slice none 0 0], []⟩ 8 (by kernel_rfl) (by kernel_rfl) (by kernel_rfl) (by kernel_rfl)) ?_
  intro W base args ds gs before hval hW _ _
  exact law_contract (P := Try.prog) (fn := Try.f8) (f := 8) (C := callL _root_.Ch51.T51) (s := Rows.dryingPossibleSpec) (pks := [Go.Vm.Ch51.ruleS, Go.Vm.Ch51.intS, Go.Vm.Ch51.batsS]) (bt := 4) (by kernel_rfl) dryingPossible_calls rfl (by kernel_rfl) (by kernel_rfl)
    (fun H ds hl => by
      match ds, hl with
      | [d1, d2, d3], _ => exact ⟨rfl, rfl, rfl⟩) (by kernel_rfl) (by kernel_rfl) (of_decide_eq_true (by kernel_rfl)) Go.Vm.Ch51.law8_args hval hW
theorem dryingPossible_holds : Rows.DryingPossibleSaid :=
  OpenClaim.holds_of_wide 8 Try.f8 rfl rfl rfl rfl rfl rfl rfl ⟨rfl, rfl, rfl, rfl, rfl⟩ rfl rfl rfl rfl rfl (by kernel_rfl) Try.func8 (by kernel_rfl)
    (of_decide_eq_true (by kernel_rfl)) (by unfold Func.isWrapper; first | (rw [if_pos (by decide +kernel)]; kernel_rfl) | (rw [if_neg (by decide +kernel)]; exact ⟨rfl, rfl⟩))
    (fun os started H enc _ => dryingPossible_lifted os started H enc)
#print axioms dryingPossible_holds
end Go.Proofs.Ytdodnhbegabbpaa
