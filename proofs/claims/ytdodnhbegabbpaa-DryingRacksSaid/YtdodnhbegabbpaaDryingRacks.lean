/- The law DryingRacks answers true whatever its arguments are, and leaves them as they were. No condition. -/
import Derived.Test.YtdodnhbegabbpaaRows
import Derived.Test.YtdodnhbegabbpaaTr51
import Derived.Test.YtdodnhbegabbpaaT51h
import Derived.ProofKit
import Derived.SizedLaws
namespace Go.Proofs.Ytdodnhbegabbpaa
open Go.ChangeShapes Go.WideShapes Go.ChangeAt Go.RowKit Go.Vm
theorem dryingRacks_calls : CallOK Try.prog (callL _root_.Ch51.T51) := Go.Vm.Ch51.callL_ok fun k => sound (by kernel_rfl) tr_all k
set_option maxRecDepth 100000 in
theorem dryingRacks_lifted (os : Os) (started : os.Started) (H : Type) (enc : TypeId × Value → H) :
    ReturnsInHanded {} Try.checked os 4 .any (Rows.dryingRacksSpec.pre6 enc Try.prog Try.f4 Rows.dryingRacksRow.domain false) (Rows.dryingRacksSpec.post enc Try.prog Try.f4 false true false false) := by
  refine returnsInHanded_of_change_sized (C := Try.checked) (by kernel_rfl) started (by kernel_rfl) Try.func4
    (ChangeSpec.witness6 (enc := enc) (C := Try.checked) false ⟨#[], #[.agg #[.slice none 0 0, .slice none 0 0], .int .i64 0, .slice none 0 0], []⟩ 8 (by kernel_rfl) (by kernel_rfl) (by kernel_rfl) (by kernel_rfl)) ?_
  intro W base args ds gs before hval hW _ hwt _
  exact law_contract_sized (P := Try.prog) (fn := Try.f4) (f := 4) (C := callL _root_.Ch51.T51) (s := Rows.dryingRacksSpec) (pks := [Go.Vm.Ch51.ruleS, Go.Vm.Ch51.intS, Go.Vm.Ch51.batsS]) (bt := 4) (by kernel_rfl) dryingRacks_calls rfl (by kernel_rfl) (by kernel_rfl)
    (fun H ds hl => by
      match ds, hl with
      | [d1, d2, d3], _ => exact ⟨rfl, rfl, rfl⟩) (by kernel_rfl) (by kernel_rfl) (of_decide_eq_true (by kernel_rfl)) (fun av h hz => Go.Vm.Ch51.law4_args av h fun o nn xs hx => by
      have := hz 2 43 69 o nn xs (by kernel_rfl) (by kernel_rfl) hx
      have e : Try.prog.bytesOf 69 = 32 := by kernel_rfl
      rw [e] at this; exact this) hval hW hwt
theorem dryingRacks_holds : Rows.DryingRacksSaid :=
  OpenClaim.holds_of_wide 4 Try.f4 rfl rfl rfl rfl rfl rfl rfl ⟨rfl, rfl, rfl, rfl, rfl⟩ rfl rfl rfl rfl rfl (by kernel_rfl) Try.func4 (by kernel_rfl)
    (of_decide_eq_true (by kernel_rfl)) (by unfold Func.isWrapper; first | (rw [if_pos (by decide +kernel)]; kernel_rfl) | (rw [if_neg (by decide +kernel)]; exact ⟨rfl, rfl⟩))
    (fun os started H enc _ => dryingRacks_lifted os started H enc)
#print axioms dryingRacks_holds
end Go.Proofs.Ytdodnhbegabbpaa
