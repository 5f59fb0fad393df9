/- The law PrinterApplies answers true whatever its arguments are, and leaves them as they were; its card is tied to the program's text. No condition. -/
import Derived.Test.YtmlfcgmiaapffaaGreatDoorRows
import Derived.Test.YtmlfcgmiaapffaaGreatDoorCards
import Derived.Test.YtmlfcgmiaapffaaGreatDoorTie
import Derived.Test.YtmlfcgmiaapffaaGreatDoorTr11
import Derived.Test.YtmlfcgmiaapffaaGreatDoorT11b
import Derived.Test.YtmlfcgmiaapffaaGreatDoorVE
import Derived.Test.YtmlfcgmiaapffaaGreatDoorVK
import Derived.Test.YtmlfcgmiaapffaaGreatDoorXok
import Derived.ProofKit
import Derived.LaidMore
import Derived.Lay
import Derived.OpenShut
import Derived.Stop.Joined
import Derived.SevenTiedAt
namespace Go.Proofs.YtmlfcgmiaapffaaGreatDoor
open Go.ChangeShapes Go.WideShapes Go.ChangeAt Go.RowKit Go.Vm
theorem printerApplies_calls : CallOK Tryz.prog (callL _root_.Ch11.T11) := Go.Vm.callL_ok fun k => sound xok (by kernel_rfl) tr_all k
theorem printerApplies_door (os : Os) (args : Array Value) : laidMetH Tryz.prog Rows.printerAppliesRow.laid ((World.laidAll Tryz.prog os Rows.printerAppliesRow.laid).forCall (fun _ _ => 0) ⟨#[], args, []⟩).memory :=
  by rw [MakeChecks.laidMetH_plain _ _ _ (by kernel_rfl)]; exact laidMet_laidAll _ (by kernel_rfl) (by kernel_rfl)
set_option maxRecDepth 100000 in
theorem printerApplies_lifted (os : Os) (started : os.Started) (H : Type) (enc : TypeId × Value → H) :
    ReturnsInHanded {} Tryz.checked os 6 .any (fun w args => (Rows.printerAppliesSpec.pre enc Tryz.prog Tryz.f6 Rows.printerAppliesRow.domain false w args ∧ laidMetH Tryz.prog Rows.printerAppliesRow.laid w) ∧ sizedMet enc Tryz.prog Tryz.f6 (OpenSpec.ofChange Rows.printerAppliesSpec) false w args)
      (Rows.printerAppliesSpec.post enc Tryz.prog Tryz.f6 false true false false) := by
  refine returnsInHanded_of_change_and (C := Tryz.checked) (X := fun w _ => laidMetH Tryz.prog Rows.printerAppliesRow.laid w) (fun _ _ _ hh h => h.of_heap hh) (by kernel_rfl) started (by kernel_rfl) Tryz.func6
    (ChangeSpec.witness_shaped (enc := enc) (C := Tryz.checked) (os := os) (X := fun w _ => laidMetH Tryz.prog Rows.printerAppliesRow.laid w) false (World.laidAll Tryz.prog os Rows.printerAppliesRow.laid) #[.slice none 0 0, .slice none 0 0] 8 (World.laidAll_os _ _ _) (World.shaped_of_ZipB (by kernel_rfl) (by kernel_rfl)) (by kernel_rfl) (by kernel_rfl) (by kernel_rfl) (printerApplies_door os _)) ?_
  intro W base args ds gs before hval hW _ _ hlm _
  exact law_contract (P := Tryz.prog) (fn := Tryz.f6) (f := 6) (C := callL _root_.Ch11.T11) (s := Rows.printerAppliesSpec) (pks := [strsS, Go.Vm.Ch11.editsS]) (bt := 4) (by kernel_rfl) printerApplies_calls rfl (by kernel_rfl) (by kernel_rfl)
    (fun H ds hl => by
      match ds, hl with
      | [d1, d2], _ => exact ⟨rfl, rfl, rfl⟩) (by kernel_rfl) (by kernel_rfl) (of_decide_eq_true (by kernel_rfl)) Go.Vm.Ch11.law6_args hval hW (globOK_mk (l := Rows.printerAppliesRow.laid) (by kernel_rfl) (by kernel_rfl) (tabs_in 1 2 (by kernel_rfl) (by kernel_rfl)) (errs_in 4 5 (errB Rows.laid_strconv_ErrRange) (errB Rows.laid_strconv_ErrSyntax) (by kernel_rfl) (by kernel_rfl)) (laidMetH_plain (by kernel_rfl) hlm))
theorem printerApplies_holds : Rows.PrinterAppliesSaid :=
  OpenClaim.holds_of_wide 6 Tryz.f6 rfl rfl rfl rfl rfl rfl rfl ⟨rfl, rfl, rfl, rfl, rfl⟩ rfl rfl rfl rfl rfl (by kernel_rfl) Tryz.func6 (by kernel_rfl)
    (of_decide_eq_true (by kernel_rfl)) (by unfold Func.isWrapper; first | (rw [if_pos (by decide +kernel)]; kernel_rfl) | (rw [if_neg (by decide +kernel)]; exact ⟨rfl, rfl⟩))
    (fun os started H enc _ => printerApplies_lifted os started H enc)
theorem printerApplies_card_holds : Rows.PrinterAppliesCardSaid :=
  Claim7.holds_tied_plain_at .later [] [.data, .data, .data, .data, .sentinel, .sentinel, .pinned] true (true, "95d35f92f5539e0eb3c6b875047a0d635a066e931ad3a39b6cb66ce3eccfbf82") true
    printerApplies_holds (fun _ h => by cases h) (by kernel_rfl) (fun _ h => by cases h) printerApplies_row_tie rfl ⟨rfl, rfl⟩ (by kernel_rfl) rfl
    (fun f fn hf hfn => by
      obtain rfl : f = 6 := Option.some.inj ((show Tryz.prog.funcNamed "gangsaw/gangsawlaw11.PrinterApplies" = some 6 by kernel_rfl).symm.trans hf) |>.symm
      obtain rfl : fn = Tryz.f6 := (Option.some.inj (Tryz.func6.symm.trans hfn)).symm
      exact ⟨by kernel_rfl, fun j t ht => by
        rw [Tryz.params6] at ht
        have hm : t ∈ [38, 49] := by simpa using Array.mem_of_getElem? ht
        have hall : ([38, 49].all fun u => !Tryz.prog.wantsStandIn u) = true := by kernel_rfl
        exact (show Tryz.prog.wantsStandIn t = false by simpa using List.all_eq_true.1 hall t hm)⟩)
    (by kernel_rfl)
#print axioms printerApplies_card_holds
end Go.Proofs.YtmlfcgmiaapffaaGreatDoor
