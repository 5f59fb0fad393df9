/- The law PrinterPrints answers true whatever its arguments are, and leaves them as they were; its card is tied to the program's text. No condition. -/
import Derived.Test.YtmlfcgmiaapffaaGreatDoorRows
import Derived.Test.YtmlfcgmiaapffaaGreatDoorCards
import Derived.Test.YtmlfcgmiaapffaaGreatDoorTie
import Derived.Test.YtmlfcgmiaapffaaGreatDoorTr11
import Derived.Test.YtmlfcgmiaapffaaGreatDoorT11c
import Derived.Test.YtmlfcgmiaapffaaGreatDoorVE
import Derived.Test.YtmlfcgmiaapffaaGreatDoorVK
import Derived.Test.YtmlfcgmiaapffaaGreatDoorXok
import Derived.ProofKit
import Derived.LaidMore
import Derived.Lay
import Derived.OpenShut
import Derived.Stop.Joined
import Derived.SevenTiedAt
namespace Go.Proofs.YtmlfcgmiaapffaaGreatDoor
open Go.ChangeShapes Go.WideShapes Go.ChangeAt Go.RowKit Go.Vm
theorem ty11 : Go.Vm.Ch11.Ty11 Tryz.prog := ⟨Tryz.underlying2, Tryz.underlying3, Tryz.underlying4, Tryz.underlying9, Tryz.underlying38, Tryz.underlying22, Tryz.underlying70, ⟨_, Tryz.underlying72, rfl⟩, ⟨_, Tryz.underlying36, rfl⟩⟩
theorem printerPrints_calls : CallOK Tryz.prog (callL _root_.Ch11.T11) := Go.Vm.callL_ok fun k => sound xok (by kernel_rfl) tr_all k
theorem printerPrints_door (os : Os) (args : Array Value) : laidMetH Tryz.prog Rows.printerPrintsRow.laid ((World.laidAll Tryz.prog os Rows.printerPrintsRow.laid).forCall (fun _ _ => 0) ⟨#[], args, []⟩).memory :=
  by rw [MakeChecks.laidMetH_plain _ _ _ (by kernel_rfl)]; exact laidMet_laidAll _ (by kernel_rfl) (by kernel_rfl)
set_option maxRecDepth 100000 in
theorem printerPrints_lifted (os : Os) (started : os.Started) (H : Type) (enc : TypeId × Value → H) :
    ReturnsInHanded {} Tryz.checked os 3 .any (fun w args => (Rows.printerPrintsSpec.pre enc Tryz.prog Tryz.f3 Rows.printerPrintsRow.domain false w args ∧ laidMetH Tryz.prog Rows.printerPrintsRow.laid w) ∧ sizedMet enc Tryz.prog Tryz.f3 (OpenSpec.ofChange Rows.printerPrintsSpec) false w args)
      (Rows.printerPrintsSpec.post enc Tryz.prog Tryz.f3 false true false false) := by
  refine returnsInHanded_of_change_and (C := Tryz.checked) (X := fun w _ => laidMetH Tryz.prog Rows.printerPrintsRow.laid w) (fun _ _ _ hh h => h.of_heap hh) (by kernel_rfl) started (by kernel_rfl) Tryz.func3
    (ChangeSpec.witness_shaped (enc := enc) (C := Tryz.checked) (os := os) (X := fun w _ => laidMetH Tryz.prog Rows.printerPrintsRow.laid w) false (World.laidAll Tryz.prog os Rows.printerPrintsRow.laid) #[.slice none 0 0] 8 (World.laidAll_os _ _ _) (World.shaped_of_ZipB (by kernel_rfl) (by kernel_rfl)) (by kernel_rfl) (by kernel_rfl) (by kernel_rfl) (printerPrints_door os _)) ?_
  intro W base args ds gs before hval hW _ _ hlm _
  exact law_contract_deep (P := Tryz.prog) (fn := Tryz.f3) (f := 3) (C := callL _root_.Ch11.T11) (s := Rows.printerPrintsSpec) (np := 1) (bt := 4) [2, 3, 4, 9, 22, 36, 38, 70, 72] (by kernel_rfl) printerPrints_calls rfl (by kernel_rfl) (by kernel_rfl)
    (fun H ds hl => by
      match ds, hl with
      | [d1], _ => exact ⟨rfl, rfl, rfl⟩) (by kernel_rfl) (by kernel_rfl) (by kernel_rfl) (of_decide_eq_true (by kernel_rfl)) (by rw [Tryz.params3]; exact Go.Vm.Ch11.law3_args ty11) hval hW (globOK_mk (l := Rows.printerPrintsRow.laid) (by kernel_rfl) (by kernel_rfl) (tabs_in 1 2 (by kernel_rfl) (by kernel_rfl)) (errs_in 4 5 (errB Rows.laid_strconv_ErrRange) (errB Rows.laid_strconv_ErrSyntax) (by kernel_rfl) (by kernel_rfl)) (laidMetH_plain (by kernel_rfl) hlm))
theorem printerPrints_holds : Rows.PrinterPrintsSaid :=
  OpenClaim.holds_of_wide 3 Tryz.f3 rfl rfl rfl rfl rfl rfl rfl ⟨rfl, rfl, rfl, rfl, rfl⟩ rfl rfl rfl rfl rfl (by kernel_rfl) Tryz.func3 (by kernel_rfl)
    (of_decide_eq_true (by kernel_rfl)) (by unfold Func.isWrapper; first | (rw [if_pos (by decide +kernel)]; kernel_rfl) | (rw [if_neg (by decide +kernel)]; exact ⟨rfl, rfl⟩))
    (fun os started H enc _ => printerPrints_lifted os started H enc)
theorem printerPrints_card_holds : Rows.PrinterPrintsCardSaid :=
  Claim7.holds_tied_plain_at .later [] [.data, .data, .data, .data, .sentinel, .sentinel, .pinned] true (true, "95d35f92f5539e0eb3c6b875047a0d635a066e931ad3a39b6cb66ce3eccfbf82") true
    printerPrints_holds (fun _ h => by cases h) (by kernel_rfl) (fun _ h => by cases h) printerPrints_row_tie rfl ⟨rfl, rfl⟩ (by kernel_rfl) rfl
    (fun f fn hf hfn => by
      obtain rfl : f = 3 := Option.some.inj ((show Tryz.prog.funcNamed "gangsaw/gangsawlaw11.PrinterPrints" = some 3 by kernel_rfl).symm.trans hf) |>.symm
      obtain rfl : fn = Tryz.f3 := (Option.some.inj (Tryz.func3.symm.trans hfn)).symm
      exact ⟨by kernel_rfl, fun j t ht => by
        rw [Tryz.params3] at ht
        have hm : t ∈ [22] := by simpa using Array.mem_of_getElem? ht
        have hall : ([22].all fun u => !Tryz.prog.wantsStandIn u) = true := by kernel_rfl
        exact (show Tryz.prog.wantsStandIn t = false by simpa using List.all_eq_true.1 hall t hm)⟩)
    (by kernel_rfl)
#print axioms printerPrints_card_holds
end Go.Proofs.YtmlfcgmiaapffaaGreatDoor
