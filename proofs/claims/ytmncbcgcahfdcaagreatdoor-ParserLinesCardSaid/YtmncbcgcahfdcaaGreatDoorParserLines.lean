/- The law ParserLines answers true whatever its arguments are, and leaves them as they were; its card is tied to the program's text. No condition. -/
import Derived.Test.YtmncbcgcahfdcaaGreatDoorRows
import Derived.Test.YtmncbcgcahfdcaaGreatDoorCards
import Derived.Test.YtmncbcgcahfdcaaGreatDoorTie
import Derived.Test.YtmncbcgcahfdcaaGreatDoorTr10
import Derived.Test.YtmncbcgcahfdcaaGreatDoorT10c
import Derived.Test.YtmncbcgcahfdcaaGreatDoorVE
import Derived.Test.YtmncbcgcahfdcaaGreatDoorVK
import Derived.Test.YtmncbcgcahfdcaaGreatDoorXok
import Derived.ProofKit
import Derived.LaidMore
import Derived.Lay
import Derived.OpenShut
import Derived.Stop.Joined
import Derived.SevenTiedAt
namespace Go.Proofs.YtmncbcgcahfdcaaGreatDoor
open Go.ChangeShapes Go.WideShapes Go.ChangeAt Go.RowKit Go.Vm
theorem parserLines_calls : CallOK Tryz.prog (callL _root_.Ch10.T10) := Go.Vm.callL_ok fun k => sound xok (by kernel_rfl) tr_all k
theorem parserLines_door (os : Os) (args : Array Value) : laidMetH Tryz.prog Rows.parserLinesRow.laid ((World.laidAll Tryz.prog os Rows.parserLinesRow.laid).forCall (fun _ _ => 0) ⟨#[], args, []⟩).memory :=
  by rw [MakeChecks.laidMetH_plain _ _ _ (by kernel_rfl)]; exact laidMet_laidAll _ (by kernel_rfl) (by kernel_rfl)
set_option maxRecDepth 100000 in
theorem parserLines_lifted (os : Os) (started : os.Started) (H : Type) (enc : TypeId × Value → H) :
    ReturnsInHanded {} Tryz.checked os 5 .any (fun w args => (Rows.parserLinesSpec.pre enc Tryz.prog Tryz.f5 Rows.parserLinesRow.domain false w args ∧ laidMetH Tryz.prog Rows.parserLinesRow.laid w) ∧ sizedMet enc Tryz.prog Tryz.f5 (OpenSpec.ofChange Rows.parserLinesSpec) false w args)
      (Rows.parserLinesSpec.post enc Tryz.prog Tryz.f5 false true false false) := by
  refine returnsInHanded_of_change_and (C := Tryz.checked) (X := fun w _ => laidMetH Tryz.prog Rows.parserLinesRow.laid w) (fun _ _ _ hh h => h.of_heap hh) (by kernel_rfl) started (by kernel_rfl) Tryz.func5
    (ChangeSpec.witness_shaped (enc := enc) (C := Tryz.checked) (os := os) (X := fun w _ => laidMetH Tryz.prog Rows.parserLinesRow.laid w) false (World.laidAll Tryz.prog os Rows.parserLinesRow.laid) #[.string ⟨#[]⟩] 8 (World.laidAll_os _ _ _) (World.shaped_of_ZipB (by kernel_rfl) (by kernel_rfl)) (by kernel_rfl) (by kernel_rfl) (by kernel_rfl) (parserLines_door os _)) ?_
  intro W base args ds gs before hval hW _ _ hlm _
  exact law_contract (P := Tryz.prog) (fn := Tryz.f5) (f := 5) (C := callL _root_.Ch10.T10) (s := Rows.parserLinesSpec) (pks := [strS]) (bt := 4) (by kernel_rfl) parserLines_calls rfl (by kernel_rfl) (by kernel_rfl)
    (fun H ds hl => by
      match ds, hl with
      | [d1], _ => exact ⟨rfl, rfl, rfl⟩) (by kernel_rfl) (by kernel_rfl) (of_decide_eq_true (by kernel_rfl)) Go.Vm.Ch10.law5_args hval hW (globOK_mk (l := Rows.parserLinesRow.laid) (by kernel_rfl) (by kernel_rfl) (tabs_in 1 2 (by kernel_rfl) (by kernel_rfl)) (errs_in 4 5 (errB Rows.laid_strconv_ErrRange) (errB Rows.laid_strconv_ErrSyntax) (by kernel_rfl) (by kernel_rfl)) (laidMetH_plain (by kernel_rfl) hlm))
theorem parserLines_holds : Rows.ParserLinesSaid :=
  OpenClaim.holds_of_wide 5 Tryz.f5 rfl rfl rfl rfl rfl rfl rfl ⟨rfl, rfl, rfl, rfl, rfl⟩ rfl rfl rfl rfl rfl (by kernel_rfl) Tryz.func5 (by kernel_rfl)
    (of_decide_eq_true (by kernel_rfl)) (by unfold Func.isWrapper; first | (rw [if_pos (by decide +kernel)]; kernel_rfl) | (rw [if_neg (by decide +kernel)]; exact ⟨rfl, rfl⟩))
    (fun os started H enc _ => parserLines_lifted os started H enc)
theorem parserLines_card_holds : Rows.ParserLinesCardSaid :=
  Claim7.holds_tied_plain_at .later [] [.data, .data, .data, .data, .sentinel, .sentinel, .pinned] true (true, "b696f982a35b46a3e2af65e84384244ab4fda4bcfd7619372976b05a7d0990f3") true
    parserLines_holds (fun _ h => by cases h) (by kernel_rfl) (fun _ h => by cases h) parserLines_row_tie rfl ⟨rfl, rfl⟩ (by kernel_rfl) rfl
    (fun f fn hf hfn => by
      obtain rfl : f = 5 := Option.some.inj ((show Tryz.prog.funcNamed "gangsaw/gangsawlaw10.ParserLines" = some 5 by kernel_rfl).symm.trans hf) |>.symm
      obtain rfl : fn = Tryz.f5 := (Option.some.inj (Tryz.func5.symm.trans hfn)).symm
      exact ⟨by kernel_rfl, fun j t ht => by
        rw [Tryz.params5] at ht
        have hm : t ∈ [9] := by simpa using Array.mem_of_getElem? ht
        have hall : ([9].all fun u => !Tryz.prog.wantsStandIn u) = true := by kernel_rfl
        exact (show Tryz.prog.wantsStandIn t = false by simpa using List.all_eq_true.1 hall t hm)⟩)
    (by kernel_rfl)
#print axioms parserLines_card_holds
end Go.Proofs.YtmncbcgcahfdcaaGreatDoor
