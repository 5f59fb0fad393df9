/- The law ParserTrees answers true whatever its arguments are, and leaves them as they were; its card is tied to the program's text. No condition. -/
import Derived.Test.YtmncbcgcahfdcaaGreatDoorRows
import Derived.Test.YtmncbcgcahfdcaaGreatDoorCards
import Derived.Test.YtmncbcgcahfdcaaGreatDoorTie
import Derived.Test.YtmncbcgcahfdcaaGreatDoorTr10
import Derived.Test.YtmncbcgcahfdcaaGreatDoorC10zo
import Derived.Test.YtmncbcgcahfdcaaGreatDoorVE
import Derived.Test.YtmncbcgcahfdcaaGreatDoorVK
import Derived.Test.YtmncbcgcahfdcaaGreatDoorXok
import Derived.ProofKit
import Derived.LaidMore
import Derived.Lay
import Derived.OpenShut
import Derived.Stop.Joined
import Derived.SevenTiedAt
namespace Go.Proofs.YtmncbcgcahfdcaaGreatDoor
open Go.ChangeShapes Go.WideShapes Go.ChangeAt Go.RowKit Go.Vm
theorem ty10 : Go.Vm.Ch10.Ty10 Tryz.prog := ⟨Tryz.underlying2, Tryz.underlying3, Tryz.underlying4, Tryz.underlying9, Tryz.underlying31, Tryz.underlying23, Tryz.underlying34, ⟨_, Tryz.underlying36, rfl⟩, ⟨_, Tryz.underlying55, rfl⟩⟩
theorem parserTrees_calls : CallOK Tryz.prog (callL _root_.Ch10.T10) := Go.Vm.callL_ok fun k => sound xok (by kernel_rfl) tr_all k
theorem parserTrees_door (os : Os) (args : Array Value) : laidMetH Tryz.prog Rows.parserTreesRow.laid ((World.laidAll Tryz.prog os Rows.parserTreesRow.laid).forCall (fun _ _ => 0) ⟨#[], args, []⟩).memory :=
  by rw [MakeChecks.laidMetH_plain _ _ _ (by kernel_rfl)]; exact laidMet_laidAll _ (by kernel_rfl) (by kernel_rfl)
set_option maxRecDepth 100000 in
theorem parserTrees_lifted (os : Os) (started : os.Started) (H : Type) (enc : TypeId × Value → H) :
    ReturnsInHanded {} Tryz.checked os 8 .any (fun w args => (Rows.parserTreesSpec.pre enc Tryz.prog Tryz.f8 Rows.parserTreesRow.domain false w args ∧ laidMetH Tryz.prog Rows.parserTreesRow.laid w) ∧ sizedMet enc Tryz.prog Tryz.f8 (OpenSpec.ofChange Rows.parserTreesSpec) false w args)
      (Rows.parserTreesSpec.post enc Tryz.prog Tryz.f8 false true false false) := by
  refine returnsInHanded_of_change_and (C := Tryz.checked) (X := fun w _ => laidMetH Tryz.prog Rows.parserTreesRow.laid w) (fun _ _ _ hh h => h.of_heap hh) (by kernel_rfl) started (by kernel_rfl) Tryz.func8
    (ChangeSpec.witness_shaped (enc := enc) (C := Tryz.checked) (os := os) (X := fun w _ => laidMetH Tryz.prog Rows.parserTreesRow.laid w) false (World.laidAll Tryz.prog os Rows.parserTreesRow.laid) #[.slice none 0 0, .slice none 0 0] 8 (World.laidAll_os _ _ _) (World.shaped_of_ZipB (by kernel_rfl) (by kernel_rfl)) (by kernel_rfl) (by kernel_rfl) (by kernel_rfl) (parserTrees_door os _)) ?_
  intro W base args ds gs before hval hW _ _ hlm _
  exact law_contract_deep (P := Tryz.prog) (fn := Tryz.f8) (f := 8) (C := callL _root_.Ch10.T10) (s := Rows.parserTreesSpec) (np := 2) (bt := 4) [2, 3, 4, 9, 23, 31, 34, 36, 55] (by kernel_rfl) parserTrees_calls rfl (by kernel_rfl) (by kernel_rfl)
    (fun H ds hl => by
      match ds, hl with
      | [d1, d2], _ => exact ⟨rfl, rfl, rfl⟩) (by kernel_rfl) (by kernel_rfl) (by kernel_rfl) (of_decide_eq_true (by kernel_rfl)) (by rw [Tryz.params8]; exact Go.Vm.Ch10.law8_args ty10) hval hW (globOK_mk (l := Rows.parserTreesRow.laid) (by kernel_rfl) (by kernel_rfl) (tabs_in 1 2 (by kernel_rfl) (by kernel_rfl)) (errs_in 4 5 (errB Rows.laid_strconv_ErrRange) (errB Rows.laid_strconv_ErrSyntax) (by kernel_rfl) (by kernel_rfl)) (laidMetH_plain (by kernel_rfl) hlm))
theorem parserTrees_holds : Rows.ParserTreesSaid :=
  OpenClaim.holds_of_wide 8 Tryz.f8 rfl rfl rfl rfl rfl rfl rfl ⟨rfl, rfl, rfl, rfl, rfl⟩ rfl rfl rfl rfl rfl (by kernel_rfl) Tryz.func8 (by kernel_rfl)
    (of_decide_eq_true (by kernel_rfl)) (by unfold Func.isWrapper; first | (rw [if_pos (by decide +kernel)]; kernel_rfl) | (rw [if_neg (by decide +kernel)]; exact ⟨rfl, rfl⟩))
    (fun os started H enc _ => parserTrees_lifted os started H enc)
theorem parserTrees_card_holds : Rows.ParserTreesCardSaid :=
  Claim7.holds_tied_plain_at .later [] [.data, .data, .data, .data, .sentinel, .sentinel, .pinned] true (true, "b696f982a35b46a3e2af65e84384244ab4fda4bcfd7619372976b05a7d0990f3") true
    parserTrees_holds (fun _ h => by cases h) (by kernel_rfl) (fun _ h => by cases h) parserTrees_row_tie rfl ⟨rfl, rfl⟩ (by kernel_rfl) rfl
    (fun f fn hf hfn => by
      obtain rfl : f = 8 := Option.some.inj ((show Tryz.prog.funcNamed "gangsaw/gangsawlaw10.ParserTrees" = some 8 by kernel_rfl).symm.trans hf) |>.symm
      obtain rfl : fn = Tryz.f8 := (Option.some.inj (Tryz.func8.symm.trans hfn)).symm
      exact ⟨by kernel_rfl, fun j t ht => by
        rw [Tryz.params8] at ht
        have hm : t ∈ [23, 23] := by simpa using Array.mem_of_getElem? ht
        have hall : ([23, 23].all fun u => !Tryz.prog.wantsStandIn u) = true := by kernel_rfl
        exact (show Tryz.prog.wantsStandIn t = false by simpa using List.all_eq_true.1 hall t hm)⟩)
    (by kernel_rfl)
#print axioms parserTrees_card_holds
end Go.Proofs.YtmncbcgcahfdcaaGreatDoor
