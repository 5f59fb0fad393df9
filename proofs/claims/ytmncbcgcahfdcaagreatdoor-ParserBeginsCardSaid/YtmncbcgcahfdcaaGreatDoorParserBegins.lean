/- The law ParserBegins answers true whatever its arguments are, and leaves them as they were; its card is tied to the program's text. No condition. -/
import Derived.Test.YtmncbcgcahfdcaaGreatDoorRows
import Derived.Test.YtmncbcgcahfdcaaGreatDoorCards
import Derived.Test.YtmncbcgcahfdcaaGreatDoorTie
import Derived.Test.YtmncbcgcahfdcaaGreatDoorTr10
import Derived.Test.YtmncbcgcahfdcaaGreatDoorT10b
import Derived.Test.YtmncbcgcahfdcaaGreatDoorVE
import Derived.Test.YtmncbcgcahfdcaaGreatDoorVK
import Derived.Test.YtmncbcgcahfdcaaGreatDoorXok
import Derived.ProofKit
import Derived.LaidMore
import Derived.Lay
import Derived.OpenShut
import Derived.Stop.Joined
import Derived.SevenTiedAt
namespace Go.Proofs.YtmncbcgcahfdcaaGreatDoor
open Go.ChangeShapes Go.WideShapes Go.ChangeAt Go.RowKit Go.Vm
theorem parserBegins_calls : CallOK Tryz.prog (callL _root_.Ch10.T10) := Go.Vm.callL_ok fun k => sound xok (by kernel_rfl) tr_all k
theorem parserBegins_door (os : Os) (args : Array Value) : laidMetH Tryz.prog Rows.parserBeginsRow.laid ((World.laidAll Tryz.prog os Rows.parserBeginsRow.laid).forCall (fun _ _ => 0) ⟨#[], args, []⟩).memory :=
  by rw [MakeChecks.laidMetH_plain _ _ _ (by kernel_rfl)]; exact laidMet_laidAll _ (by kernel_rfl) (by kernel_rfl)
set_option maxRecDepth 100000 in
theorem parserBegins_lifted (os : Os) (started : os.Started) (H : Type) (enc : TypeId × Value → H) :
    ReturnsInHanded {} Tryz.checked os 6 .any (fun w args => (Rows.parserBeginsSpec.pre enc Tryz.prog Tryz.f6 Rows.parserBeginsRow.domain false w args ∧ laidMetH Tryz.prog Rows.parserBeginsRow.laid w) ∧ sizedMet enc Tryz.prog Tryz.f6 (OpenSpec.ofChange Rows.parserBeginsSpec) false w args)
      (Rows.parserBeginsSpec.post enc Tryz.prog Tryz.f6 false true false false) := by
  refine returnsInHanded_of_change_and (C := Tryz.checked) (X := fun w _ => laidMetH Tryz.prog Rows.parserBeginsRow.laid w) (fun _ _ _ hh h => h.of_heap hh) (by kernel_rfl) started (by kernel_rfl) Tryz.func6
    (ChangeSpec.witness_shaped (enc := enc) (C := Tryz.checked) (os := os) (X := fun w _ => laidMetH Tryz.prog Rows.parserBeginsRow.laid w) false (World.laidAll Tryz.prog os Rows.parserBeginsRow.laid) #[.string ⟨#[]⟩, .int .i64 0] 8 (World.laidAll_os _ _ _) (World.shaped_of_ZipB (by kernel_rfl) (by kernel_rfl)) (by kernel_rfl) (by kernel_rfl) (by kernel_rfl) (parserBegins_door os _)) ?_
  intro W base args ds gs before hval hW _ _ hlm _
  exact law_contract (P := Tryz.prog) (fn := Tryz.f6) (f := 6) (C := callL _root_.Ch10.T10) (s := Rows.parserBeginsSpec) (pks := [strS, intS]) (bt := 4) (by kernel_rfl) parserBegins_calls rfl (by kernel_rfl) (by kernel_rfl)
    (fun H ds hl => by
      match ds, hl with
      | [d1, d2], _ => exact ⟨rfl, rfl, rfl⟩) (by kernel_rfl) (by kernel_rfl) (of_decide_eq_true (by kernel_rfl)) Go.Vm.Ch10.law6_args hval hW (globOK_mk (l := Rows.parserBeginsRow.laid) (by kernel_rfl) (by kernel_rfl) (tabs_in 1 2 (by kernel_rfl) (by kernel_rfl)) (errs_in 4 5 (errB Rows.laid_strconv_ErrRange) (errB Rows.laid_strconv_ErrSyntax) (by kernel_rfl) (by kernel_rfl)) (laidMetH_plain (by kernel_rfl) hlm))
theorem parserBegins_holds : Rows.ParserBeginsSaid :=
  OpenClaim.holds_of_wide 6 Tryz.f6 rfl rfl rfl rfl rfl rfl rfl ⟨rfl, rfl, rfl, rfl, rfl⟩ rfl rfl rfl rfl rfl (by kernel_rfl) Tryz.func6 (by kernel_rfl)
    (of_decide_eq_true (by kernel_rfl)) (by unfold Func.isWrapper; first | (rw [if_pos (by decide +kernel)]; kernel_rfl) | (rw [if_neg (by decide +kernel)]; exact ⟨rfl, rfl⟩))
    (fun os started H enc _ => parserBegins_lifted os started H enc)
theorem parserBegins_card_holds : Rows.ParserBeginsCardSaid :=
  Claim7.holds_tied_plain_at .later [] [.data, .data, .data, .data, .sentinel, .sentinel, .pinned] true (true, "b696f982a35b46a3e2af65e84384244ab4fda4bcfd7619372976b05a7d0990f3") true
    parserBegins_holds (fun _ h => by cases h) (by kernel_rfl) (fun _ h => by cases h) parserBegins_row_tie rfl ⟨rfl, rfl⟩ (by kernel_rfl) rfl
    (fun f fn hf hfn => by
      obtain rfl : f = 6 := Option.some.inj ((show Tryz.prog.funcNamed "gangsaw/gangsawlaw10.ParserBegins" = some 6 by kernel_rfl).symm.trans hf) |>.symm
      obtain rfl : fn = Tryz.f6 := (Option.some.inj (Tryz.func6.symm.trans hfn)).symm
      exact ⟨by kernel_rfl, fun j t ht => by
        rw [Tryz.params6] at ht
        have hm : t ∈ [9, 3] := by simpa using Array.mem_of_getElem? ht
        have hall : ([9, 3].all fun u => !Tryz.prog.wantsStandIn u) = true := by kernel_rfl
        exact (show Tryz.prog.wantsStandIn t = false by simpa using List.all_eq_true.1 hall t hm)⟩)
    (by kernel_rfl)
#print axioms parserBegins_card_holds
end Go.Proofs.YtmncbcgcahfdcaaGreatDoor
