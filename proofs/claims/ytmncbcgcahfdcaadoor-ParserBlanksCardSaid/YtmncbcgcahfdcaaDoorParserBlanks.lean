/- The law ParserBlanks answers true whatever its arguments are, and leaves them as they were; its card is tied to the program's text. No condition. -/
import Derived.Test.YtmncbcgcahfdcaaDoorRows
import Derived.Test.YtmncbcgcahfdcaaDoorCards
import Derived.Test.YtmncbcgcahfdcaaDoorTie
import Derived.Test.YtmncbcgcahfdcaaDoorTr12
import Derived.Test.YtmncbcgcahfdcaaDoorT12
import Derived.Test.YtmncbcgcahfdcaaDoorVE
import Derived.Test.YtmncbcgcahfdcaaDoorVK
import Derived.Test.YtmncbcgcahfdcaaDoorXok
import Derived.ProofKit
import Derived.LaidMore
import Derived.Lay
import Derived.OpenShut
import Derived.Stop.Joined
import Derived.SevenTiedAt
namespace Go.Proofs.YtmncbcgcahfdcaaDoor
open Go.ChangeShapes Go.WideShapes Go.ChangeAt Go.RowKit Go.Vm
theorem parserBlanks_calls : CallOK Tryd.prog (callL _root_.Ch12.T12) := Go.Vm.callL_ok fun k => sound xok (by kernel_rfl) tr_all k
theorem parserBlanks_door (os : Os) (args : Array Value) : laidMetH Tryd.prog Rows.parserBlanksRow.laid ((World.laidAll Tryd.prog os Rows.parserBlanksRow.laid).forCall (fun _ _ => 0) ⟨#[], args, []⟩).memory :=
  by rw [MakeChecks.laidMetH_plain _ _ _ (by kernel_rfl)]; exact laidMet_laidAll _ (by kernel_rfl) (by kernel_rfl)
set_option maxRecDepth 100000 in
theorem parserBlanks_lifted (os : Os) (started : os.Started) (H : Type) (enc : TypeId × Value → H) :
    ReturnsInHanded {} Tryd.checked os 3 .any (fun w args => (Rows.parserBlanksSpec.pre enc Tryd.prog Tryd.f3 Rows.parserBlanksRow.domain false w args ∧ laidMetH Tryd.prog Rows.parserBlanksRow.laid w) ∧ sizedMet enc Tryd.prog Tryd.f3 (OpenSpec.ofChange Rows.parserBlanksSpec) false w args)
      (Rows.parserBlanksSpec.post enc Tryd.prog Tryd.f3 false true false false) := by
  refine returnsInHanded_of_change_and (C := Tryd.checked) (X := fun w _ => laidMetH Tryd.prog Rows.parserBlanksRow.laid w) (fun _ _ _ hh h => h.of_heap hh) (by kernel_rfl) started (by kernel_rfl) Tryd.func3
    (ChangeSpec.witness_shaped (enc := enc) (C := Tryd.checked) (os := os) (X := fun w _ => laidMetH Tryd.prog Rows.parserBlanksRow.laid w) false (World.laidAll Tryd.prog os Rows.parserBlanksRow.laid) #[.string ⟨#[]⟩, .int .i64 0] 8 (World.laidAll_os _ _ _) (World.shaped_of_ZipB (by kernel_rfl) (by kernel_rfl)) (by kernel_rfl) (by kernel_rfl) (by kernel_rfl) (parserBlanks_door os _)) ?_
  intro W base args ds gs before hval hW _ _ hlm _
  exact law_contract (P := Tryd.prog) (fn := Tryd.f3) (f := 3) (C := callL _root_.Ch12.T12) (s := Rows.parserBlanksSpec) (pks := [strS, intS]) (bt := 4) (by kernel_rfl) parserBlanks_calls rfl (by kernel_rfl) (by kernel_rfl)
    (fun H ds hl => by
      match ds, hl with
      | [d1, d2], _ => exact ⟨rfl, rfl, rfl⟩) (by kernel_rfl) (by kernel_rfl) (of_decide_eq_true (by kernel_rfl)) Go.Vm.Ch12.law3_args hval hW (globOK_mk (l := Rows.parserBlanksRow.laid) (by kernel_rfl) (by kernel_rfl) (tabs_in 1 2 (by kernel_rfl) (by kernel_rfl)) (errs_in 4 5 (errB Rows.laid_strconv_ErrRange) (errB Rows.laid_strconv_ErrSyntax) (by kernel_rfl) (by kernel_rfl)) (laidMetH_plain (by kernel_rfl) hlm))
theorem parserBlanks_holds : Rows.ParserBlanksSaid :=
  OpenClaim.holds_of_wide 3 Tryd.f3 rfl rfl rfl rfl rfl rfl rfl ⟨rfl, rfl, rfl, rfl, rfl⟩ rfl rfl rfl rfl rfl (by kernel_rfl) Tryd.func3 (by kernel_rfl)
    (of_decide_eq_true (by kernel_rfl)) (by unfold Func.isWrapper; first | (rw [if_pos (by decide +kernel)]; kernel_rfl) | (rw [if_neg (by decide +kernel)]; exact ⟨rfl, rfl⟩))
    (fun os started H enc _ => parserBlanks_lifted os started H enc)
theorem parserBlanks_card_holds : Rows.ParserBlanksCardSaid :=
  Claim7.holds_tied_plain_at .later [] [.data, .data, .data, .data, .sentinel, .sentinel, .pinned] true (true, "21234de21e56269a451898f97124f690d7aaeb0c2f7e3201535d591c0e06534b") true
    parserBlanks_holds (fun _ h => by cases h) (by kernel_rfl) (fun _ h => by cases h) parserBlanks_row_tie rfl ⟨rfl, rfl⟩ (by kernel_rfl) rfl
    (fun f fn hf hfn => by
      obtain rfl : f = 3 := Option.some.inj ((show Tryd.prog.funcNamed "gangsaw/gangsawlaw10.ParserBlanks" = some 3 by kernel_rfl).symm.trans hf) |>.symm
      obtain rfl : fn = Tryd.f3 := (Option.some.inj (Tryd.func3.symm.trans hfn)).symm
      exact ⟨by kernel_rfl, fun j t ht => by
        rw [Tryd.params3] at ht
        have hm : t ∈ [9, 3] := by simpa using Array.mem_of_getElem? ht
        have hall : ([9, 3].all fun u => !Tryd.prog.wantsStandIn u) = true := by kernel_rfl
        exact (show Tryd.prog.wantsStandIn t = false by simpa using List.all_eq_true.1 hall t hm)⟩)
    (by kernel_rfl)
#print axioms parserBlanks_card_holds
end Go.Proofs.YtmncbcgcahfdcaaDoor
