/- The law LexerLines answers true whatever its arguments are, and leaves them as they were; its card is tied to the program's text. No condition. -/
import Derived.Test.YtijbapbijpdpiaaDoorRows
import Derived.Test.YtijbapbijpdpiaaDoorCards
import Derived.Test.YtijbapbijpdpiaaDoorTie
import Derived.Test.YtijbapbijpdpiaaDoorTr09
import Derived.Test.YtijbapbijpdpiaaDoorT09e
import Derived.Test.YtijbapbijpdpiaaDoorVE
import Derived.Test.YtijbapbijpdpiaaDoorVK
import Derived.Test.YtijbapbijpdpiaaDoorXok
import Derived.ProofKit
import Derived.LaidMore
import Derived.Lay
import Derived.OpenShut
import Derived.Stop.Joined
import Derived.SevenTiedAt
namespace Go.Proofs.YtijbapbijpdpiaaDoor
open Go.ChangeShapes Go.WideShapes Go.ChangeAt Go.RowKit Go.Vm
theorem lexerLines_calls : CallOK Tryd.prog (callL _root_.Ch09.T09) := Go.Vm.callL_ok fun k => sound xok (by kernel_rfl) tr_all k
theorem lexerLines_door (os : Os) (args : Array Value) : laidMetH Tryd.prog Rows.lexerLinesRow.laid ((World.laidAll Tryd.prog os Rows.lexerLinesRow.laid).forCall (fun _ _ => 0) ⟨#[], args, []⟩).memory :=
  by rw [MakeChecks.laidMetH_plain _ _ _ (by kernel_rfl)]; exact laidMet_laidAll _ (by kernel_rfl) (by kernel_rfl)
set_option maxRecDepth 100000 in
theorem lexerLines_lifted (os : Os) (started : os.Started) (H : Type) (enc : TypeId × Value → H) :
    ReturnsInHanded {} Tryd.checked os 8 .any (fun w args => (Rows.lexerLinesSpec.pre enc Tryd.prog Tryd.f8 Rows.lexerLinesRow.domain false w args ∧ laidMetH Tryd.prog Rows.lexerLinesRow.laid w) ∧ sizedMet enc Tryd.prog Tryd.f8 (OpenSpec.ofChange Rows.lexerLinesSpec) false w args)
      (Rows.lexerLinesSpec.post enc Tryd.prog Tryd.f8 false true false false) := by
  refine returnsInHanded_of_change_and (C := Tryd.checked) (X := fun w _ => laidMetH Tryd.prog Rows.lexerLinesRow.laid w) (fun _ _ _ hh h => h.of_heap hh) (by kernel_rfl) started (by kernel_rfl) Tryd.func8
    (ChangeSpec.witness_shaped (enc := enc) (C := Tryd.checked) (os := os) (X := fun w _ => laidMetH Tryd.prog Rows.lexerLinesRow.laid w) false (World.laidAll Tryd.prog os Rows.lexerLinesRow.laid) #[.string ⟨#[]⟩] 8 (World.laidAll_os _ _ _) (World.shaped_of_ZipB (by kernel_rfl) (by kernel_rfl)) (by kernel_rfl) (by kernel_rfl) (by kernel_rfl) (lexerLines_door os _)) ?_
  intro W base args ds gs before hval hW _ _ hlm _
  exact law_contract (P := Tryd.prog) (fn := Tryd.f8) (f := 8) (C := callL _root_.Ch09.T09) (s := Rows.lexerLinesSpec) (pks := [strS]) (bt := 4) (by kernel_rfl) lexerLines_calls rfl (by kernel_rfl) (by kernel_rfl)
    (fun H ds hl => by
      match ds, hl with
      | [d1], _ => exact ⟨rfl, rfl, rfl⟩) (by kernel_rfl) (by kernel_rfl) (of_decide_eq_true (by kernel_rfl)) Go.Vm.Ch09.law8_args hval hW (globOK_mk (l := Rows.lexerLinesRow.laid) (by kernel_rfl) (by kernel_rfl) (tabs_in 1 2 (by kernel_rfl) (by kernel_rfl)) (errs_in 4 5 (errB Rows.laid_strconv_ErrRange) (errB Rows.laid_strconv_ErrSyntax) (by kernel_rfl) (by kernel_rfl)) (laidMetH_plain (by kernel_rfl) hlm))
theorem lexerLines_holds : Rows.LexerLinesSaid :=
  OpenClaim.holds_of_wide 8 Tryd.f8 rfl rfl rfl rfl rfl rfl rfl ⟨rfl, rfl, rfl, rfl, rfl⟩ rfl rfl rfl rfl rfl (by kernel_rfl) Tryd.func8 (by kernel_rfl)
    (of_decide_eq_true (by kernel_rfl)) (by unfold Func.isWrapper; first | (rw [if_pos (by decide +kernel)]; kernel_rfl) | (rw [if_neg (by decide +kernel)]; exact ⟨rfl, rfl⟩))
    (fun os started H enc _ => lexerLines_lifted os started H enc)
theorem lexerLines_card_holds : Rows.LexerLinesCardSaid :=
  Claim7.holds_tied_plain_at .later [] [.data, .data, .data, .data, .sentinel, .sentinel, .pinned] true (true, "4348c213f5f6d5af40527727ab982a8046cf4e2f90eba70a573f6ba4af99fab9") true
    lexerLines_holds (fun _ h => by cases h) (by kernel_rfl) (fun _ h => by cases h) lexerLines_row_tie rfl ⟨rfl, rfl⟩ (by kernel_rfl) rfl
    (fun f fn hf hfn => by
      obtain rfl : f = 8 := Option.some.inj ((show Tryd.prog.funcNamed "gangsaw/gangsawlaw09.LexerLines" = some 8 by kernel_rfl).symm.trans hf) |>.symm
      obtain rfl : fn = Tryd.f8 := (Option.some.inj (Tryd.func8.symm.trans hfn)).symm
      exact ⟨by kernel_rfl, fun j t ht => by
        rw [Tryd.params8] at ht
        have hm : t ∈ [9] := by simpa using Array.mem_of_getElem? ht
        have hall : ([9].all fun u => !Tryd.prog.wantsStandIn u) = true := by kernel_rfl
        exact (show Tryd.prog.wantsStandIn t = false by simpa using List.all_eq_true.1 hall t hm)⟩)
    (by kernel_rfl)
#print axioms lexerLines_card_holds
end Go.Proofs.YtijbapbijpdpiaaDoor
