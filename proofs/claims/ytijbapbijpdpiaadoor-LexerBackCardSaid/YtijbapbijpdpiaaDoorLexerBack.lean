/- The law LexerBack answers true whatever its arguments are, and leaves them as they were; its card is tied to the program's text. No condition. -/
import Derived.Test.YtijbapbijpdpiaaDoorRows
import Derived.Test.YtijbapbijpdpiaaDoorCards
import Derived.Test.YtijbapbijpdpiaaDoorTie
import Derived.Test.YtijbapbijpdpiaaDoorTr09
import Derived.Test.YtijbapbijpdpiaaDoorT09c
import Derived.Test.YtijbapbijpdpiaaDoorVE
import Derived.Test.YtijbapbijpdpiaaDoorVK
import Derived.Test.YtijbapbijpdpiaaDoorXok
import Derived.ProofKit
import Derived.LaidMore
import Derived.OpenShut
import Derived.Stop.Joined
import Derived.SevenTiedAt
namespace Go.Proofs.YtijbapbijpdpiaaDoor
open Go.ChangeShapes Go.WideShapes Go.ChangeAt Go.RowKit Go.Vm
theorem lexerBack_calls : CallOK Tryd.prog (callL _root_.Ch09.T09) := Go.Vm.callL_ok fun k => sound xok (by kernel_rfl) tr_all k
theorem lexerBack_door (os : Os) (args : Array Value) : laidMetH Tryd.prog Rows.lexerBackRow.laid ((World.doorLaid Tryd.prog 400 os).forCall (fun _ _ => 0) ⟨#[], args, []⟩).memory :=
  laidMetH_of_parts3 (fuel := 8) (laidMet_of_run' 8 (by kernel_rfl) (by kernel_rfl)) (by kernel_rfl) (by kernel_rfl)
set_option maxRecDepth 100000 in
theorem lexerBack_lifted (os : Os) (started : os.Started) (H : Type) (enc : TypeId × Value → H) :
    ReturnsInHanded {} Tryd.checked os 6 .any (fun w args => (Rows.lexerBackSpec.pre enc Tryd.prog Tryd.f6 Rows.lexerBackRow.domain false w args ∧ laidMetH Tryd.prog Rows.lexerBackRow.laid w) ∧ sizedMet enc Tryd.prog Tryd.f6 (OpenSpec.ofChange Rows.lexerBackSpec) false w args)
      (Rows.lexerBackSpec.post enc Tryd.prog Tryd.f6 false true false false) := by
  refine returnsInHanded_of_change_and (C := Tryd.checked) (X := fun w _ => laidMetH Tryd.prog Rows.lexerBackRow.laid w) (fun _ _ _ hh h => h.of_heap hh) (by kernel_rfl) started (by kernel_rfl) Tryd.func6
    (ChangeSpec.witness_shaped (enc := enc) (C := Tryd.checked) (os := os) (X := fun w _ => laidMetH Tryd.prog Rows.lexerBackRow.laid w) false (World.doorLaid Tryd.prog 400 os) #[.slice none 0 0, .int .i64 0] 8 rfl (World.shaped_of_RefB (by kernel_rfl) (by kernel_rfl)) (by kernel_rfl) (by kernel_rfl) (by kernel_rfl) (lexerBack_door os _)) ?_
  intro W base args ds gs before hval hW _ _ hlm _
  exact law_contract (P := Tryd.prog) (fn := Tryd.f6) (f := 6) (C := callL _root_.Ch09.T09) (s := Rows.lexerBackSpec) (pks := [Go.Vm.Ch09.toksS, intS]) (bt := 4) (by kernel_rfl) lexerBack_calls rfl (by kernel_rfl) (by kernel_rfl)
    (fun H ds hl => by
      match ds, hl with
      | [d1, d2], _ => exact ⟨rfl, rfl, rfl⟩) (by kernel_rfl) (by kernel_rfl) (of_decide_eq_true (by kernel_rfl)) Go.Vm.Ch09.law6_args hval hW (globOK_mk (l := Rows.lexerBackRow.laid) (by kernel_rfl) (by kernel_rfl) (tabs_in 1 2 (by kernel_rfl) (by kernel_rfl)) (errs_in 3 4 (errB Rows.laid_strconv_ErrRange) (errB Rows.laid_strconv_ErrSyntax) (by kernel_rfl) (by kernel_rfl)) (laidMetH_plain (by kernel_rfl) hlm))
theorem lexerBack_holds : Rows.LexerBackSaid :=
  OpenClaim.holds_of_wide 6 Tryd.f6 rfl rfl rfl rfl rfl rfl rfl ⟨rfl, rfl, rfl, rfl, rfl⟩ rfl rfl rfl rfl rfl (by kernel_rfl) Tryd.func6 (by kernel_rfl)
    (of_decide_eq_true (by kernel_rfl)) (by unfold Func.isWrapper; first | (rw [if_pos (by decide +kernel)]; kernel_rfl) | (rw [if_neg (by decide +kernel)]; exact ⟨rfl, rfl⟩))
    (fun os started H enc _ => lexerBack_lifted os started H enc)
theorem lexerBack_card_holds : Rows.LexerBackCardSaid :=
  Claim7.holds_tied_plain_at .later [] [.data, .data, .data, .sentinel, .sentinel] true (true, "4348c213f5f6d5af40527727ab982a8046cf4e2f90eba70a573f6ba4af99fab9") true
    lexerBack_holds (fun _ h => by cases h) (by kernel_rfl) (fun _ h => by cases h) lexerBack_row_tie rfl ⟨rfl, rfl⟩ (by kernel_rfl) rfl
    (fun f fn hf hfn => by
      obtain rfl : f = 6 := Option.some.inj ((show Tryd.prog.funcNamed "gangsaw/gangsawlaw09.LexerBack" = some 6 by kernel_rfl).symm.trans hf) |>.symm
      obtain rfl : fn = Tryd.f6 := (Option.some.inj (Tryd.func6.symm.trans hfn)).symm
      exact ⟨by kernel_rfl, fun j t ht => by
        rw [Tryd.params6] at ht
        have hm : t ∈ [23, 3] := by simpa using Array.mem_of_getElem? ht
        have hall : ([23, 3].all fun u => !Tryd.prog.wantsStandIn u) = true := by kernel_rfl
        exact (show Tryd.prog.wantsStandIn t = false by simpa using List.all_eq_true.1 hall t hm)⟩)
    (by kernel_rfl)
#print axioms lexerBack_card_holds
end Go.Proofs.YtijbapbijpdpiaaDoor
