/- The law LexerNames answers true whatever its argument is, and leaves it as it was; its card is tied to the program's text. No condition. -/
import Derived.Test.YtijbapbijpdpiaaDoorRows
import Derived.Test.YtijbapbijpdpiaaDoorCards
import Derived.Test.YtijbapbijpdpiaaDoorTie
import Derived.Test.YtijbapbijpdpiaaDoorTr09
import Derived.Test.YtijbapbijpdpiaaDoorC09d
import Derived.Test.YtijbapbijpdpiaaDoorVE
import Derived.ProofKit
import Derived.LaidMore
import Derived.OpenShut
import Derived.Stop.Joined
import Derived.SevenTiedAt
namespace Go.Proofs.YtijbapbijpdpiaaDoor
open Go.ChangeShapes Go.WideShapes Go.ChangeAt Go.RowKit Go.Vm
theorem lexerNames_calls : CallOK Tryd.prog (callL _root_.Ch09.T09) := by
  intro f args m v m' hc
  obtain ⟨k, hk⟩ := callL_some hc
  exact sound (by kernel_rfl) tr_all k f args m v m' hk
theorem lexerNames_door (os : Os) (args : Array Value) : laidMetH Tryd.prog Rows.lexerNamesRow.laid ((World.doorLaid Tryd.prog 400 os).forCall (fun _ _ => 0) ⟨#[], args, []⟩).memory :=
  laidMetH_of_parts3 (fuel := 8) (laidMet_of_run' 8 (by kernel_rfl) (by kernel_rfl)) (by kernel_rfl) (by kernel_rfl)
theorem lexerNames_args : ∀ av, ArgsHave [(false, [.p .str])] av → ∃ m, callL _root_.Ch09.T09 4 av [] = some (.bool true, m)
  | [a], h => by
    obtain ⟨cs, rfl, hl, hc⟩ := h.1
    match cs, hl with
    | [c], _ =>
      obtain ⟨b, rfl, hb⟩ := hc 0 _ c rfl rfl
      have e : maxLen = 9223372036854775807 := by decide
      exact ⟨[], Go.Vm.Ch09.law4 b (by omega)⟩
  | [], h => h.elim
  | _ :: _ :: _, h => h.2.elim
set_option maxRecDepth 100000 in
theorem lexerNames_lifted (os : Os) (started : os.Started) (H : Type) (enc : TypeId × Value → H) :
    ReturnsInHanded {} Tryd.checked os 4 .any (fun w args => (Rows.lexerNamesSpec.pre enc Tryd.prog Tryd.f4 Rows.lexerNamesRow.domain false w args ∧ laidMetH Tryd.prog Rows.lexerNamesRow.laid w) ∧ sizedMet enc Tryd.prog Tryd.f4 (OpenSpec.ofChange Rows.lexerNamesSpec) false w args)
      (Rows.lexerNamesSpec.post enc Tryd.prog Tryd.f4 false true false false) := by
  refine returnsInHanded_of_change_and (C := Tryd.checked) (X := fun w _ => laidMetH Tryd.prog Rows.lexerNamesRow.laid w) (fun _ _ _ hh h => h.of_heap hh) (by kernel_rfl) started (by kernel_rfl) Tryd.func4
    (ChangeSpec.witness_shaped (enc := enc) (C := Tryd.checked) (os := os) (X := fun w _ => laidMetH Tryd.prog Rows.lexerNamesRow.laid w) false (World.doorLaid Tryd.prog 400 os) #[.string ⟨#[]⟩] 8 rfl (World.shaped_of_RefB (by kernel_rfl) (by kernel_rfl)) (by kernel_rfl) (by kernel_rfl) (by kernel_rfl) (lexerNames_door os _)) ?_
  intro W base args ds gs before hval hW _ _ _ _
  exact law_contract (P := Tryd.prog) (fn := Tryd.f4) (f := 4) (C := callL _root_.Ch09.T09) (s := Rows.lexerNamesSpec) (pks := [(false, [.p .str])]) (bt := 4) (by kernel_rfl) lexerNames_calls rfl (by kernel_rfl) (by kernel_rfl)
    (fun H ds hl => by
      match ds, hl with
      | [d1], _ => exact ⟨rfl, rfl, rfl⟩) (by kernel_rfl) (by kernel_rfl) (of_decide_eq_true (by kernel_rfl)) lexerNames_args hval hW
theorem lexerNames_holds : Rows.LexerNamesSaid :=
  OpenClaim.holds_of_wide 4 Tryd.f4 rfl rfl rfl rfl rfl rfl rfl ⟨rfl, rfl, rfl, rfl, rfl⟩ rfl rfl rfl rfl rfl (by kernel_rfl) Tryd.func4 (by kernel_rfl)
    (of_decide_eq_true (by kernel_rfl)) (by unfold Func.isWrapper; first | (rw [if_pos (by decide +kernel)]; kernel_rfl) | (rw [if_neg (by decide +kernel)]; exact ⟨rfl, rfl⟩))
    (fun os started H enc _ => lexerNames_lifted os started H enc)
theorem lexerNames_card_holds : Rows.LexerNamesCardSaid :=
  Claim7.holds_tied_plain_at .later [] [.data, .data, .data, .sentinel, .sentinel] true (true, "4348c213f5f6d5af40527727ab982a8046cf4e2f90eba70a573f6ba4af99fab9") true
    lexerNames_holds (fun _ h => by cases h) (by kernel_rfl) (fun _ h => by cases h) lexerNames_row_tie rfl ⟨rfl, rfl⟩ (by kernel_rfl) rfl
    (fun f fn hf hfn => by
      obtain rfl : f = 4 := Option.some.inj ((show Tryd.prog.funcNamed "gangsaw/gangsawlaw09.LexerNames" = some 4 by kernel_rfl).symm.trans hf) |>.symm
      obtain rfl : fn = Tryd.f4 := (Option.some.inj (Tryd.func4.symm.trans hfn)).symm
      exact ⟨by kernel_rfl, fun j t ht => by
        rw [Tryd.params4] at ht
        have hm : t ∈ [9] := by simpa using Array.mem_of_getElem? ht
        have hall : ([9].all fun u => !Tryd.prog.wantsStandIn u) = true := by kernel_rfl
        exact (show Tryd.prog.wantsStandIn t = false by simpa using List.all_eq_true.1 hall t hm)⟩)
    (by kernel_rfl)
#print axioms lexerNames_card_holds
end Go.Proofs.YtijbapbijpdpiaaDoor
