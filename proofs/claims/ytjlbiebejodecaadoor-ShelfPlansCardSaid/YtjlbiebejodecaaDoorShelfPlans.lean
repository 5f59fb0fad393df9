/- The law ShelfPlans answers true whatever its arguments are, and leaves them as they were; its card is tied to the program's text. No condition. -/
import Derived.Test.YtjlbiebejodecaaDoorRows
import Derived.Test.YtjlbiebejodecaaDoorCards
import Derived.Test.YtjlbiebejodecaaDoorTie
import Derived.Test.YtjlbiebejodecaaDoorTr27
import Derived.Test.YtjlbiebejodecaaDoorT27f
import Derived.Test.YtjlbiebejodecaaDoorVE
import Derived.ProofKit
import Derived.LaidMore
import Derived.OpenShut
import Derived.Stop.Joined
import Derived.SevenTiedAt
namespace Go.Proofs.YtjlbiebejodecaaDoor
open Go.ChangeShapes Go.WideShapes Go.ChangeAt Go.RowKit Go.Vm
theorem shelfPlans_calls : CallOK Tryd.prog (callL _root_.Ch27.T27) := Go.Vm.callL_ok fun k => sound (by kernel_rfl) tr_all k
theorem shelfPlans_door (os : Os) (args : Array Value) : laidMetH Tryd.prog Rows.shelfPlansRow.laid ((World.doorLaid Tryd.prog 400 os).forCall (fun _ _ => 0) ⟨#[], args, []⟩).memory :=
  laidMetH_of_parts3 (fuel := 8) (laidMet_of_run' 8 (by kernel_rfl) (by kernel_rfl)) (by kernel_rfl) (by kernel_rfl)
set_option maxRecDepth 100000 in
theorem shelfPlans_lifted (os : Os) (started : os.Started) (H : Type) (enc : TypeId × Value → H) :
    ReturnsInHanded {} Tryd.checked os 7 .any (fun w args => (Rows.shelfPlansSpec.pre enc Tryd.prog Tryd.f7 Rows.shelfPlansRow.domain false w args ∧ laidMetH Tryd.prog Rows.shelfPlansRow.laid w) ∧ sizedMet enc Tryd.prog Tryd.f7 (OpenSpec.ofChange Rows.shelfPlansSpec) false w args)
      (Rows.shelfPlansSpec.post enc Tryd.prog Tryd.f7 false true false false) := by
  refine returnsInHanded_of_change_and (C := Tryd.checked) (X := fun w _ => laidMetH Tryd.prog Rows.shelfPlansRow.laid w) (fun _ _ _ hh h => h.of_heap hh) (by kernel_rfl) started (by kernel_rfl) Tryd.func7
    (ChangeSpec.witness_shaped (enc := enc) (C := Tryd.checked) (os := os) (X := fun w _ => laidMetH Tryd.prog Rows.shelfPlansRow.laid w) false (World.doorLaid Tryd.prog 400 os) #[.slice none 0 0, .int .i64 0, .int .i64 0, .int .i64 0, .agg #[.slice none 0 0, .slice none 0 0]] 8 rfl (World.shaped_of_RefB (by kernel_rfl) (by kernel_rfl)) (by kernel_rfl) (by kernel_rfl) (by kernel_rfl) (shelfPlans_door os _)) ?_
  intro W base args ds gs before hval hW _ _ _ _
  exact law_contract (P := Tryd.prog) (fn := Tryd.f7) (f := 7) (C := callL _root_.Ch27.T27) (s := Rows.shelfPlansSpec) (pks := [Go.Vm.Ch27.partsS, intS, intS, intS, Go.Vm.Ch27.layS]) (bt := 4) (by kernel_rfl) shelfPlans_calls rfl (by kernel_rfl) (by kernel_rfl)
    (fun H ds hl => by
      match ds, hl with
      | [d1, d2, d3, d4, d5], _ => exact ⟨rfl, rfl, rfl⟩) (by kernel_rfl) (by kernel_rfl) (of_decide_eq_true (by kernel_rfl)) Go.Vm.Ch27.law7_args hval hW
theorem shelfPlans_holds : Rows.ShelfPlansSaid :=
  OpenClaim.holds_of_wide 7 Tryd.f7 rfl rfl rfl rfl rfl rfl rfl ⟨rfl, rfl, rfl, rfl, rfl⟩ rfl rfl rfl rfl rfl (by kernel_rfl) Tryd.func7 (by kernel_rfl)
    (of_decide_eq_true (by kernel_rfl)) (by unfold Func.isWrapper; first | (rw [if_pos (by decide +kernel)]; kernel_rfl) | (rw [if_neg (by decide +kernel)]; exact ⟨rfl, rfl⟩))
    (fun os started H enc _ => shelfPlans_lifted os started H enc)
theorem shelfPlans_card_holds : Rows.ShelfPlansCardSaid :=
  Claim7.holds_tied_plain_at .later [] [.data, .data, .data] true (true, "7fa1a7cb772148955ccfbf1e4caa937c6974330e13b6db7b5ecda8eb1ac844d0") false
    shelfPlans_holds (fun _ h => by cases h) (by kernel_rfl) (fun _ h => by cases h) shelfPlans_row_tie rfl ⟨rfl, rfl⟩ (by kernel_rfl) rfl
    (fun f fn hf hfn => by
      obtain rfl : f = 7 := Option.some.inj ((show Tryd.prog.funcNamed "gangsaw/gangsawlaw27.ShelfPlans" = some 7 by kernel_rfl).symm.trans hf) |>.symm
      obtain rfl : fn = Tryd.f7 := (Option.some.inj (Tryd.func7.symm.trans hfn)).symm
      exact ⟨by kernel_rfl, fun j t ht => by
        rw [Tryd.params7] at ht
        have hm : t ∈ [22, 3, 3, 3, 43] := by simpa using Array.mem_of_getElem? ht
        have hall : ([22, 3, 3, 3, 43].all fun u => !Tryd.prog.wantsStandIn u) = true := by kernel_rfl
        exact (show Tryd.prog.wantsStandIn t = false by simpa using List.all_eq_true.1 hall t hm)⟩)
    (by kernel_rfl)
#print axioms shelfPlans_card_holds
end Go.Proofs.YtjlbiebejodecaaDoor
