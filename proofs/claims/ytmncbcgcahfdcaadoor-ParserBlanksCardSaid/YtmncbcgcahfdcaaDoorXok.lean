/- Two library functions are met by their contracts. -/
import Derived.Test.YtmncbcgcahfdcaaDoorShelf
import Derived.Test.YtmncbcgcahfdcaaDoorVL
import Derived.KernelRfl
namespace Go.Proofs.YtmncbcgcahfdcaaDoor
open Go.Vm Go.RowKit
theorem below_bytes {w w' : World} {e : TypeId} (h : w' = w ∨ ∃ t, w' = Lib.bytesWorld w e t) : Below w.heap.size w w' := by
  rcases h with rfl | ⟨t, rfl⟩
  · exact Below.refl _ _
  · exact Lib.bytesWorld_below w e t
theorem parse_xok : ParseOK Tryd.prog 65 := by
  refine ⟨⟨Tryd.f65, _, Tryd.func65, rfl, by kernel_rfl⟩, fun T hT => ?_⟩
  have e : T = 115 := Option.some.inj (hT.symm.trans (by kernel_rfl))
  subst e
  refine ⟨fun s hs v h w => ?_, fun s hs h w hx => ?_, fun s hs h w hx => ?_⟩
  · exact (Tryd.strconv_ParseInt_10_at64_ok s (by omega) v h w).mono fun e w' hp => ⟨hp.1, below_bytes hp.2⟩
  · obtain ⟨u, v, hc⟩ := hx.2 "strconv.ErrSyntax" (by decide) 3 (by kernel_rfl)
    exact (Tryd.strconv_ParseInt_10_at64_syntax s hs h _ w hc (.inr ⟨u, v, rfl⟩)).mono fun e w' hp => by
      obtain ⟨N, h1, _, _, h4⟩ := hp
      exact ⟨_, h1, h4⟩
  · obtain ⟨u, v, hc⟩ := hx.2 "strconv.ErrRange" (by decide) 4 (by kernel_rfl)
    exact (Tryd.strconv_ParseInt_10_at64_range s hs h _ w hc (.inr ⟨u, v, rfl⟩)).mono fun e w' hp => by
      obtain ⟨N, h1, _, _, h4⟩ := hp
      exact ⟨_, h1, h4⟩
theorem xok : XOK Tryd.prog := xok_mk 0 65 (by kernel_rfl) (by kernel_rfl) (fun h => absurd ((show named Tryd.prog "strconv.FormatInt" 0 = false by kernel_rfl).symm.trans h) (by decide)) (fun _ => parse_xok) (by kernel_rfl)
end Go.Proofs.YtmncbcgcahfdcaaDoor
