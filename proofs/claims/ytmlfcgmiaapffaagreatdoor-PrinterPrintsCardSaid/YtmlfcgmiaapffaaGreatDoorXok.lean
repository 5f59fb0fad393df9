/- Two library functions are met by their contracts. -/
import Derived.Test.YtmlfcgmiaapffaaGreatDoorShelf
import Derived.Test.YtmlfcgmiaapffaaGreatDoorVL
import Derived.KernelRfl
namespace Go.Proofs.YtmlfcgmiaapffaaGreatDoor
open Go.Vm Go.RowKit
theorem below_bytes {w w' : World} {e : TypeId} (h : w' = w ∨ ∃ t, w' = Lib.bytesWorld w e t) : Below w.heap.size w w' := by
  rcases h with rfl | ⟨t, rfl⟩
  · exact Below.refl _ _
  · exact Lib.bytesWorld_below w e t
theorem below_grow (w : World) (k : Nat) (os : Array Obj) : Below w.heap.size w (Sort.grow (w.drewN k) os) := by
  refine ⟨rfl, rfl, rfl, ?_, fun b hb => ?_⟩
  · show w.heap.size ≤ (w.heap ++ os).size
    rw [Array.size_append]; omega
  · show (w.heap ++ os)[b]? = w.heap[b]?
    rw [Array.getElem?_append_left hb]
theorem parse_xok : ParseOK Tryz.prog 102 := by
  refine ⟨⟨Tryz.f102, _, Tryz.func102, rfl, by kernel_rfl⟩, fun T hT => ?_⟩
  have e : T = 174 := Option.some.inj (hT.symm.trans (by kernel_rfl))
  subst e
  refine ⟨fun s hs v h w => ?_, fun s hs h w hx => ?_, fun s hs h w hx => ?_⟩
  · exact (Tryz.strconv_ParseInt_10_at64_ok s (by omega) v h w).mono fun e w' hp => ⟨hp.1, below_bytes hp.2⟩
  · obtain ⟨u, v, hc⟩ := hx.2 "strconv.ErrSyntax" (by decide) 2 (by kernel_rfl)
    exact (Tryz.strconv_ParseInt_10_at64_syntax s hs h _ w hc (.inr ⟨u, v, rfl⟩)).mono fun e w' hp => by
      obtain ⟨N, h1, _, _, h4⟩ := hp
      exact ⟨_, h1, h4⟩
  · obtain ⟨u, v, hc⟩ := hx.2 "strconv.ErrRange" (by decide) 3 (by kernel_rfl)
    exact (Tryz.strconv_ParseInt_10_at64_range s hs h _ w hc (.inr ⟨u, v, rfl⟩)).mono fun e w' hp => by
      obtain ⟨N, h1, _, _, h4⟩ := hp
      exact ⟨_, h1, h4⟩
theorem format_xok : FormatOK Tryz.prog 68 := by
  refine ⟨⟨Tryz.f68, _, Tryz.func68, rfl, by kernel_rfl⟩, fun n h0 h1 w ht => ?_⟩
  exact (Tryz.strconv_FormatInt_10 n h0 h1 w ht).mono fun e w' hp => by
    obtain ⟨h1, k, os, rfl⟩ := hp
    exact ⟨h1, below_grow w k os⟩
theorem xok : XOK Tryz.prog := xok_mk 68 102 (by kernel_rfl) (by kernel_rfl) (fun _ => format_xok) (fun _ => parse_xok) (by kernel_rfl)
end Go.Proofs.YtmlfcgmiaapffaaGreatDoor
