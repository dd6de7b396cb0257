/- THAT WATERSHED's LAW ControlSpreads HOLDS (the readers and keepers of a flow that runs are spread over the live workers: of two live ones one has at most one more than the other): the tied card.
   Conditions: those that the card's own sentence names; none of mine. -/
import Derived.Test.YtkjajlolfcioiaaGreatDoorYRowCPQ
import Derived.Test.YtkjajlolfcioiaaGreatDoorYRowCPU
import Derived.Test.YtkjajlolfcioiaaGreatDoorYRowCPV
import Derived.SevenTiedAt
namespace Go.Proofs.YtkjajlolfcioiaaGreatDoor
open Go
set_option maxRecDepth 100000
theorem controlSpreads_card : Rows.ControlSpreadsCardSaid :=
  Claim7.holds_tied_plain_at .later [] [.data, .data, .data, .data, .sentinel, .sentinel, .pinned] true (true, "da6baecc342bb206b33c00fb31546c72ced818e6433a420da0b6cd3e76c0421f") true
    controlSpreads.over (fun _ h => by cases h) controlSpreads.c_wf (fun _ h => by cases h) controlSpreads_row_tie rfl ⟨rfl, rfl⟩ controlSpreads.c_main rfl
    (fun f fn hf hfn => by
      obtain rfl : f = 9 := Option.some.inj (controlSpreads.c_named.symm.trans hf) |>.symm
      obtain rfl : fn = Tryz.f9 := (Option.some.inj (Tryz.func9.symm.trans hfn)).symm
      exact ⟨controlSpreads.c_looks, fun j t ht => by
        rw [Tryz.params9] at ht
        have hm : t ∈ [25, 47] := by simpa using Array.mem_of_getElem? ht
        exact (show Tryz.prog.wantsStandIn t = false by simpa using List.all_eq_true.1 controlSpreads.c_wants t hm)⟩)
    controlSpreads.c_goes
#print axioms controlSpreads_card
end Go.Proofs.YtkjajlolfcioiaaGreatDoor
