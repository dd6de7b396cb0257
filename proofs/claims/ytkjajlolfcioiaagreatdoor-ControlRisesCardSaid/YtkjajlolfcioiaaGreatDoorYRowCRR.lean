/- THAT WATERSHED's LAW ControlRises HOLDS (attempts, numbers and what is done never fall; what is done was under way just ahead; the readers and keepers of a flow that runs are all on live workers): the tied card.
   Conditions: those that the card's own sentence names; none of mine. -/
import Derived.Test.YtkjajlolfcioiaaGreatDoorYRowCRQ
import Derived.Test.YtkjajlolfcioiaaGreatDoorYRowCRU
import Derived.Test.YtkjajlolfcioiaaGreatDoorYRowCRV
import Derived.SevenTiedAt
namespace Go.Proofs.YtkjajlolfcioiaaGreatDoor
open Go
set_option maxRecDepth 100000
theorem controlRises_card : Rows.ControlRisesCardSaid :=
  Claim7.holds_tied_plain_at .later [] [.data, .data, .data, .data, .sentinel, .sentinel, .pinned] true (true, "da6baecc342bb206b33c00fb31546c72ced818e6433a420da0b6cd3e76c0421f") true
    controlRises.over (fun _ h => by cases h) controlRises.c_wf (fun _ h => by cases h) controlRises_row_tie rfl ⟨rfl, rfl⟩ controlRises.c_main rfl
    (fun f fn hf hfn => by
      obtain rfl : f = 6 := Option.some.inj (controlRises.c_named.symm.trans hf) |>.symm
      obtain rfl : fn = Tryz.f6 := (Option.some.inj (Tryz.func6.symm.trans hfn)).symm
      exact ⟨controlRises.c_looks, fun j t ht => by
        rw [Tryz.params6] at ht
        have hm : t ∈ [25, 47] := by simpa using Array.mem_of_getElem? ht
        exact (show Tryz.prog.wantsStandIn t = false by simpa using List.all_eq_true.1 controlRises.c_wants t hm)⟩)
    controlRises.c_goes
#print axioms controlRises_card
end Go.Proofs.YtkjajlolfcioiaaGreatDoor
