/- THAT WATERSHED's LAW ControlStarts HOLDS (a flow that was not started has no attempt; one that was and has live workers runs; none has a checkpoint under way that does not run): the tied card.
   Conditions: those that the card's own sentence names; none of mine. -/
import Derived.Test.YtkjajlolfcioiaaGreatDoorYRowCSQ
import Derived.Test.YtkjajlolfcioiaaGreatDoorYRowCSU
import Derived.Test.YtkjajlolfcioiaaGreatDoorYRowCSV
import Derived.SevenTiedAt
namespace Go.Proofs.YtkjajlolfcioiaaGreatDoor
open Go
set_option maxRecDepth 100000
theorem controlStarts_card : Rows.ControlStartsCardSaid :=
  Claim7.holds_tied_plain_at .later [] [.data, .data, .data, .data, .sentinel, .sentinel, .pinned] true (true, "da6baecc342bb206b33c00fb31546c72ced818e6433a420da0b6cd3e76c0421f") true
    controlStarts.over (fun _ h => by cases h) controlStarts.c_wf (fun _ h => by cases h) controlStarts_row_tie rfl ⟨rfl, rfl⟩ controlStarts.c_main rfl
    (fun f fn hf hfn => by
      obtain rfl : f = 10 := Option.some.inj (controlStarts.c_named.symm.trans hf) |>.symm
      obtain rfl : fn = Tryz.f10 := (Option.some.inj (Tryz.func10.symm.trans hfn)).symm
      exact ⟨controlStarts.c_looks, fun j t ht => by
        rw [Tryz.params10] at ht
        have hm : t ∈ [25, 47] := by simpa using Array.mem_of_getElem? ht
        exact (show Tryz.prog.wantsStandIn t = false by simpa using List.all_eq_true.1 controlStarts.c_wants t hm)⟩)
    controlStarts.c_goes
#print axioms controlStarts_card
end Go.Proofs.YtkjajlolfcioiaaGreatDoor
