/- THAT WATERSHED's LAW ControlAcks HOLDS (a checkpoint is done just when each of its parts was acked in the attempt in which it was begun, whatever the order): the tied card.
   Conditions: those that the card's own sentence names; none of mine. -/
import Derived.Test.YtkjajlolfcioiaaGreatDoorYRowCKQ
import Derived.Test.YtkjajlolfcioiaaGreatDoorYRowCKU
import Derived.Test.YtkjajlolfcioiaaGreatDoorYRowCKV
import Derived.SevenTiedAt
namespace Go.Proofs.YtkjajlolfcioiaaGreatDoor
open Go
set_option maxRecDepth 100000
theorem controlAcks_card : Rows.ControlAcksCardSaid :=
  Claim7.holds_tied_plain_at .later [] [.data, .data, .data, .data, .sentinel, .sentinel, .pinned] true (true, "da6baecc342bb206b33c00fb31546c72ced818e6433a420da0b6cd3e76c0421f") true
    controlAcks.over (fun _ h => by cases h) controlAcks.c_wf (fun _ h => by cases h) controlAcks_row_tie rfl ⟨rfl, rfl⟩ controlAcks.c_main rfl
    (fun f fn hf hfn => by
      obtain rfl : f = 8 := Option.some.inj (controlAcks.c_named.symm.trans hf) |>.symm
      obtain rfl : fn = Tryz.f8 := (Option.some.inj (Tryz.func8.symm.trans hfn)).symm
      exact ⟨controlAcks.c_looks, fun j t ht => by
        rw [Tryz.params8] at ht
        have hm : t ∈ [25, 64, 3] := by simpa using Array.mem_of_getElem? ht
        exact (show Tryz.prog.wantsStandIn t = false by simpa using List.all_eq_true.1 controlAcks.c_wants t hm)⟩)
    controlAcks.c_goes
#print axioms controlAcks_card
end Go.Proofs.YtkjajlolfcioiaaGreatDoor
