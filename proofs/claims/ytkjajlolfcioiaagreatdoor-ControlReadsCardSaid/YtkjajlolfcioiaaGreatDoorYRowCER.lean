/- THAT WATERSHED's LAW ControlReads HOLDS (commands that go as texts do what they do themselves: two controls, one told by texts, are the same, behind each): the tied card.
   Conditions: those that the card's own sentence names; none of mine. -/
import Derived.Test.YtkjajlolfcioiaaGreatDoorYRowCEQ
import Derived.Test.YtkjajlolfcioiaaGreatDoorYRowCEU
import Derived.Test.YtkjajlolfcioiaaGreatDoorYRowCEV
import Derived.SevenTiedAt
namespace Go.Proofs.YtkjajlolfcioiaaGreatDoor
open Go
set_option maxRecDepth 100000
theorem controlReads_card : Rows.ControlReadsCardSaid :=
  Claim7.holds_tied_plain_at .later [] [.data, .data, .data, .data, .sentinel, .sentinel, .pinned] true (true, "da6baecc342bb206b33c00fb31546c72ced818e6433a420da0b6cd3e76c0421f") true
    controlReads.over (fun _ h => by cases h) controlReads.c_wf (fun _ h => by cases h) controlReads_row_tie rfl ⟨rfl, rfl⟩ controlReads.c_main rfl
    (fun f fn hf hfn => by
      obtain rfl : f = 14 := Option.some.inj (controlReads.c_named.symm.trans hf) |>.symm
      obtain rfl : fn = Tryz.f14 := (Option.some.inj (Tryz.func14.symm.trans hfn)).symm
      exact ⟨controlReads.c_looks, fun j t ht => by
        rw [Tryz.params14] at ht
        have hm : t ∈ [25, 47] := by simpa using Array.mem_of_getElem? ht
        exact (show Tryz.prog.wantsStandIn t = false by simpa using List.all_eq_true.1 controlReads.c_wants t hm)⟩)
    controlReads.c_goes
#print axioms controlReads_card
end Go.Proofs.YtkjajlolfcioiaaGreatDoor
