/- THAT WATERSHED's LAW ControlApart HOLDS (a command that names a flow changes that flow alone; so does a worker that comes or is lost those alone that were on it or that wait): the tied card.
   Conditions: those that the card's own sentence names; none of mine. -/
import Derived.Test.YtkjajlolfcioiaaGreatDoorYRowCAQ
import Derived.Test.YtkjajlolfcioiaaGreatDoorYRowCAU
import Derived.Test.YtkjajlolfcioiaaGreatDoorYRowCAV
import Derived.SevenTiedAt
namespace Go.Proofs.YtkjajlolfcioiaaGreatDoor
open Go
set_option maxRecDepth 100000
theorem controlApart_card : Rows.ControlApartCardSaid :=
  Claim7.holds_tied_plain_at .later [] [.data, .data, .data, .data, .sentinel, .sentinel, .pinned] true (true, "da6baecc342bb206b33c00fb31546c72ced818e6433a420da0b6cd3e76c0421f") true
    controlApart.over (fun _ h => by cases h) controlApart.c_wf (fun _ h => by cases h) controlApart_row_tie rfl ⟨rfl, rfl⟩ controlApart.c_main rfl
    (fun f fn hf hfn => by
      obtain rfl : f = 7 := Option.some.inj (controlApart.c_named.symm.trans hf) |>.symm
      obtain rfl : fn = Tryz.f7 := (Option.some.inj (Tryz.func7.symm.trans hfn)).symm
      exact ⟨controlApart.c_looks, fun j t ht => by
        rw [Tryz.params7] at ht
        have hm : t ∈ [25, 47] := by simpa using Array.mem_of_getElem? ht
        exact (show Tryz.prog.wantsStandIn t = false by simpa using List.all_eq_true.1 controlApart.c_wants t hm)⟩)
    controlApart.c_goes
#print axioms controlApart_card
end Go.Proofs.YtkjajlolfcioiaaGreatDoor
