/- THAT WATERSHED's LAW GraphPairs HOLDS (a flow is ahead of another just if that one is behind it; an order has each flow once, behind all that it hangs on; there is none just if some flow is behind itself): the tied card.
   Conditions: those that the card's own sentence names; none of mine. -/
import Derived.Test.YtkjajlolfcioiaaGreatDoorRowGQ
import Derived.Test.YtkjajlolfcioiaaGreatDoorRowGU
import Derived.Test.YtkjajlolfcioiaaGreatDoorRowGV
import Derived.SevenTiedAt
namespace Go.Proofs.YtkjajlolfcioiaaGreatDoor
open Go
set_option maxRecDepth 100000
theorem graphPairs_card : Rows.GraphPairsCardSaid :=
  Claim7.holds_tied_plain_at .later [] [.data, .data, .data, .data, .sentinel, .sentinel, .pinned] true (true, "da6baecc342bb206b33c00fb31546c72ced818e6433a420da0b6cd3e76c0421f") true
    graphPairs.over (fun _ h => by cases h) gp_wf (fun _ h => by cases h) graphPairs_row_tie rfl ⟨rfl, rfl⟩ gp_main rfl
    (fun f fn hf hfn => by
      obtain rfl : f = 4 := Option.some.inj (gp_named.symm.trans hf) |>.symm
      obtain rfl : fn = Tryz.f4 := (Option.some.inj (Tryz.func4.symm.trans hfn)).symm
      exact ⟨gp_looks, fun j t ht => by
        rw [Tryz.params4] at ht
        have hm : t ∈ [25] := by simpa using Array.mem_of_getElem? ht
        exact (show Tryz.prog.wantsStandIn t = false by simpa using List.all_eq_true.1 gp_wants t hm)⟩)
    gp_goes
#print axioms graphPairs_card
end Go.Proofs.YtkjajlolfcioiaaGreatDoor
