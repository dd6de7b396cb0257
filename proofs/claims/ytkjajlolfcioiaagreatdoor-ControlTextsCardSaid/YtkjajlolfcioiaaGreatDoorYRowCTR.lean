/- THAT WATERSHED's LAW ControlTexts HOLDS (any command's text is the document's, and is read as it; any text is read as the command that it is, or refused): the tied card.
   Conditions: those that the card's own sentence names; none of mine. -/
import Derived.Test.YtkjajlolfcioiaaGreatDoorYRowCTQ
import Derived.Test.YtkjajlolfcioiaaGreatDoorYRowCTU
import Derived.Test.YtkjajlolfcioiaaGreatDoorYRowCTV
import Derived.SevenTiedAt
namespace Go.Proofs.YtkjajlolfcioiaaGreatDoor
open Go
set_option maxRecDepth 100000
theorem controlTexts_card : Rows.ControlTextsCardSaid :=
  Claim7.holds_tied_plain_at .later [] [.data, .data, .data, .data, .sentinel, .sentinel, .pinned] true (true, "da6baecc342bb206b33c00fb31546c72ced818e6433a420da0b6cd3e76c0421f") true
    controlTexts.over (fun _ h => by cases h) controlTexts.c_wf (fun _ h => by cases h) controlTexts_row_tie rfl ⟨rfl, rfl⟩ controlTexts.c_main rfl
    (fun f fn hf hfn => by
      obtain rfl : f = 13 := Option.some.inj (controlTexts.c_named.symm.trans hf) |>.symm
      obtain rfl : fn = Tryz.f13 := (Option.some.inj (Tryz.func13.symm.trans hfn)).symm
      exact ⟨controlTexts.c_looks, fun j t ht => by
        rw [Tryz.params13] at ht
        have hm : t ∈ [60, 9] := by simpa using Array.mem_of_getElem? ht
        exact (show Tryz.prog.wantsStandIn t = false by simpa using List.all_eq_true.1 controlTexts.c_wants t hm)⟩)
    controlTexts.c_goes
#print axioms controlTexts_card
end Go.Proofs.YtkjajlolfcioiaaGreatDoor
