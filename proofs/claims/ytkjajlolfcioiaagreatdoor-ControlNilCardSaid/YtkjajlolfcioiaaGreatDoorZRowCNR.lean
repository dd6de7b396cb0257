/- THAT WATERSHED's LAW ControlNil HOLDS (no control answers every command with its own error, tells an empty job, no worker, no life): the tied card.
   Conditions: those that the card's own sentence names; none of mine. -/
import Derived.Test.YtkjajlolfcioiaaGreatDoorZRowCNQ
import Derived.Test.YtkjajlolfcioiaaGreatDoorZRowCNU
import Derived.Test.YtkjajlolfcioiaaGreatDoorZRowCNV
import Derived.SevenTiedAt
namespace Go.Proofs.YtkjajlolfcioiaaGreatDoor
open Go
set_option maxRecDepth 100000
theorem controlNil_card : Rows.ControlNilCardSaid :=
  Claim7.holds_tied_plain_at .later [] [.data, .data, .data, .data, .sentinel, .sentinel, .pinned] true (true, "da6baecc342bb206b33c00fb31546c72ced818e6433a420da0b6cd3e76c0421f") true
    controlNil.over (fun _ h => by cases h) controlNil.c_wf (fun _ h => by cases h) controlNil_row_tie rfl ⟨rfl, rfl⟩ controlNil.c_main rfl
    (fun f fn hf hfn => by
      obtain rfl : f = 12 := Option.some.inj (controlNil.c_named.symm.trans hf) |>.symm
      obtain rfl : fn = Tryz.f12 := (Option.some.inj (Tryz.func12.symm.trans hfn)).symm
      exact ⟨controlNil.c_looks, fun j t ht => by
        rw [Tryz.params12] at ht
        have hm : t ∈ [60] := by simpa using Array.mem_of_getElem? ht
        exact (show Tryz.prog.wantsStandIn t = false by simpa using List.all_eq_true.1 controlNil.c_wants t hm)⟩)
    controlNil.c_goes
#print axioms controlNil_card
end Go.Proofs.YtkjajlolfcioiaaGreatDoor
