/- The card's closed facts, one by one: which goroutines are begun. -/
import Derived.Test.YtkjajlolfcioiaaGreatDoorTie
import Derived.Test.YtkjajlolfcioiaaGreatDoorCards
import Derived.SevenTiedAt
import Derived.ProofKit
namespace Go.Proofs.YtkjajlolfcioiaaGreatDoor
open Go
set_option maxRecDepth 100000
theorem gp_wf : Rows.graphPairsRow.wfByText (OpenSpec.ofChange Rows.graphPairsSpec) = true := by kernel_rfl
theorem gp_named : Tryz.prog.funcNamed "watershed/watershedlaw06.GraphPairs" = some 4 := by kernel_rfl
theorem gp_wants : ([25].all fun u => !Tryz.prog.wantsStandIn u) = true := by kernel_rfl
theorem gp_goes : false = Rows.graphPairsRow.goesBy Tryz.pinned.checked.prog := by kernel_rfl
end Go.Proofs.YtkjajlolfcioiaaGreatDoor
