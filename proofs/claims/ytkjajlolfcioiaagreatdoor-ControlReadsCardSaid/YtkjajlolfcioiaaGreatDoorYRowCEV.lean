/- The card's closed facts, one by one: which goroutines are begun. -/
import Derived.Test.YtkjajlolfcioiaaGreatDoorTie
import Derived.Test.YtkjajlolfcioiaaGreatDoorCards
import Derived.SevenTiedAt
import Derived.ProofKit
namespace Go.Proofs.YtkjajlolfcioiaaGreatDoor.controlReads
open Go Go.Proofs.YtkjajlolfcioiaaGreatDoor
set_option maxRecDepth 100000
theorem c_wf : Rows.controlReadsRow.wfByText (OpenSpec.ofChange Rows.controlReadsSpec) = true := by kernel_rfl
theorem c_named : Tryz.prog.funcNamed "watershed/watershedlaw21.ControlReads" = some 14 := by kernel_rfl
theorem c_wants : ([25, 47].all fun u => !Tryz.prog.wantsStandIn u) = true := by kernel_rfl
theorem c_goes : false = Rows.controlReadsRow.goesBy Tryz.pinned.checked.prog := by kernel_rfl
end Go.Proofs.YtkjajlolfcioiaaGreatDoor.controlReads
