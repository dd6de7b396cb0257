/- The card's closed facts, one by one: which goroutines are begun. -/
import Derived.Test.YtkjajlolfcioiaaGreatDoorTie
import Derived.Test.YtkjajlolfcioiaaGreatDoorCards
import Derived.SevenTiedAt
import Derived.ProofKit
namespace Go.Proofs.YtkjajlolfcioiaaGreatDoor.controlRises
open Go Go.Proofs.YtkjajlolfcioiaaGreatDoor
set_option maxRecDepth 100000
theorem c_wf : Rows.controlRisesRow.wfByText (OpenSpec.ofChange Rows.controlRisesSpec) = true := by kernel_rfl
theorem c_named : Tryz.prog.funcNamed "watershed/watershedlaw21.ControlRises" = some 6 := by kernel_rfl
theorem c_wants : ([25, 47].all fun u => !Tryz.prog.wantsStandIn u) = true := by kernel_rfl
theorem c_goes : false = Rows.controlRisesRow.goesBy Tryz.pinned.checked.prog := by kernel_rfl
end Go.Proofs.YtkjajlolfcioiaaGreatDoor.controlRises
