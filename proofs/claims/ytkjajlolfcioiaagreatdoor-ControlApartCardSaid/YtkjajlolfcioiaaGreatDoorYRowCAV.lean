/- The card's closed facts, one by one: which goroutines are begun. -/
import Derived.Test.YtkjajlolfcioiaaGreatDoorTie
import Derived.Test.YtkjajlolfcioiaaGreatDoorCards
import Derived.SevenTiedAt
import Derived.ProofKit
namespace Go.Proofs.YtkjajlolfcioiaaGreatDoor.controlApart
open Go Go.Proofs.YtkjajlolfcioiaaGreatDoor
set_option maxRecDepth 100000
theorem c_wf : Rows.controlApartRow.wfByText (OpenSpec.ofChange Rows.controlApartSpec) = true := by kernel_rfl
theorem c_named : Tryz.prog.funcNamed "watershed/watershedlaw21.ControlApart" = some 7 := by kernel_rfl
theorem c_wants : ([25, 47].all fun u => !Tryz.prog.wantsStandIn u) = true := by kernel_rfl
theorem c_goes : false = Rows.controlApartRow.goesBy Tryz.pinned.checked.prog := by kernel_rfl
end Go.Proofs.YtkjajlolfcioiaaGreatDoor.controlApart
