/- The card's closed facts, one by one: which goroutines are begun. -/
import Derived.Test.YtkjajlolfcioiaaGreatDoorTie
import Derived.Test.YtkjajlolfcioiaaGreatDoorCards
import Derived.SevenTiedAt
import Derived.ProofKit
namespace Go.Proofs.YtkjajlolfcioiaaGreatDoor.controlTexts
open Go Go.Proofs.YtkjajlolfcioiaaGreatDoor
set_option maxRecDepth 100000
theorem c_wf : Rows.controlTextsRow.wfByText (OpenSpec.ofChange Rows.controlTextsSpec) = true := by kernel_rfl
theorem c_named : Tryz.prog.funcNamed "watershed/watershedlaw21.ControlTexts" = some 13 := by kernel_rfl
theorem c_wants : ([60, 9].all fun u => !Tryz.prog.wantsStandIn u) = true := by kernel_rfl
theorem c_goes : false = Rows.controlTextsRow.goesBy Tryz.pinned.checked.prog := by kernel_rfl
end Go.Proofs.YtkjajlolfcioiaaGreatDoor.controlTexts
