/- The row of ControlSpreads. -/
import Derived.Test.YtkjajlolfcioiaaGreatDoorYRowCPP
import Derived.Test.YtkjajlolfcioiaaGreatDoorYRowCPT
namespace Go.Proofs.YtkjajlolfcioiaaGreatDoor.controlSpreads
open Go.ChangeShapes Go.WideShapes Go.ChangeAt Go.RowKit Go.Proofs.YtkjajlolfcioiaaGreatDoor
set_option maxRecDepth 100000
theorem over : Rows.controlSpreadsRow.holds Tryz.pinned (OpenSpec.ofChange Rows.controlSpreadsSpec) :=
  OpenClaim.holds_of_wide 9 Tryz.f9 rfl rfl rfl rfl rfl rfl rfl ⟨rfl, rfl, rfl, rfl, rfl⟩ rfl rfl rfl rfl rfl (by kernel_rfl) Tryz.func9 closed inst wrap
    (fun os started H enc _ => lifted os started H enc)
end Go.Proofs.YtkjajlolfcioiaaGreatDoor.controlSpreads
