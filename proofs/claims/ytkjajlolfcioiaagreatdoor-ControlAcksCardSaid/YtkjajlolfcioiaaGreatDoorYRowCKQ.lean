/- The row of ControlAcks. -/
import Derived.Test.YtkjajlolfcioiaaGreatDoorYRowCKP
import Derived.Test.YtkjajlolfcioiaaGreatDoorYRowCKT
namespace Go.Proofs.YtkjajlolfcioiaaGreatDoor.controlAcks
open Go.ChangeShapes Go.WideShapes Go.ChangeAt Go.RowKit Go.Proofs.YtkjajlolfcioiaaGreatDoor
set_option maxRecDepth 100000
theorem over : Rows.controlAcksRow.holds Tryz.pinned (OpenSpec.ofChange Rows.controlAcksSpec) :=
  OpenClaim.holds_of_wide 8 Tryz.f8 rfl rfl rfl rfl rfl rfl rfl ⟨rfl, rfl, rfl, rfl, rfl⟩ rfl rfl rfl rfl rfl (by kernel_rfl) Tryz.func8 closed inst wrap
    (fun os started H enc _ => lifted os started H enc)
end Go.Proofs.YtkjajlolfcioiaaGreatDoor.controlAcks
