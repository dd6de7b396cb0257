/- The row of ControlApart. -/
import Derived.Test.YtkjajlolfcioiaaGreatDoorYRowCAP
import Derived.Test.YtkjajlolfcioiaaGreatDoorYRowCAT
namespace Go.Proofs.YtkjajlolfcioiaaGreatDoor.controlApart
open Go.ChangeShapes Go.WideShapes Go.ChangeAt Go.RowKit Go.Proofs.YtkjajlolfcioiaaGreatDoor
set_option maxRecDepth 100000
theorem over : Rows.controlApartRow.holds Tryz.pinned (OpenSpec.ofChange Rows.controlApartSpec) :=
  OpenClaim.holds_of_wide 7 Tryz.f7 rfl rfl rfl rfl rfl rfl rfl ⟨rfl, rfl, rfl, rfl, rfl⟩ rfl rfl rfl rfl rfl (by kernel_rfl) Tryz.func7 closed inst wrap
    (fun os started H enc _ => lifted os started H enc)
end Go.Proofs.YtkjajlolfcioiaaGreatDoor.controlApart
