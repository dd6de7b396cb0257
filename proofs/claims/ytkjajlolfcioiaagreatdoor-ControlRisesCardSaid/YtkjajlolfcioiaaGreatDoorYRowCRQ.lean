/- The row of ControlRises. -/
import Derived.Test.YtkjajlolfcioiaaGreatDoorYRowCRP
import Derived.Test.YtkjajlolfcioiaaGreatDoorYRowCRT
namespace Go.Proofs.YtkjajlolfcioiaaGreatDoor.controlRises
open Go.ChangeShapes Go.WideShapes Go.ChangeAt Go.RowKit Go.Proofs.YtkjajlolfcioiaaGreatDoor
set_option maxRecDepth 100000
theorem over : Rows.controlRisesRow.holds Tryz.pinned (OpenSpec.ofChange Rows.controlRisesSpec) :=
  OpenClaim.holds_of_wide 6 Tryz.f6 rfl rfl rfl rfl rfl rfl rfl ⟨rfl, rfl, rfl, rfl, rfl⟩ rfl rfl rfl rfl rfl (by kernel_rfl) Tryz.func6 closed inst wrap
    (fun os started H enc _ => lifted os started H enc)
end Go.Proofs.YtkjajlolfcioiaaGreatDoor.controlRises
