/- The row of ControlStarts. -/
import Derived.Test.YtkjajlolfcioiaaGreatDoorYRowCSP
import Derived.Test.YtkjajlolfcioiaaGreatDoorYRowCST
namespace Go.Proofs.YtkjajlolfcioiaaGreatDoor.controlStarts
open Go.ChangeShapes Go.WideShapes Go.ChangeAt Go.RowKit Go.Proofs.YtkjajlolfcioiaaGreatDoor
set_option maxRecDepth 100000
theorem over : Rows.controlStartsRow.holds Tryz.pinned (OpenSpec.ofChange Rows.controlStartsSpec) :=
  OpenClaim.holds_of_wide 10 Tryz.f10 rfl rfl rfl rfl rfl rfl rfl ⟨rfl, rfl, rfl, rfl, rfl⟩ rfl rfl rfl rfl rfl (by kernel_rfl) Tryz.func10 closed inst wrap
    (fun os started H enc _ => lifted os started H enc)
end Go.Proofs.YtkjajlolfcioiaaGreatDoor.controlStarts
