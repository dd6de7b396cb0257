/- The row of ControlReads. -/
import Derived.Test.YtkjajlolfcioiaaGreatDoorYRowCEP
import Derived.Test.YtkjajlolfcioiaaGreatDoorYRowCET
namespace Go.Proofs.YtkjajlolfcioiaaGreatDoor.controlReads
open Go.ChangeShapes Go.WideShapes Go.ChangeAt Go.RowKit Go.Proofs.YtkjajlolfcioiaaGreatDoor
set_option maxRecDepth 100000
theorem over : Rows.controlReadsRow.holds Tryz.pinned (OpenSpec.ofChange Rows.controlReadsSpec) :=
  OpenClaim.holds_of_wide 14 Tryz.f14 rfl rfl rfl rfl rfl rfl rfl ⟨rfl, rfl, rfl, rfl, rfl⟩ rfl rfl rfl rfl rfl (by kernel_rfl) Tryz.func14 closed inst wrap
    (fun os started H enc _ => lifted os started H enc)
end Go.Proofs.YtkjajlolfcioiaaGreatDoor.controlReads
