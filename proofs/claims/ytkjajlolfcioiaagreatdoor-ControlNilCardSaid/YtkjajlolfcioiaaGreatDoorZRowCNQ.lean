/- The row of ControlNil. -/
import Derived.Test.YtkjajlolfcioiaaGreatDoorZRowCNP
import Derived.Test.YtkjajlolfcioiaaGreatDoorZRowCNT
namespace Go.Proofs.YtkjajlolfcioiaaGreatDoor.controlNil
open Go.ChangeShapes Go.WideShapes Go.ChangeAt Go.RowKit Go.Proofs.YtkjajlolfcioiaaGreatDoor
set_option maxRecDepth 100000
theorem over : Rows.controlNilRow.holds Tryz.pinned (OpenSpec.ofChange Rows.controlNilSpec) :=
  OpenClaim.holds_of_wide 12 Tryz.f12 rfl rfl rfl rfl rfl rfl rfl ⟨rfl, rfl, rfl, rfl, rfl⟩ rfl rfl rfl rfl rfl (by kernel_rfl) Tryz.func12 closed inst wrap
    (fun os started H enc _ => lifted os started H enc)
end Go.Proofs.YtkjajlolfcioiaaGreatDoor.controlNil
