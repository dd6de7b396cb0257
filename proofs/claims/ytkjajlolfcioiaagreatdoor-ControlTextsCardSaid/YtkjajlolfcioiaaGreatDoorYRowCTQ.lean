/- The row of ControlTexts. -/
import Derived.Test.YtkjajlolfcioiaaGreatDoorYRowCTP
import Derived.Test.YtkjajlolfcioiaaGreatDoorYRowCTT
namespace Go.Proofs.YtkjajlolfcioiaaGreatDoor.controlTexts
open Go.ChangeShapes Go.WideShapes Go.ChangeAt Go.RowKit Go.Proofs.YtkjajlolfcioiaaGreatDoor
set_option maxRecDepth 100000
theorem over : Rows.controlTextsRow.holds Tryz.pinned (OpenSpec.ofChange Rows.controlTextsSpec) :=
  OpenClaim.holds_of_wide 13 Tryz.f13 rfl rfl rfl rfl rfl rfl rfl ⟨rfl, rfl, rfl, rfl, rfl⟩ rfl rfl rfl rfl rfl (by kernel_rfl) Tryz.func13 closed inst wrap
    (fun os started H enc _ => lifted os started H enc)
end Go.Proofs.YtkjajlolfcioiaaGreatDoor.controlTexts
