/- The row and the card of GraphPairs. -/
import Derived.Test.YtkjajlolfcioiaaGreatDoorRowGP
import Derived.Test.YtkjajlolfcioiaaGreatDoorRowGT
namespace Go.Proofs.YtkjajlolfcioiaaGreatDoor.graphPairs
open Go.ChangeShapes Go.WideShapes Go.ChangeAt Go.RowKit Go.Proofs.YtkjajlolfcioiaaGreatDoor
set_option maxRecDepth 100000
theorem over : Rows.graphPairsRow.holds Tryz.pinned (OpenSpec.ofChange Rows.graphPairsSpec) :=
  OpenClaim.holds_of_wide 4 Tryz.f4 rfl rfl rfl rfl rfl rfl rfl ⟨rfl, rfl, rfl, rfl, rfl⟩ rfl rfl rfl rfl rfl (by kernel_rfl) Tryz.func4 closed inst wrap
    (fun os started H enc _ => lifted os started H enc)
end Go.Proofs.YtkjajlolfcioiaaGreatDoor.graphPairs
