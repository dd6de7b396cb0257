/- The card's closed facts, one by one (beside one another they outgrow the kernel's memory). -/
import Derived.Test.YtkjajlolfcioiaaGreatDoorTie
import Derived.Test.YtkjajlolfcioiaaGreatDoorCards
import Derived.SevenTiedAt
import Derived.ProofKit
namespace Go.Proofs.YtkjajlolfcioiaaGreatDoor.controlTexts
open Go
set_option maxRecDepth 100000
theorem c_main : Tryz.pinned.checked.prog.mainIs = some (true, "da6baecc342bb206b33c00fb31546c72ced818e6433a420da0b6cd3e76c0421f".toList) := by kernel_rfl
theorem c_looks : true = Tryz.prog.looks [] := by kernel_rfl
end Go.Proofs.YtkjajlolfcioiaaGreatDoor.controlTexts
