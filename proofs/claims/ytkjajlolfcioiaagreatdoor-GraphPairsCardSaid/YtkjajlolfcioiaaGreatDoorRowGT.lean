/- the closed facts of the row, limb by limb (one kernel run over all of them takes more than 10 GB). -/
import Derived.Test.YtkjajlolfcioiaaGreatDoorTie
import Derived.JoinedOf
import Derived.ProofKit
import Derived.Below
namespace Go.Proofs.YtkjajlolfcioiaaGreatDoor.graphPairs
open Go Go.Proofs.YtkjajlolfcioiaaGreatDoor
set_option maxRecDepth 100000
theorem g1 : (Rows.graphPairsRow.inPlace == Tryz.prog.inPlace 4) = true := by kernel_rfl
theorem g2 : (Rows.graphPairsRow.unfollowed == Tryz.prog.unfollowed 4) = true := by kernel_rfl
theorem g3 : (Rows.graphPairsRow.recurses == Tryz.prog.recurses 4) = true := by kernel_rfl
theorem g4 : (Rows.graphPairsRow.named == Tryz.prog.varsNamed 4) = true := by kernel_rfl
theorem closed : joinedFacts Tryz.prog 4 Tryz.f4 Rows.graphPairsSpec Rows.graphPairsRow = true := by
  unfold joinedFacts
  rw [g1, g2, g3, g4]
  kernel_rfl
theorem inst : Tryz.f4.isInstance Tryz.prog Rows.graphPairsRow.origin Rows.graphPairsRow.targs := of_decide_eq_true (by kernel_rfl)
theorem wrap : Tryz.f4.isWrapper Tryz.prog Rows.graphPairsRow.wrapper Rows.graphPairsRow.mainSum := by unfold Func.isWrapper; first | (rw [if_pos (by decide +kernel)]; kernel_rfl) | (rw [if_neg (by decide +kernel)]; exact ⟨rfl, rfl⟩)
end Go.Proofs.YtkjajlolfcioiaaGreatDoor.graphPairs
