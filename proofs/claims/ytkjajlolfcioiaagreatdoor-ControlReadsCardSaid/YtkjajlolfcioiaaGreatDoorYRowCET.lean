/- the closed facts of the row, limb by limb (one kernel run over all of them takes more than 10 GB). -/
import Derived.Test.YtkjajlolfcioiaaGreatDoorTie
import Derived.JoinedOf
import Derived.ProofKit
import Derived.Below
namespace Go.Proofs.YtkjajlolfcioiaaGreatDoor.controlReads
open Go Go.Proofs.YtkjajlolfcioiaaGreatDoor
set_option maxRecDepth 100000
theorem g1 : (Rows.controlReadsRow.inPlace == Tryz.prog.inPlace 14) = true := by kernel_rfl
theorem g2 : (Rows.controlReadsRow.unfollowed == Tryz.prog.unfollowed 14) = true := by kernel_rfl
theorem g3 : (Rows.controlReadsRow.recurses == Tryz.prog.recurses 14) = true := by kernel_rfl
theorem g4 : (Rows.controlReadsRow.named == Tryz.prog.varsNamed 14) = true := by kernel_rfl
theorem closed : joinedFacts Tryz.prog 14 Tryz.f14 Rows.controlReadsSpec Rows.controlReadsRow = true := by
  unfold joinedFacts
  rw [g1, g2, g3, g4]
  kernel_rfl
theorem inst : Tryz.f14.isInstance Tryz.prog Rows.controlReadsRow.origin Rows.controlReadsRow.targs := of_decide_eq_true (by kernel_rfl)
theorem wrap : Tryz.f14.isWrapper Tryz.prog Rows.controlReadsRow.wrapper Rows.controlReadsRow.mainSum := by unfold Func.isWrapper; first | (rw [if_pos (by decide +kernel)]; kernel_rfl) | (rw [if_neg (by decide +kernel)]; exact ⟨rfl, rfl⟩)
end Go.Proofs.YtkjajlolfcioiaaGreatDoor.controlReads
