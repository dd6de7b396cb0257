/- the closed facts of the row, limb by limb (one kernel run over all of them takes more than 10 GB). -/
import Derived.Test.YtkjajlolfcioiaaGreatDoorTie
import Derived.JoinedOf
import Derived.ProofKit
import Derived.Below
namespace Go.Proofs.YtkjajlolfcioiaaGreatDoor.controlRises
open Go Go.Proofs.YtkjajlolfcioiaaGreatDoor
set_option maxRecDepth 100000
theorem g1 : (Rows.controlRisesRow.inPlace == Tryz.prog.inPlace 6) = true := by kernel_rfl
theorem g2 : (Rows.controlRisesRow.unfollowed == Tryz.prog.unfollowed 6) = true := by kernel_rfl
theorem g3 : (Rows.controlRisesRow.recurses == Tryz.prog.recurses 6) = true := by kernel_rfl
theorem g4 : (Rows.controlRisesRow.named == Tryz.prog.varsNamed 6) = true := by kernel_rfl
theorem closed : joinedFacts Tryz.prog 6 Tryz.f6 Rows.controlRisesSpec Rows.controlRisesRow = true := by
  unfold joinedFacts
  rw [g1, g2, g3, g4]
  kernel_rfl
theorem inst : Tryz.f6.isInstance Tryz.prog Rows.controlRisesRow.origin Rows.controlRisesRow.targs := of_decide_eq_true (by kernel_rfl)
theorem wrap : Tryz.f6.isWrapper Tryz.prog Rows.controlRisesRow.wrapper Rows.controlRisesRow.mainSum := by unfold Func.isWrapper; first | (rw [if_pos (by decide +kernel)]; kernel_rfl) | (rw [if_neg (by decide +kernel)]; exact ⟨rfl, rfl⟩)
end Go.Proofs.YtkjajlolfcioiaaGreatDoor.controlRises
