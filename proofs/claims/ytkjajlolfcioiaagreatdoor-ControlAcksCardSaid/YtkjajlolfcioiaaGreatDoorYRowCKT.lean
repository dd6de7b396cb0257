/- the closed facts of the row, limb by limb (one kernel run over all of them takes more than 10 GB). -/
import Derived.Test.YtkjajlolfcioiaaGreatDoorTie
import Derived.JoinedOf
import Derived.ProofKit
import Derived.Below
namespace Go.Proofs.YtkjajlolfcioiaaGreatDoor.controlAcks
open Go Go.Proofs.YtkjajlolfcioiaaGreatDoor
set_option maxRecDepth 100000
theorem g1 : (Rows.controlAcksRow.inPlace == Tryz.prog.inPlace 8) = true := by kernel_rfl
theorem g2 : (Rows.controlAcksRow.unfollowed == Tryz.prog.unfollowed 8) = true := by kernel_rfl
theorem g3 : (Rows.controlAcksRow.recurses == Tryz.prog.recurses 8) = true := by kernel_rfl
theorem g4 : (Rows.controlAcksRow.named == Tryz.prog.varsNamed 8) = true := by kernel_rfl
theorem closed : joinedFacts Tryz.prog 8 Tryz.f8 Rows.controlAcksSpec Rows.controlAcksRow = true := by
  unfold joinedFacts
  rw [g1, g2, g3, g4]
  kernel_rfl
theorem inst : Tryz.f8.isInstance Tryz.prog Rows.controlAcksRow.origin Rows.controlAcksRow.targs := of_decide_eq_true (by kernel_rfl)
theorem wrap : Tryz.f8.isWrapper Tryz.prog Rows.controlAcksRow.wrapper Rows.controlAcksRow.mainSum := by unfold Func.isWrapper; first | (rw [if_pos (by decide +kernel)]; kernel_rfl) | (rw [if_neg (by decide +kernel)]; exact ⟨rfl, rfl⟩)
end Go.Proofs.YtkjajlolfcioiaaGreatDoor.controlAcks
