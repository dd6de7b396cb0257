/- the closed facts of the row, limb by limb (one kernel run over all of them takes more than 10 GB). -/
import Derived.Test.YtkjajlolfcioiaaGreatDoorTie
import Derived.JoinedOf
import Derived.ProofKit
import Derived.Below
namespace Go.Proofs.YtkjajlolfcioiaaGreatDoor.controlSpreads
open Go Go.Proofs.YtkjajlolfcioiaaGreatDoor
set_option maxRecDepth 100000
theorem g1 : (Rows.controlSpreadsRow.inPlace == Tryz.prog.inPlace 9) = true := by kernel_rfl
theorem g2 : (Rows.controlSpreadsRow.unfollowed == Tryz.prog.unfollowed 9) = true := by kernel_rfl
theorem g3 : (Rows.controlSpreadsRow.recurses == Tryz.prog.recurses 9) = true := by kernel_rfl
theorem g4 : (Rows.controlSpreadsRow.named == Tryz.prog.varsNamed 9) = true := by kernel_rfl
theorem closed : joinedFacts Tryz.prog 9 Tryz.f9 Rows.controlSpreadsSpec Rows.controlSpreadsRow = true := by
  unfold joinedFacts
  rw [g1, g2, g3, g4]
  kernel_rfl
theorem inst : Tryz.f9.isInstance Tryz.prog Rows.controlSpreadsRow.origin Rows.controlSpreadsRow.targs := of_decide_eq_true (by kernel_rfl)
theorem wrap : Tryz.f9.isWrapper Tryz.prog Rows.controlSpreadsRow.wrapper Rows.controlSpreadsRow.mainSum := by unfold Func.isWrapper; first | (rw [if_pos (by decide +kernel)]; kernel_rfl) | (rw [if_neg (by decide +kernel)]; exact ⟨rfl, rfl⟩)
end Go.Proofs.YtkjajlolfcioiaaGreatDoor.controlSpreads
