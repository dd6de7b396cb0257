/- the closed facts of the row, limb by limb (one kernel run over all of them takes more than 10 GB). -/
import Derived.Test.YtkjajlolfcioiaaGreatDoorTie
import Derived.JoinedOf
import Derived.ProofKit
import Derived.Below
namespace Go.Proofs.YtkjajlolfcioiaaGreatDoor.controlStarts
open Go Go.Proofs.YtkjajlolfcioiaaGreatDoor
set_option maxRecDepth 100000
theorem g1 : (Rows.controlStartsRow.inPlace == Tryz.prog.inPlace 10) = true := by kernel_rfl
theorem g2 : (Rows.controlStartsRow.unfollowed == Tryz.prog.unfollowed 10) = true := by kernel_rfl
theorem g3 : (Rows.controlStartsRow.recurses == Tryz.prog.recurses 10) = true := by kernel_rfl
theorem g4 : (Rows.controlStartsRow.named == Tryz.prog.varsNamed 10) = true := by kernel_rfl
theorem closed : joinedFacts Tryz.prog 10 Tryz.f10 Rows.controlStartsSpec Rows.controlStartsRow = true := by
  unfold joinedFacts
  rw [g1, g2, g3, g4]
  kernel_rfl
theorem inst : Tryz.f10.isInstance Tryz.prog Rows.controlStartsRow.origin Rows.controlStartsRow.targs := of_decide_eq_true (by kernel_rfl)
theorem wrap : Tryz.f10.isWrapper Tryz.prog Rows.controlStartsRow.wrapper Rows.controlStartsRow.mainSum := by unfold Func.isWrapper; first | (rw [if_pos (by decide +kernel)]; kernel_rfl) | (rw [if_neg (by decide +kernel)]; exact ⟨rfl, rfl⟩)
end Go.Proofs.YtkjajlolfcioiaaGreatDoor.controlStarts
