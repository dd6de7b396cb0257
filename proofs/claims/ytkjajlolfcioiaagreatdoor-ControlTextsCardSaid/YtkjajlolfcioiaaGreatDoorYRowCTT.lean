/- the closed facts of the row, limb by limb (one kernel run over all of them takes more than 10 GB). -/
import Derived.Test.YtkjajlolfcioiaaGreatDoorTie
import Derived.JoinedOf
import Derived.ProofKit
import Derived.Below
namespace Go.Proofs.YtkjajlolfcioiaaGreatDoor.controlTexts
open Go Go.Proofs.YtkjajlolfcioiaaGreatDoor
set_option maxRecDepth 100000
theorem g1 : (Rows.controlTextsRow.inPlace == Tryz.prog.inPlace 13) = true := by kernel_rfl
theorem g2 : (Rows.controlTextsRow.unfollowed == Tryz.prog.unfollowed 13) = true := by kernel_rfl
theorem g3 : (Rows.controlTextsRow.recurses == Tryz.prog.recurses 13) = true := by kernel_rfl
theorem g4 : (Rows.controlTextsRow.named == Tryz.prog.varsNamed 13) = true := by kernel_rfl
theorem closed : joinedFacts Tryz.prog 13 Tryz.f13 Rows.controlTextsSpec Rows.controlTextsRow = true := by
  unfold joinedFacts
  rw [g1, g2, g3, g4]
  kernel_rfl
theorem inst : Tryz.f13.isInstance Tryz.prog Rows.controlTextsRow.origin Rows.controlTextsRow.targs := of_decide_eq_true (by kernel_rfl)
theorem wrap : Tryz.f13.isWrapper Tryz.prog Rows.controlTextsRow.wrapper Rows.controlTextsRow.mainSum := by unfold Func.isWrapper; first | (rw [if_pos (by decide +kernel)]; kernel_rfl) | (rw [if_neg (by decide +kernel)]; exact ⟨rfl, rfl⟩)
end Go.Proofs.YtkjajlolfcioiaaGreatDoor.controlTexts
