/- the closed facts of the row, limb by limb (one kernel run over all of them takes more than 10 GB). -/
import Derived.Test.YtkjajlolfcioiaaGreatDoorTie
import Derived.JoinedOf
import Derived.ProofKit
import Derived.Below
namespace Go.Proofs.YtkjajlolfcioiaaGreatDoor.controlNil
open Go Go.Proofs.YtkjajlolfcioiaaGreatDoor
set_option maxRecDepth 100000
theorem g1 : (Rows.controlNilRow.inPlace == Tryz.prog.inPlace 12) = true := by kernel_rfl
theorem g2 : (Rows.controlNilRow.unfollowed == Tryz.prog.unfollowed 12) = true := by kernel_rfl
theorem g3 : (Rows.controlNilRow.recurses == Tryz.prog.recurses 12) = true := by kernel_rfl
theorem g4 : (Rows.controlNilRow.named == Tryz.prog.varsNamed 12) = true := by kernel_rfl
theorem closed : joinedFacts Tryz.prog 12 Tryz.f12 Rows.controlNilSpec Rows.controlNilRow = true := by
  unfold joinedFacts
  rw [g1, g2, g3, g4]
  kernel_rfl
theorem inst : Tryz.f12.isInstance Tryz.prog Rows.controlNilRow.origin Rows.controlNilRow.targs := of_decide_eq_true (by kernel_rfl)
theorem wrap : Tryz.f12.isWrapper Tryz.prog Rows.controlNilRow.wrapper Rows.controlNilRow.mainSum := by unfold Func.isWrapper; first | (rw [if_pos (by decide +kernel)]; kernel_rfl) | (rw [if_neg (by decide +kernel)]; exact ⟨rfl, rfl⟩)
end Go.Proofs.YtkjajlolfcioiaaGreatDoor.controlNil
