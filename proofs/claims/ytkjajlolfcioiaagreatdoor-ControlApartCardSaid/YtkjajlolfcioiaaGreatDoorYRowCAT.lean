/- the closed facts of the row, limb by limb (one kernel run over all of them takes more than 10 GB). -/
import Derived.Test.YtkjajlolfcioiaaGreatDoorTie
import Derived.JoinedOf
import Derived.ProofKit
import Derived.Below
namespace Go.Proofs.YtkjajlolfcioiaaGreatDoor.controlApart
open Go Go.Proofs.YtkjajlolfcioiaaGreatDoor
set_option maxRecDepth 100000
theorem g1 : (Rows.controlApartRow.inPlace == Tryz.prog.inPlace 7) = true := by kernel_rfl
theorem g2 : (Rows.controlApartRow.unfollowed == Tryz.prog.unfollowed 7) = true := by kernel_rfl
theorem g3 : (Rows.controlApartRow.recurses == Tryz.prog.recurses 7) = true := by kernel_rfl
theorem g4 : (Rows.controlApartRow.named == Tryz.prog.varsNamed 7) = true := by kernel_rfl
theorem closed : joinedFacts Tryz.prog 7 Tryz.f7 Rows.controlApartSpec Rows.controlApartRow = true := by
  unfold joinedFacts
  rw [g1, g2, g3, g4]
  kernel_rfl
theorem inst : Tryz.f7.isInstance Tryz.prog Rows.controlApartRow.origin Rows.controlApartRow.targs := of_decide_eq_true (by kernel_rfl)
theorem wrap : Tryz.f7.isWrapper Tryz.prog Rows.controlApartRow.wrapper Rows.controlApartRow.mainSum := by unfold Func.isWrapper; first | (rw [if_pos (by decide +kernel)]; kernel_rfl) | (rw [if_neg (by decide +kernel)]; exact ⟨rfl, rfl⟩)
end Go.Proofs.YtkjajlolfcioiaaGreatDoor.controlApart
