/- plan.Check: what is deferred. -/
import Derived.Test.YtkjajlolfcioiaaGreatDoorYCheckC
import Derived.Defers
import Derived.Recover
import Derived.Laws.Pointers
import Derived.RegionTactic
import Derived.WalkSpells
import Derived.WalkLawsBesides
namespace Go.Proofs.YtkjajlolfcioiaaGreatDoor.Check
open Go.RowKit Go.Proofs.YtkjajlolfcioiaaGreatDoor Go.Proofs.YtkjajlolfcioiaaGreatDoor.Own Go.Proofs.YtkjajlolfcioiaaGreatDoor.Tail Go.Proofs.YtkjajlolfcioiaaGreatDoor.Scan Go.Proofs.YtkjajlolfcioiaaGreatDoor.Plan Go.Proofs.YtkjajlolfcioiaaGreatDoor.Expr Go.Lib

theorem catch_panics (b2 b3 : Nat) (h23 : ¬ b2 = b3) (a c x y : Int) (older : List PanicEntry) (w : World) (c2 : w.cell? ⟨b2, 0, none⟩ = some (.int .i64 x)) (c3 : w.cell? ⟨b3, 0, none⟩ = some (.int .i64 y)) (f2 : w.frozen? ⟨b2, 0, none⟩ = false) (f3 : w.frozen? ⟨b3, 0, none⟩ = false) :
    CallsD Tryz.prog 99 #[.pointer (some ⟨b2, 0, none⟩), .pointer (some ⟨b3, 0, none⟩)] (.panicking ({ v := wrongV a c, recovered := false } :: older)) w fun e u' w' =>
      e = .returned (.tuple #[]) ∧ u' = .panicking ({ v := wrongV a c, recovered := true } :: older) ∧ w'.cell? ⟨b2, 0, none⟩ = some (.int .i64 a) ∧ w'.cell? ⟨b3, 0, none⟩ = some (.int .i64 c) ∧ (∀ B, B ≤ b2 → B ≤ b3 → B ≤ w.heap.size → Below B w w') := by
  have hta : ∀ X, (Instr.typeAssert (wrongV a c) 20 159 true).run Tryz.prog X = .ok (.tuple #[.agg #[.int .i64 a, .int .i64 c], .bool true]) X := fun _ => by kernel_rfl
  refine callsD_of_wpS Tryz.func99 rfl fun c₀ cs hu => ?_
  apply wpS_seq
  apply wpS_region
  simp [wpOpsS, go_sem, recoverD, hu, hta, Tryz.ntmps99, Exit.thenS]
  refine wpS_of_wp ?_
  simp only [Array.replicate, List.replicate, List.setIfInBounds_toArray, List.set_cons_succ, List.set_cons_zero, List.append_toArray, List.cons_append, List.nil_append]
  have hlt2 : b2 < w.heap.size := lt_of_cell c2
  have hlt3 : b3 < w.heap.size := lt_of_cell c3
  have e2 : ¬ b2 = w.heap.size := by omega
  have e3 : ¬ b3 = w.heap.size := by omega
  go_wp2
  go_region
  go_wp2
  refine ⟨rfl, _, rfl, .tuple #[], by simp [results, Tryz.results99, go_sem], rfl, rfl, ?_, ?_, ?_⟩
  · have k := World.cell?_setCell_same w ⟨b2, 0, none⟩ (.int .i64 a) c2
    have k2 := (World.cell?_setCell_other (w.setCell ⟨b2, 0, none⟩ (.int .i64 a)) ⟨b3, 0, none⟩ ⟨b2, 0, none⟩ (.int .i64 c) (fun e => by cases e; exact h23 rfl)).trans k
    exact kc (balloc (Below.refl _ _) _).drew k2
  · have k3 : (w.setCell ⟨b2, 0, none⟩ (.int .i64 a)).cell? ⟨b3, 0, none⟩ = some (.int .i64 y) := (World.cell?_setCell_other w ⟨b2, 0, none⟩ ⟨b3, 0, none⟩ (.int .i64 a) (fun e => by cases e; exact h23 rfl)).trans c3
    exact kc (balloc (Below.refl _ _) _).drew (World.cell?_setCell_same _ ⟨b3, 0, none⟩ (.int .i64 c) k3)
  · intro B h1 h2 h3
    exact ((((Below.refl _ _).setCell h1 _).setCell h2 _).alloc (by simpa using h3) _).drew
theorem catch_idle (b2 b3 : Nat) (w : World) :
    CallsD Tryz.prog 99 #[.pointer (some ⟨b2, 0, none⟩), .pointer (some ⟨b3, 0, none⟩)] .returning w fun e u' w' => e = .returned (.tuple #[]) ∧ u' = .returning ∧ Below w.heap.size w w' := by
  have hta : ∀ X, (Instr.typeAssert .nilIface 20 159 true).run Tryz.prog X = .ok (.tuple #[.agg #[.int .i64 0, .int .i64 0], .bool false]) X := fun _ => by kernel_rfl
  refine callsD_of_wpS Tryz.func99 rfl fun c₀ cs hu => ?_
  apply wpS_seq
  apply wpS_region
  simp [wpOpsS, go_sem, recoverD, hu, hta, Tryz.ntmps99, Exit.thenS]
  refine wpS_of_wp ?_
  simp only [Array.replicate, List.replicate, List.setIfInBounds_toArray, List.set_cons_succ, List.set_cons_zero, List.append_toArray, List.cons_append, List.nil_append]
  go_wp2
  cases c₀
  refine ⟨rfl, _, ?_, .tuple #[], by simp [results, Tryz.results99, go_sem], rfl, rfl, box_below _ _⟩
  simp_all
end Go.Proofs.YtkjajlolfcioiaaGreatDoor.Check
