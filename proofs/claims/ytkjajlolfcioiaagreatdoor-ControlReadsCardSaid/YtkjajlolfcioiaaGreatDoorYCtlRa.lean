/- two controls beside each other: what ControlReads keeps. -/
import Derived.Test.YtkjajlolfcioiaaGreatDoorYCtlLb
import Derived.Test.YtkjajlolfcioiaaGreatDoorYPackD
namespace Go.Proofs.YtkjajlolfcioiaaGreatDoor.Control
open Go Go.RowKit Go.MapKept Go.Maps Go.Proofs Go.Proofs.YtkjajlolfcioiaaGreatDoor Go.Proofs.YtkjajlolfcioiaaGreatDoor.Expr Go.Proofs.YtkjajlolfcioiaaGreatDoor.Own Go.Proofs.YtkjajlolfcioiaaGreatDoor.Tail Go.Proofs.YtkjajlolfcioiaaGreatDoor.Mp Go.Proofs.YtkjajlolfcioiaaGreatDoor.Ints Go.Proofs.YtkjajlolfcioiaaGreatDoor.Plan Go.Proofs.YtkjajlolfcioiaaGreatDoor.Check Go.Proofs.YtkjajlolfcioiaaGreatDoor.Graph Go.Proofs.YtkjajlolfcioiaaGreatDoor.Ctl Go.Proofs.YtkjajlolfcioiaaGreatDoor.Rw Go.Proofs.YtkjajlolfcioiaaGreatDoor.Pack
/-- two controls made since w, apart from each other and from the blocks lo .. hi. -/
def Two (w X : World) (ca cb : Nat) (c d : Ct) (lo hi : Nat) : Prop :=
  ∃ Ua Ub, CtlAt X ca c Ua ∧ CtlAt X cb d Ub ∧ (∀ i, Ua i → w.heap.size ≤ i ∧ ¬ (lo ≤ i ∧ i < hi) ∧ ¬ Ub i) ∧ (∀ i, Ub i → w.heap.size ≤ i ∧ ¬ (lo ≤ i ∧ i < hi)) ∧ hi ≤ X.heap.size ∧ Below w.heap.size w X
section
variable {w X Y : World} {ca cb : Nat} {c d : Ct} {lo hi : Nat}
theorem Two.symm (h : Two w X ca cb c d lo hi) : Two w X cb ca d c lo hi := by
  obtain ⟨Ua, Ub, h1, h2, h3, h4, h5, h6⟩ := h
  exact ⟨Ub, Ua, h2, h1, fun i hi => ⟨(h4 i hi).1, (h4 i hi).2, fun hu => (h3 i hu).2.2 hi⟩, fun i hi => ⟨(h3 i hi).1, (h3 i hi).2.1⟩, h5, h6⟩
theorem Two.bel (h : Two w X ca cb c d lo hi) : Below w.heap.size w X := by
  obtain ⟨Ua, Ub, h1, h2, h3, h4, h5, h6⟩ := h
  exact h6
theorem Two.below (h : Two w X ca cb c d lo hi) (k : Below X.heap.size X Y) : Two w Y ca cb c d lo hi := by
  obtain ⟨Ua, Ub, h1, h2, h3, h4, h5, h6⟩ := h
  exact ⟨Ua, Ub, h1.below k, h2.below k, h3, h4, Nat.le_trans h5 k.size, go h6 k⟩
/-- what is made beside them. -/
theorem Two.lay (h : Two w X ca cb c d lo hi) (k : Below X.heap.size X Y) : Two w Y ca cb c d X.heap.size Y.heap.size := by
  obtain ⟨Ua, Ub, h1, h2, h3, h4, h5, h6⟩ := h
  refine ⟨Ua, Ub, h1.below k, h2.below k, fun i hi => ⟨(h3 i hi).1, ?_, (h3 i hi).2.2⟩, fun i hi => ⟨(h4 i hi).1, ?_⟩, Nat.le_refl _, go h6 k⟩
  · have := h1.lt i hi
    omega
  · have := h2.lt i hi
    omega
theorem Two.off (h : Two w X ca cb c d lo hi) : Two w X ca cb c d 0 0 := by
  obtain ⟨Ua, Ub, h1, h2, h3, h4, h5, h6⟩ := h
  exact ⟨Ua, Ub, h1, h2, fun i hi => ⟨(h3 i hi).1, by omega, (h3 i hi).2.2⟩, fun i hi => ⟨(h4 i hi).1, by omega⟩, Nat.zero_le _, h6⟩
theorem Two.aw (h : Two w X ca cb c d lo hi) : Aw w X ca c := by
  obtain ⟨Ua, Ub, h1, h2, h3, h4, h5, h6⟩ := h
  exact ⟨Ua, h1, fun i hi => (h3 i hi).1, h6⟩
/-- a second one. -/
theorem Aw.two (h : Aw w X ca c) (k : Aw X Y cb d) : Two w Y ca cb c d 0 0 := by
  obtain ⟨Ua, h1, h2, h3⟩ := h
  obtain ⟨Ub, k1, k2, k3⟩ := k
  refine ⟨Ua, Ub, h1.below k3, k1, fun i hi => ⟨h2 i hi, by omega, fun hu => ?_⟩, fun i hi => ⟨?_, by omega⟩, Nat.zero_le _, go h3 k3⟩
  · have := h1.lt i hi
    have := k2 i hu
    omega
  · have := k2 i hi
    have := h3.size
    omega
/-- a command done in one of two. -/
def TwoDone (w X : World) (ca cb : Nat) (r : Ct × Int) (d : Ct) (lo hi : Nat) (e : Ending) (X' : World) : Prop :=
  e = .returned (.int .i64 r.2) ∧ Two w X' ca cb r.1 d lo hi ∧ (∀ i, lo ≤ i → i < hi → X'.heap[i]? = X.heap[i]?)
theorem two_do (h : Two w X ca cb c d lo hi) (hg : 5 < w.heap.size) {n : Int} (hok : CtOk n c) (hn : n ≤ 1000) (cmd : Cmd) (v : Value)
    (hv : ∀ Y : World, Below w.heap.size w Y → (∀ i, lo ≤ i → i < hi → Y.heap[i]? = X.heap[i]?) → PartsAt Y v cmd.parts) (hl : cmd.parts.length ≤ 1000) :
    Calls Tryz.prog 34 #[.pointer (some ⟨ca, 0, none⟩), .agg (cmdCells cmd v)] X (TwoDone w X ca cb (doC c cmd) d lo hi) := by
  obtain ⟨Ua, Ub, h1, h2, h3, h4, h5, h6⟩ := h
  obtain ⟨tv, fv, lm, jv, fl, xs, hi'⟩ := h1
  have hb : ∀ Y, Kp Ua X Y → Below w.heap.size w Y := fun Y hY => h6.trans (hY.below (B := w.heap.size) h6.size fun i hi => (h3 i hi).1)
  refine (do_calls hi' hok hn cmd v (fun Y hY => hv Y (hb Y hY) fun i hi1 hi2 => hY.block i (by omega) fun e => (h3 i e).2.1 ⟨hi1, hi2⟩) hl).mono ?_
  rintro e X' ⟨e1, e2, e3⟩
  refine ⟨e1, ⟨more Ua X X', Ub, e3, h2.kp e2 (fun i hi => (h3 i hi).2.2) (fun e => by have := (h3 _ e).1; omega), ?_, h4, Nat.le_trans h5 e2.size, hb X' e2⟩, fun i hi1 hi2 => e2.block i (by omega) fun e => (h3 i e).2.1 ⟨hi1, hi2⟩⟩
  rintro i (e | e)
  · exact h3 i e
  · have := h6.size
    refine ⟨by omega, by omega, fun hu => ?_⟩
    have := h2.lt i hu
    omega
end
end Go.Proofs.YtkjajlolfcioiaaGreatDoor.Control
