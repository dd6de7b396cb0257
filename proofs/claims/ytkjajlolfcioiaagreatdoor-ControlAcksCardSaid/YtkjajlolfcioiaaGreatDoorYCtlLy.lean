/- ControlAcks: the control beside the law's own array, and what the calls answer. -/
import Derived.Test.YtkjajlolfcioiaaGreatDoorYCtlLs
import Derived.Test.YtkjajlolfcioiaaGreatDoorYCtlLk
namespace Go.Proofs.YtkjajlolfcioiaaGreatDoor.Control
open Go Go.RowKit Go.MapKept Go.Maps Go.Proofs Go.Proofs.YtkjajlolfcioiaaGreatDoor Go.Proofs.YtkjajlolfcioiaaGreatDoor.Expr Go.Proofs.YtkjajlolfcioiaaGreatDoor.Own Go.Proofs.YtkjajlolfcioiaaGreatDoor.Tail Go.Proofs.YtkjajlolfcioiaaGreatDoor.Mp Go.Proofs.YtkjajlolfcioiaaGreatDoor.Ints Go.Proofs.YtkjajlolfcioiaaGreatDoor.Plan Go.Proofs.YtkjajlolfcioiaaGreatDoor.Check Go.Proofs.YtkjajlolfcioiaaGreatDoor.Graph Go.Proofs.YtkjajlolfcioiaaGreatDoor.Ctl Go.Proofs.YtkjajlolfcioiaaGreatDoor.Rw
structure PRow where
  v : Value
  parts : List (Int × Int)
/-- the law's array. -/
def HasAt (X : World) (sb : Nat) (L : List (Int × Int)) : Prop := X.heap[sb]? = some (.cells ((hasL L).map Value.bool).toArray 73)
theorem HasAt.cell {X : World} {sb : Nat} {L : List (Int × Int)} (h : HasAt X sb L) (a b : Nat) (ha : a < 2) (hb : b < 16) : X.cell? ⟨sb, a * 16 + b, none⟩ = some (.bool (decide ((((a + 1 : Nat) : Int), (b : Int)) ∈ L))) := by
  rw [cell_of_row _ _ _ _ _ _ h]
  simp [hasL_get L a b ha hb]
theorem HasAt.frozen {X : World} {sb : Nat} {L : List (Int × Int)} (h : HasAt X sb L) (i : Nat) : X.frozen? ⟨sb, i, none⟩ = false := by
  unfold HasAt at h
  simp [World.frozen?, h]
theorem HasAt.block {X Y : World} {sb : Nat} {L : List (Int × Int)} (h : HasAt X sb L) (e : Y.heap[sb]? = X.heap[sb]?) : HasAt Y sb L := e.trans h
theorem HasAt.lt {X : World} {sb : Nat} {L : List (Int × Int)} (h : HasAt X sb L) : sb < X.heap.size := (Array.getElem?_eq_some_iff.1 h).1
theorem HasAt.below {X Y : World} {sb : Nat} {L : List (Int × Int)} (h : HasAt X sb L) (k : Below X.heap.size X Y) : HasAt Y sb L := h.block (k.block _ h.lt)
theorem HasAt.set {X : World} {sb : Nat} {L : List (Int × Int)} (h : HasAt X sb L) (a b : Nat) (hb : b < 16) : HasAt (X.setCell ⟨sb, a * 16 + b, none⟩ (.bool true)) sb (insP (((a + 1 : Nat) : Int), (b : Int)) L) := by
  have := set_cell_heap (i := a * 16 + b) (.bool true) h
  unfold HasAt
  rw [this, hasL_ins L a b hb, List.map_set]
  simp
/-- the control, its first flow, the array: L is acked, Lh is in the array. -/
structure AckRel (w X : World) (cb sb : Nat) (pp : Int) (c : Ct) (failed : Bool) (L Lh : List (Int × Int)) (n : Nat) : Prop where
  awp : AwP w X cb c sb
  ok : CtOk (n : Int) c
  pt : partsAt c 0 = pp
  job : ∃ j, c.jobs[0]? = some j ∧ (failed = false → ackingJ j L ∧ (L.length : Int) ≠ pp + 16) ∧ (failed = true → j.att ≠ 1)
  has : HasAt X sb Lh
  sorted : L.Pairwise PLt
theorem AckRel.below {w X Y : World} {cb sb : Nat} {pp : Int} {c : Ct} {failed : Bool} {L Lh : List (Int × Int)} {n : Nat} (h : AckRel w X cb sb pp c failed L Lh n) (k : Below X.heap.size X Y) : AckRel w Y cb sb pp c failed L Lh n :=
  ⟨h.awp.below k, h.ok, h.pt, h.job, h.has.below k, h.sorted⟩
theorem AckRel.set {w X : World} {cb sb : Nat} {pp : Int} {c : Ct} {failed : Bool} {L Lh : List (Int × Int)} {n : Nat} (h : AckRel w X cb sb pp c failed L Lh n) (hsb : w.heap.size ≤ sb) (hg : 5 < w.heap.size) (a b : Nat) (hb : b < 16) :
    AckRel w (X.setCell ⟨sb, a * 16 + b, none⟩ (.bool true)) cb sb pp c failed L (insP (((a + 1 : Nat) : Int), (b : Int)) Lh) n :=
  ⟨h.awp.set hsb hg _ _, h.ok, h.pt, h.job, h.has.set a b hb, h.sorted⟩
theorem partsAt_same {c c' : Ct} (h : c'.tops = c.tops) (h2 : c'.flows = c.flows) (i : Nat) : partsAt c' i = partsAt c i := by
  unfold partsAt
  rw [h, h2]
section
variable {w X : World} {cb sb : Nat} {pp : Int} {c : Ct} {L Lh : List (Int × Int)} {n : Nat}
/-- a command, with what it comes to. -/
theorem AckRel.call {failed : Bool} (h : AckRel w X cb sb pp c failed L Lh n) (hn : n ≤ 1000) (cmd : Cmd) (v : Value) (hv : PartsAt w v cmd.parts) (hl : cmd.parts.length ≤ 1000) {c' : Ct} {E : Int} (e : doC c cmd = (c', E)) :
    Calls Tryz.prog 34 #[.pointer (some ⟨cb, 0, none⟩), .agg (cmdCells cmd v)] X fun e X' => e = .returned (.int .i64 E) ∧ AwP w X' cb c' sb ∧ HasAt X' sb Lh := by
  refine (aw_doneP h.awp (Below.refl _ _) h.has.lt h.ok (by omega) cmd v hv hl).mono ?_
  rw [e]
  rintro e X' ⟨h1, h2, h3⟩
  exact ⟨h1, h2, h.has.block h3⟩
abbrev ackV (v : Value) : Value := .agg #[.int .i64 7, .int .i64 0, .int .i64 1, .int .i64 1, .int .i64 0, .int .i64 0, .int .i64 0, v]
abbrev failV : Value := .agg #[.int .i64 4, .int .i64 0, .int .i64 1, .int .i64 0, .int .i64 0, .int .i64 0, .int .i64 0, .slice none 0 0]
theorem AckRel.stale (h : AckRel w X cb sb pp c true L Lh n) (hn : n ≤ 1000) (P : List (Int × Int)) (v : Value) (hv : PartsAt w v P) (hl : P.length ≤ 1000) :
    Calls Tryz.prog 34 #[.pointer (some ⟨cb, 0, none⟩), ackV v] X fun e X' => e = .returned (.int .i64 210) ∧ AckRel w X' cb sb pp c true L Lh n := by
  obtain ⟨j, h1, -, h3⟩ := h.job
  refine (h.call hn (ackX P) v hv hl (ack_stale h1 P (.inl (h3 rfl)))).mono ?_
  rintro e X' ⟨e1, e2, e3⟩
  exact ⟨e1, e2, h.ok, h.pt, h.job, e3, h.sorted⟩
theorem AckRel.bad (h : AckRel w X cb sb pp c false L Lh n) (hn : n ≤ 1000) (P : List (Int × Int)) (v : Value) (hv : PartsAt w v P) (hl : P.length ≤ 1000) (hP : ∃ p ∈ P, ¬ PartOk pp p) :
    Calls Tryz.prog 34 #[.pointer (some ⟨cb, 0, none⟩), ackV v] X fun e X' => e = .returned (.int .i64 1) ∧ AckRel w X' cb sb pp c false L Lh n := by
  obtain ⟨j, h1, h2, -⟩ := h.job
  refine (h.call hn (ackX P) v hv hl (ack_bad h1 (h2 rfl).1 P (by rw [h.pt]; exact hP))).mono ?_
  rintro e X' ⟨e1, e2, e3⟩
  exact ⟨e1, e2, h.ok, h.pt, h.job, e3, h.sorted⟩
/-- the flow's checkpoint is done. -/
structure AckDone (w X : World) (cb sb : Nat) (c : Ct) (L Lh : List (Int × Int)) (n : Nat) : Prop where
  awp : AwP w X cb c sb
  ok : CtOk (n : Int) c
  job : ∃ j, c.jobs[0]? = some j ∧ j.done = 1 ∧ j.num = 0
  has : HasAt X sb Lh
  sorted : L.Pairwise PLt
theorem AckRel.good (h : AckRel w X cb sb pp c false L Lh n) (hn : n ≤ 1000) (P : List (Int × Int)) (v : Value) (hv : PartsAt w v P) (hl : P.length ≤ 1000) (hP : ∀ p ∈ P, PartOk pp p) :
    Calls Tryz.prog 34 #[.pointer (some ⟨cb, 0, none⟩), ackV v] X fun e X' => e = .returned (.int .i64 0) ∧ ∃ c', (((addP L P).length : Int) = pp + 16 ∧ AckDone w X' cb sb c' (addP L P) Lh (n + 1)) ∨ (((addP L P).length : Int) ≠ pp + 16 ∧ AckRel w X' cb sb pp c' false (addP L P) Lh (n + 1)) := by
  obtain ⟨j, h1, h2, -⟩ := h.job
  obtain ⟨j', g1, g2⟩ := ack_good h1 (h2 rfl).1 P (by rw [h.pt]; exact hP)
  rw [h.pt] at g2
  have hok := (doC_ok (ackX P) h.ok).ok
  have htp := doC_tops c (ackX P)
  rw [g1] at hok htp
  have hj' := set_zero h1 j'
  refine (h.call hn (ackX P) v hv hl g1).mono ?_
  rintro e X' ⟨e1, e2, e3⟩
  refine ⟨e1, { c with jobs := c.jobs.set 0 j' }, ?_⟩
  rcases g2 with ⟨q1, q2, q3⟩ | ⟨q1, q2⟩
  · exact .inl ⟨q1, e2, by simpa using hok, ⟨j', hj', q2, q3⟩, e3, addP_sorted P L h.sorted⟩
  · exact .inr ⟨q1, e2, by simpa using hok, (partsAt_same htp.1 htp.2 0).trans h.pt, ⟨j', hj', fun _ => ⟨q2, q1⟩, fun e => by cases e⟩, e3, addP_sorted P L h.sorted⟩
theorem AckRel.fails (h : AckRel w X cb sb pp c false L Lh n) (hn : n ≤ 1000) (hv : PartsAt w (.slice none 0 0) []) :
    Calls Tryz.prog 34 #[.pointer (some ⟨cb, 0, none⟩), failV] X fun e X' => e = .returned (.int .i64 0) ∧ ∃ c', AckRel w X' cb sb pp c' true L Lh (n + 1) := by
  obtain ⟨j, h1, h2, -⟩ := h.job
  obtain ⟨j', g1, g2⟩ := do_fail h1 L (h2 rfl).1
  have hok := (doC_ok failX h.ok).ok
  have htp := doC_tops c failX
  rw [g1] at hok htp
  have hj' := set_zero h1 j'
  refine (h.call hn failX (.slice none 0 0) hv (by decide) g1).mono ?_
  rintro e X' ⟨e1, e2, e3⟩
  exact ⟨e1, { c with jobs := c.jobs.set 0 j' }, e2, by simpa using hok, (partsAt_same htp.1 htp.2 0).trans h.pt, ⟨j', hj', (fun e => by cases e), fun _ => by omega⟩, e3, h.sorted⟩
theorem AckDone.stale (h : AckDone w X cb sb c L Lh n) (hn : n ≤ 1000) {Y : World} (k : Below X.heap.size X Y) (P : List (Int × Int)) (v : Value) (hv : PartsAt w v P) (hl : P.length ≤ 1000) :
    Calls Tryz.prog 34 #[.pointer (some ⟨cb, 0, none⟩), ackV v] Y fun e X' => e = .returned (.int .i64 210) ∧ Below w.heap.size w X' := by
  obtain ⟨j, h1, -, h3⟩ := h.job
  refine (aw_doneP (h.awp.below k) (Below.refl _ _) (Nat.lt_of_lt_of_le h.has.lt k.size) h.ok (by omega) (ackX P) v hv hl).mono ?_
  rw [ack_stale h1 P (.inr (by omega))]
  rintro e X' ⟨h1, h2, h3⟩
  exact ⟨h1, h2.aw.bel⟩
/-- behind an ack that was taken. -/
def AckAny (w X : World) (cb sb : Nat) (pp : Int) (c : Ct) (L Lh : List (Int × Int)) (n : Nat) : Prop :=
  ((L.length : Int) = pp + 16 ∧ AckDone w X cb sb c L Lh n) ∨ ((L.length : Int) ≠ pp + 16 ∧ AckRel w X cb sb pp c false L Lh n)
theorem AckAny.awp (h : AckAny w X cb sb pp c L Lh n) : AwP w X cb c sb := by
  rcases h with ⟨-, h⟩ | ⟨-, h⟩
  · exact h.awp
  · exact h.awp
theorem AckAny.has (h : AckAny w X cb sb pp c L Lh n) : HasAt X sb Lh := by
  rcases h with ⟨-, h⟩ | ⟨-, h⟩
  · exact h.has
  · exact h.has
theorem AckAny.below {Y : World} (h : AckAny w X cb sb pp c L Lh n) (k : Below X.heap.size X Y) : AckAny w Y cb sb pp c L Lh n := by
  rcases h with ⟨e, h⟩ | ⟨e, h⟩
  · exact .inl ⟨e, h.awp.below k, h.ok, h.job, h.has.below k, h.sorted⟩
  · exact .inr ⟨e, h.below k⟩
theorem AckAny.set (h : AckAny w X cb sb pp c L Lh n) (hsb : w.heap.size ≤ sb) (hg : 5 < w.heap.size) (a b : Nat) (hb : b < 16) :
    AckAny w (X.setCell ⟨sb, a * 16 + b, none⟩ (.bool true)) cb sb pp c L (insP (((a + 1 : Nat) : Int), (b : Int)) Lh) n := by
  rcases h with ⟨e, h⟩ | ⟨e, h⟩
  · exact .inl ⟨e, h.awp.set hsb hg _ _, h.ok, h.job, h.has.set a b hb, h.sorted⟩
  · exact .inr ⟨e, h.set hsb hg a b hb⟩
end
end Go.Proofs.YtkjajlolfcioiaaGreatDoor.Control
