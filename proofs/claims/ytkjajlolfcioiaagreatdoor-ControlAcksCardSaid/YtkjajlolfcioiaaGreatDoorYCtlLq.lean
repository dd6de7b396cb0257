/- a control beside a slice of the law's own. -/
import Derived.Test.YtkjajlolfcioiaaGreatDoorYCtlLa
namespace Go.Proofs.YtkjajlolfcioiaaGreatDoor.Control
open Go Go.RowKit Go.MapKept Go.Maps Go.Proofs Go.Proofs.YtkjajlolfcioiaaGreatDoor Go.Proofs.YtkjajlolfcioiaaGreatDoor.Expr Go.Proofs.YtkjajlolfcioiaaGreatDoor.Own Go.Proofs.YtkjajlolfcioiaaGreatDoor.Tail Go.Proofs.YtkjajlolfcioiaaGreatDoor.Mp Go.Proofs.YtkjajlolfcioiaaGreatDoor.Ints Go.Proofs.YtkjajlolfcioiaaGreatDoor.Plan Go.Proofs.YtkjajlolfcioiaaGreatDoor.Check Go.Proofs.YtkjajlolfcioiaaGreatDoor.Graph Go.Proofs.YtkjajlolfcioiaaGreatDoor.Ctl Go.Proofs.YtkjajlolfcioiaaGreatDoor.Rw
/-- a control that was made since w, beside block sb. -/
def AwP (w X : World) (cb : Nat) (c : Ct) (sb : Nat) : Prop := ∃ U, CtlAt X cb c U ∧ (∀ i, U i → w.heap.size ≤ i ∧ i ≠ sb) ∧ Below w.heap.size w X
theorem AwP.aw {w X : World} {cb sb : Nat} {c : Ct} (h : AwP w X cb c sb) : Aw w X cb c := by
  obtain ⟨U, h1, h2, h3⟩ := h
  exact ⟨U, h1, fun i hi => (h2 i hi).1, h3⟩
theorem AwP.below {w X Y : World} {cb sb : Nat} {c : Ct} (h : AwP w X cb c sb) (k : Below X.heap.size X Y) : AwP w Y cb c sb := by
  obtain ⟨U, h1, h2, h3⟩ := h
  exact ⟨U, h1.below k, h2, go h3 k⟩
/-- a block that is made now. -/
theorem Aw.beside {w X : World} {cb : Nat} {c : Ct} (h : Aw w X cb c) (o : Obj) : AwP w (X.alloc o) cb c X.heap.size := by
  obtain ⟨U, h1, h2, h3⟩ := h
  exact ⟨U, h1.below (box_below _ _), fun i hi => ⟨h2 i hi, fun e => by have := h1.lt i hi; omega⟩, balloc h3 _⟩
theorem AwP.set {w X : World} {cb sb : Nat} {c : Ct} (h : AwP w X cb c sb) (hsb : w.heap.size ≤ sb) (hg : 5 < w.heap.size) (q : Nat) (v : Value) : AwP w (X.setCell ⟨sb, q, none⟩ v) cb c sb := by
  obtain ⟨U, ⟨tv, fv, lm, jv, fl, xs, hi⟩, h2, h3⟩ := h
  refine ⟨U, ⟨tv, fv, lm, jv, fl, xs, hi.same (by simp [World.setCell]) (fun i hu => Below.heap_setCell _ _ _ _ (fun e => (h2 i hu).2 e)) (Below.heap_setCell _ _ _ _ (fun e => by have e : 5 = sb := e; omega))⟩, h2, h3.setCell (p := ⟨sb, q, none⟩) hsb v⟩
def AwDoneP (w X : World) (cb sb : Nat) (r : Ct × Int) (e : Ending) (X' : World) : Prop :=
  e = .returned (.int .i64 r.2) ∧ AwP w X' cb r.1 sb ∧ X'.heap[sb]? = X.heap[sb]?
theorem aw_doneP {w X0 X : World} {cb sb : Nat} {c : Ct} (h : AwP w X0 cb c sb) (k : Below X0.heap.size X0 X) (hsb : sb < X0.heap.size) {n : Int} (hok : CtOk n c) (hn : n ≤ 1000) (cmd : Cmd) (v : Value) (hv : PartsAt w v cmd.parts) (hl : cmd.parts.length ≤ 1000) :
    Calls Tryz.prog 34 #[.pointer (some ⟨cb, 0, none⟩), .agg (cmdCells cmd v)] X (AwDoneP w X cb sb (doC c cmd)) := by
  obtain ⟨U, h1, h2, h3⟩ := h
  have hlt := h1.lt
  have hX := h1.below k
  obtain ⟨tv, fv, lm, jv, fl, xs, hi⟩ := hX
  have hbX := go h3 k
  refine (do_calls hi hok hn cmd v (fun Y hY => SliceAt.below hv (hbX.trans (hY.below (B := w.heap.size) hbX.size fun i hi => (h2 i hi).1))) hl).mono ?_
  rintro e X' ⟨h4, h5, h6⟩
  refine ⟨h4, ⟨more U X X', h6, ?_, hbX.trans (h5.below (B := w.heap.size) hbX.size fun i hi => (h2 i hi).1)⟩, h5.block sb (Nat.lt_of_lt_of_le hsb k.size) fun e => (h2 sb e).2 rfl⟩
  rintro i (e | e)
  · exact h2 i e
  · have := hbX.size
    have := k.size
    exact ⟨by omega, by omega⟩
/-- the workers that are there, of a control that was made since w. -/
def LiveGot (c : Ct) (X : World) (e : Ending) (X' : World) : Prop := ∃ A k, e = .returned (.slice A (liveL c.lives).length k) ∧ IntsAt X' (.slice A (liveL c.lives).length k) (liveL c.lives) ∧ Below X.heap.size X X'
theorem aw_live {w X : World} {cb : Nat} {c : Ct} (h : Aw w X cb c) {n : Int} (hok : CtOk n c) : Calls Tryz.prog 35 #[.pointer (some ⟨cb, 0, none⟩)] X (LiveGot c X) := by
  obtain ⟨U, ⟨tv, fv, lm, jv, fl, xs, hi⟩, h2, h3⟩ := h
  refine (live_calls hi hok.out).mono ?_
  rintro e X' ⟨v, rfl, ho, hB⟩
  obtain ⟨A, k, rfl, -, -, -, -⟩ := own_form ho
  exact ⟨A, k, rfl, own_ints (base := X.heap.size) ho, hB⟩
/-- who is started. -/
def stL (c : Ct) : List Bool := c.jobs.map fun j => decide (0 < j.att)
def StAt (X : World) (sb : Nat) (c : Ct) : Prop := X.heap[sb]? = some (.cells ((stL c).map Value.bool).toArray 4)
theorem stL_new (tops : List Top) (fl : List Flw) : ((stL (newC tops fl)).map Value.bool).toArray = madeCells #[.bool false] fl.length := by
  unfold stL newC madeCells
  apply Array.ext
  · simp
  · intro i h1 h2
    simp [Nat.mod_one]
theorem stL_kept {n : Int} {c : Ct} (h : CtOk n c) (x : Cmd) (hb : begunB c x = false) : stL (doC c x).1 = stL c := by
  have hl := (doC_ok x h).len
  refine List.ext_getElem (by simp [stL, hl]) fun i h1 h2 => ?_
  simp only [stL, List.getElem_map]
  have hi : i < c.jobs.length := by simpa [stL] using h2
  have hs := starts h x i c.jobs[i] (doC c x).1.jobs[i] (List.getElem?_eq_getElem hi) (List.getElem?_eq_getElem (by omega))
  rw [hb] at hs
  simp only [Bool.false_eq_true, false_and, or_false] at hs
  rw [decide_eq_decide]
  exact hs
theorem stL_begun {n : Int} {c : Ct} (h : CtOk n c) (x : Cmd) {p : Nat} (hb : begunB c x = true) (hp : x.flow = (p : Int)) : stL (doC c x).1 = (stL c).set p true := by
  have hl := (doC_ok x h).len
  refine List.ext_getElem (by simp [stL, hl]) fun i h1 h2 => ?_
  simp only [stL, List.getElem_map, List.getElem_set]
  have hi : i < c.jobs.length := by simpa [stL] using h2
  have hs := starts h x i c.jobs[i] (doC c x).1.jobs[i] (List.getElem?_eq_getElem hi) (List.getElem?_eq_getElem (by omega))
  rw [hb, hp] at hs
  by_cases e : p = i
  · rw [if_pos e]
    exact decide_eq_true (hs.2 (.inr ⟨rfl, by rw [e]⟩))
  · rw [if_neg e, decide_eq_decide]
    exact hs.trans ⟨fun h => h.elim id fun h => absurd (by exact_mod_cast h.2) e, .inl⟩
theorem StAt.cell {X : World} {sb : Nat} {c : Ct} (h : StAt X sb c) {i : Nat} {j : Jb} (hj : c.jobs[i]? = some j) : X.cell? ⟨sb, i, none⟩ = some (.bool (decide (0 < j.att))) := by
  rw [cell_of_row _ _ _ _ _ _ h]
  simp [stL, hj]
theorem StAt.frozen {X : World} {sb : Nat} {c : Ct} (h : StAt X sb c) (i : Nat) : X.frozen? ⟨sb, i, none⟩ = false := by
  unfold StAt at h
  simp [World.frozen?, h]
theorem StAt.block {X Y : World} {sb : Nat} {c : Ct} (h : StAt X sb c) (e : Y.heap[sb]? = X.heap[sb]?) : StAt Y sb c := e.trans h
theorem StAt.below {X Y : World} {sb : Nat} {c : Ct} (h : StAt X sb c) (k : Below X.heap.size X Y) : StAt Y sb c := h.block (k.block _ (Array.getElem?_eq_some_iff.1 h).1)
theorem StAt.set {X : World} {sb : Nat} {c c' : Ct} (h : StAt X sb c) {p : Nat} (e : stL c' = (stL c).set p true) : StAt (X.setCell ⟨sb, p, none⟩ (.bool true)) sb c' := by
  have := set_cell_heap (i := p) (.bool true) h
  unfold StAt
  rw [this, e, List.map_set]
  simp
end Go.Proofs.YtkjajlolfcioiaaGreatDoor.Control
