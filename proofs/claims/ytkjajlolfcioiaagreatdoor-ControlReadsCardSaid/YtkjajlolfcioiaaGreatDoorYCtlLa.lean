/- what layer 21's laws use: On, jobs that were told, a command done beside them. -/
import Derived.Test.YtkjajlolfcioiaaGreatDoorYCtlEx
import Derived.Test.YtkjajlolfcioiaaGreatDoorYGraphPlain
namespace Go.Proofs.YtkjajlolfcioiaaGreatDoor.Control
open Go Go.RowKit Go.MapKept Go.Maps Go.Proofs Go.Proofs.YtkjajlolfcioiaaGreatDoor Go.Proofs.YtkjajlolfcioiaaGreatDoor.Expr Go.Proofs.YtkjajlolfcioiaaGreatDoor.Own Go.Proofs.YtkjajlolfcioiaaGreatDoor.Tail Go.Proofs.YtkjajlolfcioiaaGreatDoor.Mp Go.Proofs.YtkjajlolfcioiaaGreatDoor.Ints Go.Proofs.YtkjajlolfcioiaaGreatDoor.Plan Go.Proofs.YtkjajlolfcioiaaGreatDoor.Check Go.Proofs.YtkjajlolfcioiaaGreatDoor.Graph Go.Proofs.YtkjajlolfcioiaaGreatDoor.Ctl Go.Proofs.YtkjajlolfcioiaaGreatDoor.Rw
/-- a command done: what was made since X0 stays. -/
def AwDone (w X0 X : World) (cb : Nat) (r : Ct × Int) (e : Ending) (X' : World) : Prop :=
  e = .returned (.int .i64 r.2) ∧ Aw w X' cb r.1 ∧ (∀ i, X0.heap.size ≤ i → i < X.heap.size → X'.heap[i]? = X.heap[i]?) ∧ X.heap.size ≤ X'.heap.size
theorem aw_done {w X0 X : World} {cb : Nat} {c : Ct} (h : Aw w X0 cb c) (k : Below X0.heap.size X0 X) {n : Int} (hok : CtOk n c) (hn : n ≤ 1000) (cmd : Cmd) (v : Value) (hv : PartsAt w v cmd.parts) (hl : cmd.parts.length ≤ 1000) :
    Calls Tryz.prog 34 #[.pointer (some ⟨cb, 0, none⟩), .agg (cmdCells cmd v)] X (AwDone w X0 X cb (doC c cmd)) := by
  obtain ⟨U, h1, h2, h3⟩ := h
  have hlt := h1.lt
  have hX := h1.below k
  obtain ⟨tv, fv, lm, jv, fl, xs, hi⟩ := hX
  have hbX := go h3 k
  refine (do_calls hi hok hn cmd v (fun Y hY => SliceAt.below hv (hbX.trans (hY.below (B := w.heap.size) hbX.size h2))) hl).mono ?_
  rintro e X' ⟨h4, h5, h6⟩
  refine ⟨h4, ⟨more U X X', h6, ?_, hbX.trans (h5.below (B := w.heap.size) hbX.size h2)⟩, fun i hi1 hi2 => h5.block i hi2 fun e => ?_, h5.size⟩
  · rintro i (e | e)
    · exact h2 i e
    · have := hbX.size
      omega
  · have := hlt i e
    omega
/-- .. in a control that was made since w: its jobs are told. -/
theorem aw_jobs {w X : World} {cb : Nat} {c : Ct} (h : Aw w X cb c) {n : Int} (hok : CtOk n c) {i : Nat} {j : Jb} (hj : c.jobs[i]? = some j) :
    Calls Tryz.prog 33 #[.pointer (some ⟨cb, 0, none⟩), .int .i64 (i : Int)] X (JobOut j X) := by
  obtain ⟨U, ⟨tv, fv, lm, jv, fl, xs, hi⟩, h2, h3⟩ := h
  have hjs := hi.jobs
  rw [← hjs, List.getElem?_map] at hj
  obtain ⟨x, hx, rfl⟩ := Option.map_eq_some_iff.1 hj
  exact job_calls hi hok hx
set_option maxHeartbeats 4000000 in
set_option maxRecDepth 100000 in
/-- the document's On. -/
theorem on_calls (j : Jb) (pa aa : Value) (k : Int) (w : World) (h1 : IntsAt w pa j.places) (h2 : PartsAt w aa j.acked) (hl : j.places.length ≤ 1000) :
    Calls Tryz.prog 37 #[jobV j pa aa, .int .i64 k] w fun e w' => e = .returned (.bool (decide (k ∈ j.places))) ∧ Below w.heap.size w w' := by
  obtain ⟨catt, crd, ckp, cdone, cnum, cnext, L, M⟩ := j
  dsimp only at *
  obtain ⟨A1, c1, rfl, hc1, r1⟩ := h1
  obtain ⟨A2, c2, rfl, hc2, -⟩ := h2
  have R1 := Lib.hid r1
  clear r1
  have HT := Lib.hid (fun (k : Int) (hk : k ∈ L) => (decide_eq_true hk : decide (k ∈ L) = true))
  have HN := Lib.hid (fun (k : Int) (hk : ¬ k ∈ L) => (decide_eq_false hk : decide (k ∈ L) = false))
  generalize hr : decide (k ∈ L) = r
  have HR := Lib.hid hr
  clear hr
  unfold jobV
  go_enter Tryz.func37, Tryz.ntmps37
  go_wp2
  go_loopw [5] (fun iv wr => wr = w.alloc (.cells #[.int .i64 catt, .int .i64 crd, .int .i64 ckp, .int .i64 cdone, .int .i64 cnum, .int .i64 cnext, .slice A1 L.length c1, .slice A2 M.length c2] 55) ∧ ∃ q : Nat, q ≤ L.length ∧ iv = .int .i64 (q : Int) ∧ Hid (¬ k ∈ L.take q)) (fun iv _ => L.length - (RowKit.intOf iv).toNat)
  case atStart => exact ⟨rfl, 0, Nat.zero_le _, rfl, Lib.hid (by simp)⟩
  case round =>
    obtain ⟨hwr, q, hq, rfl, HK⟩ := hrel
    subst hwr
    by_cases hlt : q < L.length
    · have l0 : (q : Int) < (L.length : Int) := by omega
      obtain ⟨b, o, e, hrow⟩ := R1.out (by omega)
      subst e
      obtain ⟨v, hv⟩ : ∃ v, L[q]? = some v := ⟨_, List.getElem?_eq_getElem hlt⟩
      have d := hrow q (.int .i64 v) (by rw [List.getElem?_map, hv]; rfl)
      have hbl := lt_of_cell d
      have HV := Lib.hid hv
      clear hrow hv
      by_cases e : v = k
      · have eb : (v == k) = true := by simpa using e
        have HE := Lib.hid e
        clear e
        go_wp2
        go_ret
        refine ⟨?_, box_below _ _⟩
        have : k ∈ L := by rw [← HE.out]; exact List.mem_of_getElem? HV.out
        have hr := HR.out
        rw [HT.out k this] at hr
        rw [← hr]
        rfl
      · have eb : (v == k) = false := by simpa using e
        have HE := Lib.hid e
        clear e
        go_wp2
        go_roundw
        case rel =>
          refine ⟨by trivial, q + 1, by omega, by simp, Lib.hid ?_⟩
          intro hm
          rw [List.take_add_one, HV.out] at hm
          rcases List.mem_append.1 hm with hm | hm
          · exact HK.out hm
          · simp only [Option.toList_some, List.mem_singleton] at hm
            exact HE.out hm.symm
        case measure => simp only [RowKit.intOf]; omega
    · obtain rfl : q = L.length := by omega
      rw [List.take_length] at HK
      go_wp2
      go_ret
      refine ⟨?_, box_below _ _⟩
      have hr := HR.out
      rw [HN.out k HK.out] at hr
      rw [← hr]
      rfl
/-! ### jobs that were told -/
structure JobW where
  j : Jb
  pv : Value
  av : Value
def jobwCells (x : JobW) : List Value := [.int .i64 x.j.att, .int .i64 x.j.rd, .int .i64 x.j.kp, .int .i64 x.j.done, .int .i64 x.j.num, .int .i64 x.j.next, x.pv, x.av]
structure WasAt (B : Nat) (X : World) (v : Value) (L : List JobW) (js : List Jb) : Prop where
  rows : X.ownsRow B 55 8 v L.length (L.flatMap jobwCells)
  js : L.map (·.j) = js
  places : ∀ x ∈ L, X.ownsRow B 3 1 x.pv x.j.places.length (x.j.places.map (Value.int .i64))
  acked : ∀ x ∈ L, X.ownsRow B 75 2 x.av x.j.acked.length (x.j.acked.flatMap partCells)
theorem WasAt.moved {B : Nat} {X Y : World} {v : Value} {L : List JobW} {js : List Jb} (h : WasAt B X v L js) (hY : ∀ k, B ≤ k → k < X.heap.size → Y.heap[k]? = X.heap[k]?) : WasAt B Y v L js :=
  ⟨own_moved h.rows hY, h.js, fun x hx => own_moved (h.places x hx) hY, fun x hx => own_moved (h.acked x hx) hY⟩
theorem WasAt.below {B : Nat} {X Y : World} {v : Value} {L : List JobW} {js : List Jb} (h : WasAt B X v L js) (k : Below X.heap.size X Y) : WasAt B Y v L js :=
  h.moved fun i _ hi => k.block i hi
theorem WasAt.none (B : Nat) (X : World) : WasAt B X (.slice none 0 0) [] [] := ⟨own_nil _ _ _ _, rfl, (fun x hx => by cases hx), fun x hx => by cases hx⟩
/-- one more. -/
theorem WasAt.more {B : Nat} {X Y : World} {v v' : Value} {L : List JobW} {js : List Jb} (h : WasAt B X v L js) {x : JobW} (hp : X.ownsRow B 3 1 x.pv x.j.places.length (x.j.places.map (Value.int .i64))) (ha : X.ownsRow B 75 2 x.av x.j.acked.length (x.j.acked.flatMap partCells))
    (hg : X.grownBy Y v.ownBlock) (ho : Y.ownsRow B 55 8 v' (L.length + 1) (L.flatMap jobwCells ++ jobwCells x)) : WasAt B Y v' (L ++ [x]) (js ++ [x.j]) := by
  refine ⟨by simpa using ho, by rw [List.map_append, h.js]; rfl, fun y hy => ?_, fun y hy => ?_⟩
  · rcases List.mem_append.1 hy with hy | hy
    · exact own_other (h.places y hy) h.rows (by decide) hg
    · rw [List.mem_singleton] at hy
      subst hy
      exact own_other hp h.rows (by decide) hg
  · rcases List.mem_append.1 hy with hy | hy
    · exact own_other (h.acked y hy) h.rows (by decide) hg
    · rw [List.mem_singleton] at hy
      subst hy
      exact own_other ha h.rows (by decide) hg
theorem WasAt.at {B : Nat} {X : World} {v : Value} {L : List JobW} {js : List Jb} (h : WasAt B X v L js) {i : Nat} {j : Jb} (hj : js[i]? = some j) : ∃ x, L[i]? = some x ∧ x.j = j ∧ IntsAt X x.pv j.places ∧ PartsAt X x.av j.acked := by
  have := h.js
  rw [← this, List.getElem?_map] at hj
  obtain ⟨x, hx, rfl⟩ := Option.map_eq_some_iff.1 hj
  exact ⟨x, hx, rfl, own_ints (base := B) (h.places x (List.mem_of_getElem? hx)), sliceAt_own' (h.acked x (List.mem_of_getElem? hx))⟩
end Go.Proofs.YtkjajlolfcioiaaGreatDoor.Control
