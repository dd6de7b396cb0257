/- The document's examples of layer 21, reckoned. No program here. -/
import Derived.Test.YtkjajlolfcioiaaGreatDoorYGraphPlain
import Derived.Test.YtkjajlolfcioiaaGreatDoorYGraphC
import Derived.Test.YtkjajlolfcioiaaGreatDoorYCtlNw
import Derived.WalkSpells
import Derived.Laws.StructEq
namespace Go.Proofs.YtkjajlolfcioiaaGreatDoor.Ctl
open Go.Proofs.YtkjajlolfcioiaaGreatDoor.Scan Go.Proofs.YtkjajlolfcioiaaGreatDoor.Plan Go.Proofs.YtkjajlolfcioiaaGreatDoor.Graph
def exTops : List Top := [⟨⟨#[97]⟩, 2⟩, ⟨⟨#[98]⟩, 16⟩]
def exFlw : Flw := ⟨⟨#[102]⟩, ⟨#[97]⟩, ⟨#[98]⟩, 0, 2, 1, [], 0, 0, 0, 0, []⟩
def exGroups : List (Int × Int) := (List.range 16).map fun g : Nat => (2, (g : Int))
def exA : Cmd := ⟨3, 0, 0, 0, 0, 0, 0, []⟩
def exB : Cmd := ⟨1, 0, 0, 1, 3, 0, 0, []⟩
def exD : Cmd := ⟨6, 0, 0, 0, 0, 0, 0, []⟩
def exF : Cmd := ⟨7, 0, 2, 1, 0, 0, 0, [(1, 0), (1, 1)]⟩
def exG : Cmd := ⟨7, 0, 2, 1, 0, 0, 0, exGroups⟩
def exH : Cmd := ⟨4, 0, 1, 0, 0, 0, 0, []⟩
def ex0 : Ct := newC exTops [exFlw]
def ex1 : Ct := (doC ex0 exA).1
def ex2 : Ct := (doC ex1 exB).1
def ex3 : Ct := (doC ex2 exD).1
def ex4 : Ct := (doC ex3 exF).1
def ex5 : Ct := (doC ex4 exG).1
theorem ex_plan : planE ⟨exTops, [exFlw]⟩ = 0 := by decide +kernel
theorem ex_order : (orderR ⟨exTops, [exFlw]⟩).2 = 0 := by decide +kernel
theorem exA_e : (doC ex0 exA).2 = 0 := by decide +kernel
theorem exB_e : (doC ex1 exB).2 = 0 := by decide +kernel
theorem exD_e : (doC ex2 exD).2 = 0 := by decide +kernel
theorem exF_e : (doC ex3 exF).2 = 0 := by decide +kernel
theorem exG_e : (doC ex4 exG).2 = 0 := by decide +kernel
theorem exH_e : (doC ex5 exH).2 = 210 := by decide +kernel
theorem ex_job : (ex5.jobs.map fun j => [j.att, j.rd, j.kp, j.done, j.num, j.next]) = [[2, 2, 1, 1, 0, 2]] := by decide +kernel
theorem ex_places : (ex5.jobs.map fun j => j.places) = [[3, 3, 3]] := by decide +kernel
theorem ex_acked : (ex5.jobs.map fun j => j.acked.length) = [0] := by decide +kernel
theorem ex_jobIs : ex5.jobs = [⟨2, 2, 1, 1, 0, 2, [3, 3, 3], []⟩] := by
  have h := ex_job
  have h2 := ex_places
  have h3 := ex_acked
  generalize ex5.jobs = l at h h2 h3
  match l, h, h2, h3 with
  | [⟨a1, a2, a3, a4, a5, a6, a7, a8⟩], h, h2, h3 =>
    simp only [List.map_cons, List.map_nil, List.cons.injEq, and_true] at h h2 h3
    obtain ⟨rfl, rfl, rfl, rfl, rfl, rfl⟩ := h
    rw [List.eq_nil_of_length_eq_zero h3, h2]
theorem ex_ok0 : CtOk 0 ex0 := newC_ok ex_plan
theorem ex_ok1 : CtOk 1 ex1 := (doC_ok exA ex_ok0).ok
theorem ex_ok2 : CtOk 2 ex2 := (doC_ok exB ex_ok1).ok
theorem ex_ok3 : CtOk 3 ex3 := (doC_ok exD ex_ok2).ok
theorem ex_ok4 : CtOk 4 ex4 := (doC_ok exF ex_ok3).ok
theorem ex_ok5 : CtOk 5 ex5 := (doC_ok exG ex_ok4).ok
end Go.Proofs.YtkjajlolfcioiaaGreatDoor.Ctl

/- the law's examples of layer 21, walked. -/
namespace Go.Proofs.YtkjajlolfcioiaaGreatDoor.Control
open Go Go.RowKit Go.MapKept Go.Maps Go.Proofs Go.Proofs.YtkjajlolfcioiaaGreatDoor Go.Proofs.YtkjajlolfcioiaaGreatDoor.Expr Go.Proofs.YtkjajlolfcioiaaGreatDoor.Own Go.Proofs.YtkjajlolfcioiaaGreatDoor.Tail Go.Proofs.YtkjajlolfcioiaaGreatDoor.Mp Go.Proofs.YtkjajlolfcioiaaGreatDoor.Ints Go.Proofs.YtkjajlolfcioiaaGreatDoor.Plan Go.Proofs.YtkjajlolfcioiaaGreatDoor.Check Go.Proofs.YtkjajlolfcioiaaGreatDoor.Graph Go.Proofs.YtkjajlolfcioiaaGreatDoor.Ctl
/-- a control that was made since w. -/
def Aw (w X : World) (cb : Nat) (c : Ct) : Prop := ∃ U, CtlAt X cb c U ∧ (∀ i, U i → w.heap.size ≤ i) ∧ Below w.heap.size w X
def AwPost (w : World) (cb : Nat) (r : Ct × Int) (e : Ending) (X : World) : Prop := e = .returned (.int .i64 r.2) ∧ Aw w X cb r.1
theorem Aw.bel {w X : World} {cb : Nat} {c : Ct} (h : Aw w X cb c) : Below w.heap.size w X := by
  obtain ⟨U, -, -, hb⟩ := h
  exact hb
theorem Aw.below {w X Y : World} {cb : Nat} {c : Ct} (h : Aw w X cb c) (k : Below X.heap.size X Y) : Aw w Y cb c := by
  obtain ⟨U, h1, h2, h3⟩ := h
  exact ⟨U, h1.below k, h2, go h3 k⟩
theorem aw_do {w X0 X : World} {cb : Nat} {c : Ct} (h : Aw w X0 cb c) (k : Below X0.heap.size X0 X) {n : Int} (hok : CtOk n c) (hn : n ≤ 1000) (cmd : Cmd) (v : Value) (hv : ∀ Y : World, (∀ i, X0.heap.size ≤ i → i < X.heap.size → Y.heap[i]? = X.heap[i]?) → PartsAt Y v cmd.parts) (hl : cmd.parts.length ≤ 1000) :
    Calls Tryz.prog 34 #[.pointer (some ⟨cb, 0, none⟩), .agg (cmdCells cmd v)] X (AwPost w cb (doC c cmd)) := by
  obtain ⟨U, h1, h2, h3⟩ := h
  have hlt := h1.lt
  have hX := h1.below k
  obtain ⟨tv, fv, lm, jv, fl, xs, hi⟩ := hX
  have hbX := go h3 k
  refine (do_calls hi hok hn cmd v (fun Y hY => hv Y fun i hi1 hi2 => hY.block i hi2 fun e => by have := hlt i e; omega) hl).mono ?_
  rintro e X' ⟨h4, h5, h6⟩
  refine ⟨h4, more U X X', h6, ?_, hbX.trans (h5.below (B := w.heap.size) hbX.size h2)⟩
  rintro i (e | e)
  · exact h2 i e
  · have := hbX.size
    omega
theorem sliceOfPart : SliceOf Tryz.prog 53 75 2 16 := sliceOf (z := .agg #[.int .i64 0, .int .i64 0]) Tryz.underlying53 (by kernel_rfl) rfl (by decide)
theorem parts_none (Y : World) : PartsAt Y (.slice none 0 0) [] := ⟨none, 0, rfl, Nat.le_refl _, fun h => absurd h (by simp)⟩
def exFl : List FlwV := [⟨exFlw, .slice none 0 0, .slice none 0 0⟩]
theorem exFl_small : SmallFlows exFl := by
  intro x hx
  simp only [exFl, List.mem_singleton] at hx
  subst hx
  constructor <;> simp [SmallSteps, exFlw]
theorem sliceAt_heap {X : World} {g : Nat} {cs : Array Value} {T : TypeId} {n c : Nat} (h : X.heap[g]? = some (.cells cs T)) (hn : n ≤ c) : SliceAt X (.slice (some ⟨g, 0, none⟩) n c) n cs.toList := by
  refine ⟨_, _, rfl, hn, fun _ => ⟨g, 0, rfl, fun j u hj => ?_⟩⟩
  have := RowAt.of_heap h j u hj
  rwa [Own.add_plain, ← Nat.zero_add j] at this
def PlanPost (w : World) (e : Ending) (w' : World) : Prop := ∃ tv fv, e = .returned (.agg #[tv, fv]) ∧ PlanAt w' tv fv exTops exFl ∧ Below w.heap.size w w'
set_option maxHeartbeats 1000000 in
set_option maxRecDepth 100000 in
theorem example_calls (w : World) : Calls Tryz.prog 67 #[] w (PlanPost w) := by
  go_enter Tryz.func67, Tryz.ntmps67
  go_wp2
  refine bodyPost_ret (v := .agg #[.slice (some ⟨w.heap.size + 1, 0, none⟩) 2 2, .slice (some ⟨w.heap.size + 1 + 1, 0, none⟩) 1 1]) ?_ rfl ?_
  · simp [results, Tryz.f67]
    go_simp
  · refine ⟨_, _, rfl, ⟨?_, ?_, ?_, ?_⟩, balloc (balloc (box_below _ _) _) _⟩
    · exact sliceAt_heap (heap_up (heap_at (by simp))) (by decide)
    · exact sliceAt_heap (heap_at (by simp)) (by decide)
    · intro x hx
      simp only [exFl, List.mem_singleton] at hx
      subst hx
      exact ⟨none, 0, rfl, Nat.le_refl _, fun h => absurd h (by simp [exFlw])⟩
    · intro x hx
      simp only [exFl, List.mem_singleton] at hx
      subst hx
      exact ⟨none, 0, rfl, Nat.le_refl _, fun h => absurd h (by simp [exFlw])⟩
set_option maxHeartbeats 1000000 in
set_option maxRecDepth 100000 in
theorem groups_calls (w : World) : Calls Tryz.prog 68 #[] w (CopyPost w 75 2 16 (exGroups.flatMap partCells)) := by
  go_enter Tryz.func68, Tryz.ntmps68
  go_wp2
  go_loopw [1, 2] (fun v iv wr => ∃ k : Nat, k ≤ 16 ∧ iv = .int .i64 (k : Int) ∧ Hid (wr.ownsRow w.heap.size 75 2 v k (((List.range k).map fun g : Nat => ((2 : Int), (g : Int))).flatMap partCells) ∧ Below w.heap.size w wr)) (fun _ iv _ => 16 - (RowKit.intOf iv).toNat)
  case atStart => exact ⟨0, by omega, rfl, Lib.hid ⟨own_nil _ _ _ _, Below.refl _ _⟩⟩
  case round =>
    obtain ⟨k, hk, rfl, HO⟩ := hrel
    obtain ⟨A, c, rfl, -, -, -, -⟩ := own_form HO.out.1
    by_cases hlt : k < 16
    · have l0 : (k : Int) < 16 := by omega
      go_wp2_with (at_builtin; refine list_app sliceOfPart rfl _ _ rfl (base := w.heap.size) rfl (own_kept HO.out.1 (box_below _ _)) rfl (Src.at (T := 75) (heap_new _ _) 2 1 1 (by simp) (by simp [Value.oneCell'])) (by unfold maxLen; omega) (by omega) (by have := HO.out.2.size; simp; omega) ?_; intro v7 w7 ho7 hB7 hg7)
      refine ⟨⟨k + 1, by omega, by simp, Lib.hid ⟨?_, ?_⟩⟩, ?_⟩
      · rw [List.range_succ, List.map_append, List.flatMap_append]
        exact ho7
      · exact (balloc HO.out.2 _).trans hB7
      · simp only [RowKit.intOf]
        omega
    · obtain rfl : k = 16 := by omega
      go_wp2
      go_ret
      exact ⟨_, rfl, HO.out.1, HO.out.2⟩

/-- what the example's job answers. -/
def JobEx (w : World) (cb : Nat) (e : Ending) (X : World) : Prop := ∃ b o c Av cv, e = .returned (.tuple #[.agg #[.int .i64 2, .int .i64 2, .int .i64 1, .int .i64 1, .int .i64 0, .int .i64 2, .slice (some ⟨b, o, none⟩) 3 c, .slice Av 0 cv], .int .i64 0]) ∧ X.cell? ⟨b, o, none⟩ = some (.int .i64 3) ∧ Aw w X cb ex5
theorem aw_job {w X : World} {cb : Nat} (h : Aw w X cb ex5) : Calls Tryz.prog 33 #[.pointer (some ⟨cb, 0, none⟩), .int .i64 0] X (JobEx w cb) := by
  have hA := h
  obtain ⟨U, ⟨tv, fv, lm, jv, fl, xs, hi⟩, h2, h3⟩ := h
  have hj := hi.jobs
  rw [ex_jobIs] at hj
  obtain ⟨x, rfl⟩ : ∃ x, xs = [x] := by
    have h1 := congrArg List.length hj
    rw [List.length_map] at h1
    exact List.length_eq_one_iff.1 h1
  have hxj : x.j = ⟨2, 2, 1, 1, 0, 2, [3, 3, 3], []⟩ := by
    rw [List.map_cons, List.map_nil] at hj
    exact (List.cons.inj hj).1
  have hx : [x][0]? = some x := rfl
  refine (job_calls hi ex_ok5 hx).mono ?_
  rintro e X' ⟨pv, av, rfl, hB, ho1, ho2⟩
  rw [hxj] at ho1 ho2 ⊢
  have hp := own_ints (base := _) ho1
  have ha := sliceAt_own' ho2
  obtain ⟨A, c, rfl, -, hr⟩ := hp
  obtain ⟨b, o, rfl, hcells⟩ := hr (by decide)
  obtain ⟨Av, cv, rfl, -, -⟩ := ha
  exact ⟨b, o, c, Av, cv, rfl, hcells 0 _ rfl, hA.below hB⟩
def AwakePost (w : World) (e : Ending) (w' : World) : Prop := e = .returned (.bool true) ∧ Below w.heap.size w w'
set_option maxHeartbeats 4000000 in
set_option maxRecDepth 100000 in
theorem awake_calls (w : World) (hT : Tab w) (hg : 5 < w.heap.size) : Calls Tryz.prog 32 #[] w (AwakePost w) := by
  have hO : (orderR (plnOf exTops exFl)).2 = 0 := ex_order
  have CN := Lib.hid (fun (X : World) (k : Below w.heap.size w X) (tv fv : Value) (hP : PlanAt X tv fv exTops exFl) => show Calls Tryz.prog 31 #[.agg #[tv, fv]] X (fun e X' => ∃ cb, e = .returned (.tuple #[.pointer (some ⟨cb, 0, none⟩), .int .i64 0]) ∧ Aw w X' cb ex0) from
    (new_good exTops exFl tv fv X hP exFl_small (hT.below k) (Nat.lt_of_lt_of_le hg k.size) hO (by decide) (by decide) (by intro x hx; simp only [exFl, List.mem_singleton] at hx; subst hx; simp [exFlw])).mono (by
      rintro e X' (⟨h, -, -⟩ | ⟨-, cb, rfl, hc, hB⟩)
      · exact absurd hO h
      · exact ⟨cb, rfl, _, hc, fun i hi => Nat.le_trans k.size hi.1, go k hB⟩))
  have DA := Lib.hid (fun (X : World) (cb : Nat) (h : Aw w X cb ex0) => show Calls Tryz.prog 34 #[.pointer (some ⟨cb, 0, none⟩), .agg #[.int .i64 3, .int .i64 0, .int .i64 0, .int .i64 0, .int .i64 0, .int .i64 0, .int .i64 0, .slice none 0 0]] X (fun e X' => e = .returned (.int .i64 0) ∧ Aw w X' cb ex1) from
    (aw_do h (Below.refl _ _) ex_ok0 (by decide) exA _ (fun Y _ => parts_none Y) (by decide)).mono fun e X' h => ⟨by rw [h.1, exA_e], h.2⟩)
  have DB := Lib.hid (fun (X : World) (cb : Nat) (h : Aw w X cb ex1) => show Calls Tryz.prog 34 #[.pointer (some ⟨cb, 0, none⟩), .agg #[.int .i64 1, .int .i64 0, .int .i64 0, .int .i64 1, .int .i64 3, .int .i64 0, .int .i64 0, .slice none 0 0]] X (fun e X' => e = .returned (.int .i64 0) ∧ Aw w X' cb ex2) from
    (aw_do h (Below.refl _ _) ex_ok1 (by decide) exB _ (fun Y _ => parts_none Y) (by decide)).mono fun e X' h => ⟨by rw [h.1, exB_e], h.2⟩)
  have DD := Lib.hid (fun (X : World) (cb : Nat) (h : Aw w X cb ex2) => show Calls Tryz.prog 34 #[.pointer (some ⟨cb, 0, none⟩), .agg #[.int .i64 6, .int .i64 0, .int .i64 0, .int .i64 0, .int .i64 0, .int .i64 0, .int .i64 0, .slice none 0 0]] X (fun e X' => e = .returned (.int .i64 0) ∧ Aw w X' cb ex3) from
    (aw_do h (Below.refl _ _) ex_ok2 (by decide) exD _ (fun Y _ => parts_none Y) (by decide)).mono fun e X' h => ⟨by rw [h.1, exD_e], h.2⟩)
  have DF := Lib.hid (fun (X : World) (cb : Nat) (h : Aw w X cb ex3) => show Calls Tryz.prog 34 #[.pointer (some ⟨cb, 0, none⟩), .agg #[.int .i64 7, .int .i64 0, .int .i64 2, .int .i64 1, .int .i64 0, .int .i64 0, .int .i64 0, .slice (some ⟨X.heap.size, 0, none⟩) 2 2]] (X.alloc (.cells #[.int .i64 1, .int .i64 0, .int .i64 1, .int .i64 1] 75)) (fun e X' => e = .returned (.int .i64 0) ∧ Aw w X' cb ex4) from
    (aw_do h (box_below _ _) ex_ok3 (by decide) exF _ (fun Y hY => sliceAt_heap ((hY X.heap.size (Nat.le_refl _) (by simp)).trans (heap_new _ _)) (by decide)) (by decide)).mono fun e X' h => ⟨by rw [h.1, exF_e], h.2⟩)
  have DG := Lib.hid (fun (X0 X : World) (cb : Nat) (v : Value) (h : Aw w X0 cb ex4) (k : Below X0.heap.size X0 X) (ho : X.ownsRow X0.heap.size 75 2 v 16 (exGroups.flatMap partCells)) => show Calls Tryz.prog 34 #[.pointer (some ⟨cb, 0, none⟩), .agg #[.int .i64 7, .int .i64 0, .int .i64 2, .int .i64 1, .int .i64 0, .int .i64 0, .int .i64 0, v]] X (fun e X' => e = .returned (.int .i64 0) ∧ Aw w X' cb ex5) from
    (aw_do h k ex_ok4 (by decide) exG v (fun Y hY => sliceAt_own' (own_moved ho hY)) (by decide)).mono fun e X' h => ⟨by rw [h.1, exG_e], h.2⟩)
  have DH := Lib.hid (fun (X : World) (cb : Nat) (h : Aw w X cb ex5) => show Calls Tryz.prog 34 #[.pointer (some ⟨cb, 0, none⟩), .agg #[.int .i64 4, .int .i64 0, .int .i64 1, .int .i64 0, .int .i64 0, .int .i64 0, .int .i64 0, .slice none 0 0]] X (fun e X' => e = .returned (.int .i64 210) ∧ Below w.heap.size w X') from
    (aw_do h (Below.refl _ _) ex_ok5 (by decide) exH _ (fun Y _ => parts_none Y) (by decide)).mono fun e X' h => ⟨by rw [h.1, exH_e], h.2.bel⟩)
  clear hT hg hO
  go_enter Tryz.func32, Tryz.ntmps32
  go_wp2_with (first
    | (go_at_call 67; (with_reducible refine (example_calls _).mono ?_); rintro e w1 ⟨tv, fv, rfl, hP, hB1⟩; obtain ⟨tA, tc, rfl⟩ : ∃ A c, tv = .slice A 2 c := let ⟨A, c, h, _⟩ := hP.tops; ⟨A, c, h⟩; obtain ⟨fA, fc, rfl⟩ : ∃ A c, fv = .slice A 1 c := let ⟨A, c, h, _⟩ := hP.flows; ⟨A, c, h⟩; have HP := Lib.hid hP; have HB1 := Lib.hid hB1; clear hP hB1)
    | (go_at_call 31; (with_reducible refine (CN.out _ HB1.out _ _ HP.out).mono ?_); rintro e w2 ⟨cb, rfl, h2⟩; have H2 := Lib.hid h2; clear h2)
    | (go_at_call 34; (with_reducible refine (DA.out _ _ H2.out).mono ?_); rintro e w3 ⟨rfl, h3⟩; have H3 := Lib.hid h3; clear h3 H2)
    | (go_at_call 34; (with_reducible refine (DB.out _ _ H3.out).mono ?_); rintro e w4 ⟨rfl, h4⟩; have H4 := Lib.hid h4; clear h4 H3)
    | (go_at_call 34; (with_reducible refine (DD.out _ _ H4.out).mono ?_); rintro e w5 ⟨rfl, h5⟩; have H5 := Lib.hid h5; clear h5 H4)
    | (go_at_call 34; (with_reducible refine (DF.out w5 cb H5.out).mono ?_); rintro e w6 ⟨rfl, h6⟩; have H6 := Lib.hid h6; clear h6 H5)
    | (go_at_call 68; (with_reducible refine (groups_calls w6).mono ?_); rintro e w7 ⟨v, rfl, ho7, hB7⟩; obtain ⟨Ag, cg, rfl, -, -, -, -⟩ := own_form ho7; have HO7 := Lib.hid ho7; have HB7 := Lib.hid hB7; clear ho7 hB7)
    | (go_at_call 34; (with_reducible refine (DG.out w6 w7 cb _ H6.out HB7.out HO7.out).mono ?_); rintro e w8 ⟨rfl, h8⟩; have H8 := Lib.hid h8; clear h8 H6 HO7 HB7)
    | (go_at_call 33; (with_reducible refine (aw_job H8.out).mono ?_); rintro e w9 ⟨b, o, c, Av, cv, rfl, hc9, h9⟩; have H9 := Lib.hid h9; have hbl := lt_of_cell hc9; clear h9 H8)
    | (go_at_call 34; (with_reducible refine (DH.out _ cb (H9.out.below (box_below _ _))).mono ?_); rintro e w10 ⟨rfl, hB10⟩))
  go_ret
  exact ⟨rfl, hB10⟩
end Go.Proofs.YtkjajlolfcioiaaGreatDoor.Control

/- the document's Same and On of layer 21. -/
namespace Go.Proofs.YtkjajlolfcioiaaGreatDoor.Control
open Go Go.RowKit Go.MapKept Go.Maps Go.Proofs Go.Proofs.YtkjajlolfcioiaaGreatDoor Go.Proofs.YtkjajlolfcioiaaGreatDoor.Expr Go.Proofs.YtkjajlolfcioiaaGreatDoor.Own Go.Proofs.YtkjajlolfcioiaaGreatDoor.Tail Go.Proofs.YtkjajlolfcioiaaGreatDoor.Mp Go.Proofs.YtkjajlolfcioiaaGreatDoor.Ints Go.Proofs.YtkjajlolfcioiaaGreatDoor.Plan Go.Proofs.YtkjajlolfcioiaaGreatDoor.Check Go.Proofs.YtkjajlolfcioiaaGreatDoor.Graph Go.Proofs.YtkjajlolfcioiaaGreatDoor.Ctl
theorem neqPart (a b : Int) (w : World) : (binOp .neq 75 (.agg #[.int .i64 a, .int .i64 b]) (.agg #[.int .i64 a, .int .i64 b])).run Tryz.prog w = .ok (.bool false) w := by
  have u3 := Tryz.underlying3
  have a3 := Tryz.isAgg3
  have z3 := Tryz.sizeOf3
  have hS : Tryz.prog.underlying 75 = some (.struct (Tryz.prog.fieldsOf 75)) := by kernel_rfl
  have hp : Tryz.prog.stoodInHeld 75 = false := by kernel_rfl
  rw [run_neq_struct, show (10000 : Nat) = 9999 + 1 from rfl, run_equalIn_agg w 9999 75 _ _ hS hp]
  simp only [Program.fieldsOf, Tryz.underlying75]
  go_simp
set_option maxHeartbeats 4000000 in
set_option maxRecDepth 100000 in
/-- two jobs that are one. -/
theorem same_calls (j : Jb) (pa aa pb ab : Value) (w : World) (h1 : IntsAt w pa j.places) (h2 : PartsAt w aa j.acked) (h3 : IntsAt w pb j.places) (h4 : PartsAt w ab j.acked) (hl : j.places.length ≤ 1000) (hm : j.acked.length ≤ 1000) :
    Calls Tryz.prog 36 #[jobV j pa aa, jobV j pb ab] w fun e w' => e = .returned (.bool true) ∧ Below w.heap.size w w' := by
  obtain ⟨catt, crd, ckp, cdone, cnum, cnext, L, M⟩ := j
  dsimp only at *
  obtain ⟨A1, c1, rfl, hc1, r1⟩ := h1
  obtain ⟨A2, c2, rfl, hc2, r2⟩ := h2
  obtain ⟨A3, c3, rfl, hc3, r3⟩ := h3
  obtain ⟨A4, c4, rfl, hc4, r4⟩ := h4
  have R1 := Lib.hid r1
  have R2 := Lib.hid r2
  have R3 := Lib.hid r3
  have R4 := Lib.hid r4
  clear r1 r2 r3 r4
  unfold jobV
  have hneq := neqPart
  go_enter Tryz.func36, Tryz.ntmps36
  go_wp2
  obtain ⟨W0, hW0⟩ : ∃ W0, (w.alloc (.cells #[.int .i64 catt, .int .i64 crd, .int .i64 ckp, .int .i64 cdone, .int .i64 cnum, .int .i64 cnext, .slice A1 L.length c1, .slice A2 M.length c2] 55)).alloc (.cells #[.int .i64 catt, .int .i64 crd, .int .i64 ckp, .int .i64 cdone, .int .i64 cnum, .int .i64 cnext, .slice A3 L.length c3, .slice A4 M.length c4] 55) = W0 := ⟨_, rfl⟩
  have HB0 := Lib.hid (show Below w.heap.size w W0 from by rw [← hW0]; exact balloc (box_below _ _) _)
  have HH1 : W0.heap[w.heap.size]? = some (.cells #[.int .i64 catt, .int .i64 crd, .int .i64 ckp, .int .i64 cdone, .int .i64 cnum, .int .i64 cnext, .slice A1 L.length c1, .slice A2 M.length c2] 55) := by rw [← hW0]; exact heap_up (heap_new _ _)
  have HH2 : W0.heap[w.heap.size + 1]? = some (.cells #[.int .i64 catt, .int .i64 crd, .int .i64 ckp, .int .i64 cdone, .int .i64 cnum, .int .i64 cnext, .slice A3 L.length c3, .slice A4 M.length c4] 55) := by rw [← hW0]; exact heap_at (by simp)
  have p6 : W0.cell? ⟨w.heap.size, 6, none⟩ = some (.slice A1 L.length c1) := by rw [cell_of_row _ _ _ _ _ _ HH1]; rfl
  have p7 : W0.cell? ⟨w.heap.size, 7, none⟩ = some (.slice A2 M.length c2) := by rw [cell_of_row _ _ _ _ _ _ HH1]; rfl
  have q6 : W0.cell? ⟨w.heap.size + 1, 6, none⟩ = some (.slice A3 L.length c3) := by rw [cell_of_row _ _ _ _ _ _ HH2]; rfl
  have q7 : W0.cell? ⟨w.heap.size + 1, 7, none⟩ = some (.slice A4 M.length c4) := by rw [cell_of_row _ _ _ _ _ _ HH2]; rfl
  have HP := Lib.hid (And.intro (And.intro p6 p7) (And.intro q6 q7))
  rw [hW0]
  clear hW0 HH1 HH2 p6 p7 q6 q7
  go_loopw [5] (fun iv wr => ∃ k : Nat, k ≤ L.length ∧ iv = .int .i64 (k : Int) ∧ Hid (Below W0.heap.size W0 wr)) (fun iv _ => L.length - (RowKit.intOf iv).toNat)
  case atStart => exact ⟨0, Nat.zero_le _, rfl, Lib.hid (Below.refl _ _)⟩
  case round =>
    obtain ⟨k, hk, rfl, HB⟩ := hrel
    have p6 := kc HB.out HP.out.1.1
    have p7 := kc HB.out HP.out.1.2
    have q6 := kc HB.out HP.out.2.1
    have q7 := kc HB.out HP.out.2.2
    by_cases hlt : k < L.length
    · have l0 : (k : Int) < (L.length : Int) := by omega
      obtain ⟨b1, o1, e1, hc⟩ := R1.out (by omega)
      obtain ⟨b3, o3, e3, hd⟩ := R3.out (by omega)
      subst e1
      subst e3
      obtain ⟨v, hv⟩ : ∃ v, L[k]? = some v := ⟨_, List.getElem?_eq_getElem hlt⟩
      have d1 : wr.cell? ⟨b1, o1 + k, none⟩ = some (.int .i64 v) := kb HB.out (by have := lt_of_cell (hc k _ (by rw [List.getElem?_map, hv]; rfl)); have := HB0.out.size; simp at *; omega) (kc HB0.out (hc k _ (by rw [List.getElem?_map, hv]; rfl)))
      have d3 : wr.cell? ⟨b3, o3 + k, none⟩ = some (.int .i64 v) := kb HB.out (by have := lt_of_cell (hd k _ (by rw [List.getElem?_map, hv]; rfl)); have := HB0.out.size; simp at *; omega) (kc HB0.out (hd k _ (by rw [List.getElem?_map, hv]; rfl)))
      clear hc hd hv
      go_wp2
      go_quiet (fail)
      go_wp2
      go_roundw
      case rel => exact ⟨k + 1, by omega, by simp, Lib.hid (bdrewN HB.out _)⟩
      case measure => simp only [RowKit.intOf]; omega
    · obtain rfl : k = L.length := by omega
      go_wp2
      have HBL := HB
      go_loopw [6] (fun iv wr2 => ∃ k : Nat, k ≤ M.length ∧ iv = .int .i64 (k : Int) ∧ Hid (Below W0.heap.size W0 wr2)) (fun iv _ => M.length - (RowKit.intOf iv).toNat)
      case atStart => exact ⟨0, Nat.zero_le _, rfl, HBL⟩
      case round =>
        clear p6 p7 q6 q7 HB HBL
        obtain ⟨k, hk2, rfl, HB⟩ := hrel
        have p6 := kc HB.out HP.out.1.1
        have p7 := kc HB.out HP.out.1.2
        have q6 := kc HB.out HP.out.2.1
        have q7 := kc HB.out HP.out.2.2
        by_cases hlt : k < M.length
        · have l0 : (k : Int) < (M.length : Int) := by omega
          obtain ⟨b2, o2, e2, hc⟩ := R2.out (by omega)
          obtain ⟨b4, o4, e4, hd⟩ := R4.out (by omega)
          subst e2
          subst e4
          obtain ⟨v, hv⟩ : ∃ v, M[k]? = some v := ⟨_, List.getElem?_eq_getElem hlt⟩
          have f0 := hc (k * 2 + 0) _ (by rw [flat_get partCells 2 (fun _ => rfl) M k 0 v hv (by decide)]; rfl)
          have f1 := hc (k * 2 + 1) _ (by rw [flat_get partCells 2 (fun _ => rfl) M k 1 v hv (by decide)]; rfl)
          have g0 := hd (k * 2 + 0) _ (by rw [flat_get partCells 2 (fun _ => rfl) M k 0 v hv (by decide)]; rfl)
          have g1 := hd (k * 2 + 1) _ (by rw [flat_get partCells 2 (fun _ => rfl) M k 1 v hv (by decide)]; rfl)
          have d20 : wr.cell? ⟨b2, o2 + k * 2, none⟩ = some (.int .i64 v.1) := kb HB.out (by have := lt_of_cell f0; have := HB0.out.size; simp at *; omega) (kc HB0.out f0)
          have d21 : wr.cell? ⟨b2, o2 + k * 2 + 1, none⟩ = some (.int .i64 v.2) := kb HB.out (by have := lt_of_cell f0; have := HB0.out.size; simp at *; omega) (kc HB0.out f1)
          have d40 : wr.cell? ⟨b4, o4 + k * 2, none⟩ = some (.int .i64 v.1) := kb HB.out (by have := lt_of_cell g0; have := HB0.out.size; simp at *; omega) (kc HB0.out g0)
          have d41 : wr.cell? ⟨b4, o4 + k * 2 + 1, none⟩ = some (.int .i64 v.2) := kb HB.out (by have := lt_of_cell g0; have := HB0.out.size; simp at *; omega) (kc HB0.out g1)
          clear f0 f1 g0 g1 hc hd hv
          go_wp2
          go_quiet (fail)
          go_wp2
          go_roundw
          case rel => exact ⟨k + 1, by omega, by simp, Lib.hid (bdrewN HB.out _)⟩
          case measure => simp only [RowKit.intOf]; omega
        · obtain rfl : k = M.length := by omega
          go_wp2
          go_ret
          exact ⟨rfl, HB0.out.trans (HB.out.mono HB0.out.size)⟩
end Go.Proofs.YtkjajlolfcioiaaGreatDoor.Control
