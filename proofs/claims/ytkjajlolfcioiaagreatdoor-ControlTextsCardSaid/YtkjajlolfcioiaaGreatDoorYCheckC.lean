/- plan.Check: a flow's inside, walked. -/
import Derived.Test.YtkjajlolfcioiaaGreatDoorYCheckB
import Derived.WalkSpells
import Derived.WalkLawsBesides
namespace Go.Proofs.YtkjajlolfcioiaaGreatDoor.Check
open Go.RowKit Go.Proofs.YtkjajlolfcioiaaGreatDoor Go.Proofs.YtkjajlolfcioiaaGreatDoor.Own Go.Proofs.YtkjajlolfcioiaaGreatDoor.Tail Go.Proofs.YtkjajlolfcioiaaGreatDoor.Scan Go.Proofs.YtkjajlolfcioiaaGreatDoor.Plan Go.Proofs.YtkjajlolfcioiaaGreatDoor.Expr Go.Lib

/-- cells in a row, from an offset on. -/
def CellsAt (w : World) (b o : Nat) (cs : List Value) : Prop := ∀ (j : Nat) (u : Value), cs[j]? = some u → w.cell? ⟨b, o + j, none⟩ = some u
theorem CellsAt.below {w w' : World} {b o : Nat} {cs : List Value} (h : CellsAt w b o cs) (k : Below w.heap.size w w') : CellsAt w' b o cs := fun j u hj => kc k (h j u hj)
/-- v is a slice of n elements, the cells of which are cs. -/
def SliceAt (w : World) (v : Value) (n : Nat) (cs : List Value) : Prop := ∃ A c, v = .slice A n c ∧ n ≤ c ∧ (0 < n → ∃ b o, A = some ⟨b, o, none⟩ ∧ CellsAt w b o cs)
theorem SliceAt.below {w w' : World} {v : Value} {n : Nat} {cs : List Value} (h : SliceAt w v n cs) (k : Below w.heap.size w w') : SliceAt w' v n cs := by
  obtain ⟨A, c, e, hc, hr⟩ := h
  exact ⟨A, c, e, hc, fun h0 => let ⟨b, o, ea, hrow⟩ := hr h0; ⟨b, o, ea, hrow.below k⟩⟩
/-- the cells of an element. -/
theorem flat_get {α : Type} (f : α → List Value) (m : Nat) (hf : ∀ x, (f x).length = m) : ∀ (l : List α) (k j : Nat) (x : α), l[k]? = some x → j < m → (l.flatMap f)[k * m + j]? = (f x)[j]?
  | [], k, j, x, h, _ => by simp at h
  | y :: r, 0, j, x, h, hj => by
    obtain rfl : y = x := by simpa using h
    rw [List.flatMap_cons, List.getElem?_append_left (by rw [hf]; omega)]
    simp
  | y :: r, k + 1, j, x, h, hj => by
    rw [List.flatMap_cons, List.getElem?_append_right (by rw [hf, Nat.succ_mul]; omega), hf]
    have := flat_get f m hf r k j x (by simpa using h) hj
    rw [show (k + 1) * m + j - m = k * m + j by rw [Nat.succ_mul]; omega]
    exact this
def stpCells (s : Stp) : List Value := [.int .i64 s.kind, .string s.text, .int .i64 s.n]
def flwCells (f : Flw) (pv qv : Value) : Array Value := #[.string f.name, .string f.frm, .string f.to, .int .i64 f.bound, .int .i64 f.readers, .int .i64 f.keepers, pv, .int .i64 f.wk, .int .i64 f.ws, .int .i64 f.wl, .int .i64 f.agg, qv]
abbrev StepsAt (w : World) (v : Value) (l : List Stp) : Prop := SliceAt w v l.length (l.flatMap stpCells)
def SmallSteps (l : List Stp) : Prop := ∀ s ∈ l, s.text.size ≤ 1000000000000000

theorem windows_is {k s l a : Int} {b : Bool} (h : b = true ↔ WinOk k s l a) (w : World) : Calls Tryz.prog 125 #[.agg #[.int .i64 k, .int .i64 s, .int .i64 l], .int .i64 a] w fun e w' => e = .returned (.bool b) ∧ Below w.heap.size w w' :=
  (windows_calls k s l a w).mono fun e w' ⟨⟨b', h1, h2⟩, h3⟩ => ⟨by
    have : b' = b := Bool.eq_iff_iff.2 (h2.trans h.symm)
    rw [h1, this], h3⟩
/-- the first test's parts. -/
def ArgOk (parts : Int) (f : Flw) : Prop := -1 ≤ f.bound ∧ f.bound ≤ 1000000 ∧ 1 ≤ f.readers ∧ f.readers ≤ 8 ∧ f.readers ≤ parts ∧ 1 ≤ f.keepers ∧ f.keepers ≤ 8 ∧ WinOk f.wk f.ws f.wl f.agg
theorem inner_one {parts : Int} {f : Flw} (h : ¬ ArgOk parts f) : innerE parts f = 1 := by unfold innerE; unfold ArgOk at h; rw [if_pos h]
set_option maxHeartbeats 2000000 in
set_option maxRecDepth 100000 in
theorem flow_bound (f : Flw) (pv qv : Value) (parts a : Int) (w : World) (h : ¬ (-1 ≤ f.bound ∧ f.bound ≤ 1000000)) :
    Calls Tryz.prog 102 #[.agg (flwCells f pv qv), .int .i64 parts, .int .i64 a] w (GivesE a (innerE parts f) w) := by
  rw [inner_one (fun q => h (by unfold ArgOk at q; first | exact q.2.2.2.2.2.2.2 | omega))]
  have B0 := Lib.hid (fun X => between_is (show btw f.bound (-1) 1000000 = false from decide_eq_false h) X)
  clear h
  unfold flwCells
  go_enter Tryz.func102, Tryz.ntmps102
  go_wp2_with (first | (go_at_call 124; (with_reducible refine (B0.out _).mono ?_); rintro e w1 ⟨rfl, rfl⟩) | (go_at_call 100; (with_reducible refine (need_no _ _ _).mono ?_); rintro e w2 ⟨rfl, rfl⟩))
  exact ⟨rfl, box_below _ _, .inr ⟨by decide, rfl⟩⟩
set_option maxHeartbeats 2000000 in
set_option maxRecDepth 100000 in
theorem flow_readers (f : Flw) (pv qv : Value) (parts a : Int) (w : World) (h0 : -1 ≤ f.bound ∧ f.bound ≤ 1000000) (h : ¬ (1 ≤ f.readers ∧ f.readers ≤ min 8 parts)) :
    Calls Tryz.prog 102 #[.agg (flwCells f pv qv), .int .i64 parts, .int .i64 a] w (GivesE a (innerE parts f) w) := by
  rw [inner_one (fun q => h (by unfold ArgOk at q; first | exact q.2.2.2.2.2.2.2 | omega))]
  have B0 := Lib.hid (fun X => between_is (show btw f.bound (-1) 1000000 = true from decide_eq_true h0) X)
  have B1 := Lib.hid (fun X => between_is (show btw f.readers 1 (min 8 parts) = false from decide_eq_false h) X)
  clear h h0
  unfold flwCells
  go_enter Tryz.func102, Tryz.ntmps102
  go_wp2_with (first | (go_at_call 124; (with_reducible refine (B0.out _).mono ?_); rintro e w1 ⟨rfl, rfl⟩) | (go_at_call 124; (with_reducible refine (B1.out _).mono ?_); rintro e w1 ⟨rfl, rfl⟩) | (go_at_call 100; (with_reducible refine (need_no _ _ _).mono ?_); rintro e w2 ⟨rfl, rfl⟩))
  exact ⟨rfl, box_below _ _, .inr ⟨by decide, rfl⟩⟩
set_option maxHeartbeats 2000000 in
set_option maxRecDepth 100000 in
theorem flow_keepers (f : Flw) (pv qv : Value) (parts a : Int) (w : World) (h0 : -1 ≤ f.bound ∧ f.bound ≤ 1000000) (h1 : 1 ≤ f.readers ∧ f.readers ≤ min 8 parts) (h : ¬ (1 ≤ f.keepers ∧ f.keepers ≤ 8)) :
    Calls Tryz.prog 102 #[.agg (flwCells f pv qv), .int .i64 parts, .int .i64 a] w (GivesE a (innerE parts f) w) := by
  rw [inner_one (fun q => h (by unfold ArgOk at q; first | exact q.2.2.2.2.2.2.2 | omega))]
  have B0 := Lib.hid (fun X => between_is (show btw f.bound (-1) 1000000 = true from decide_eq_true h0) X)
  have B1 := Lib.hid (fun X => between_is (show btw f.readers 1 (min 8 parts) = true from decide_eq_true h1) X)
  have B2 := Lib.hid (fun X => between_is (show btw f.keepers 1 8 = false from decide_eq_false h) X)
  clear h h0 h1
  unfold flwCells
  go_enter Tryz.func102, Tryz.ntmps102
  go_wp2_with (first | (go_at_call 124; (with_reducible refine (B0.out _).mono ?_); rintro e w1 ⟨rfl, rfl⟩) | (go_at_call 124; (with_reducible refine (B1.out _).mono ?_); rintro e w1 ⟨rfl, rfl⟩) | (go_at_call 124; (with_reducible refine (B2.out _).mono ?_); rintro e w1 ⟨rfl, rfl⟩) | (go_at_call 100; (with_reducible refine (need_no _ _ _).mono ?_); rintro e w2 ⟨rfl, rfl⟩))
  exact ⟨rfl, box_below _ _, .inr ⟨by decide, rfl⟩⟩
set_option maxHeartbeats 2000000 in
set_option maxRecDepth 100000 in
theorem flow_windows (f : Flw) (pv qv : Value) (parts a : Int) (w : World) (h0 : -1 ≤ f.bound ∧ f.bound ≤ 1000000) (h1 : 1 ≤ f.readers ∧ f.readers ≤ min 8 parts) (h2 : 1 ≤ f.keepers ∧ f.keepers ≤ 8) (h : ¬ (WinOk f.wk f.ws f.wl f.agg)) :
    Calls Tryz.prog 102 #[.agg (flwCells f pv qv), .int .i64 parts, .int .i64 a] w (GivesE a (innerE parts f) w) := by
  rw [inner_one (fun q => h (by unfold ArgOk at q; first | exact q.2.2.2.2.2.2.2 | omega))]
  have B0 := Lib.hid (fun X => between_is (show btw f.bound (-1) 1000000 = true from decide_eq_true h0) X)
  have B1 := Lib.hid (fun X => between_is (show btw f.readers 1 (min 8 parts) = true from decide_eq_true h1) X)
  have B2 := Lib.hid (fun X => between_is (show btw f.keepers 1 8 = true from decide_eq_true h2) X)
  have BW := Lib.hid (fun X => windows_is (b := false) (k := f.wk) (s := f.ws) (l := f.wl) (a := f.agg) (by simpa using h) X)
  clear h h0 h1 h2
  unfold flwCells
  go_enter Tryz.func102, Tryz.ntmps102
  go_wp2_with (first | (go_at_call 124; (with_reducible refine (B0.out _).mono ?_); rintro e w1 ⟨rfl, rfl⟩) | (go_at_call 124; (with_reducible refine (B1.out _).mono ?_); rintro e w1 ⟨rfl, rfl⟩) | (go_at_call 124; (with_reducible refine (B2.out _).mono ?_); rintro e w1 ⟨rfl, rfl⟩) | (go_at_call 125; (with_reducible refine (BW.out _).mono ?_); rintro e w1 ⟨rfl, hB1⟩) | (go_at_call 100; (with_reducible refine (need_no _ _ _).mono ?_); rintro e w2 ⟨rfl, rfl⟩))
  exact ⟨rfl, go (box_below _ _) hB1, .inr ⟨by decide, rfl⟩⟩
theorem inner_two {parts : Int} {f : Flw} (h : ArgOk parts f) (hm : 8 < f.pre.length ∨ 8 < f.post.length) : innerE parts f = 5 := by unfold innerE; unfold ArgOk at h; rw [if_neg (by simpa using h), if_pos hm]
theorem inner_three {parts : Int} {f : Flw} (h : ArgOk parts f) (hm : ¬ (8 < f.pre.length ∨ 8 < f.post.length)) (hw : f.wk = 0 ∧ f.post ≠ []) : innerE parts f = 54 := by unfold innerE; unfold ArgOk at h; rw [if_neg (by simpa using h), if_neg hm, if_pos hw]
theorem inner_four {parts : Int} {f : Flw} (h : ArgOk parts f) (hm : ¬ (8 < f.pre.length ∨ 8 < f.post.length)) (hw : ¬ (f.wk = 0 ∧ f.post ≠ [])) : innerE parts f = if stepsE f.pre false = 0 then stepsE f.post true else stepsE f.pre false := by unfold innerE; unfold ArgOk at h; rw [if_neg (by simpa using h), if_neg hm, if_neg hw]
set_option maxHeartbeats 2000000 in
set_option maxRecDepth 100000 in
theorem flow_many (f : Flw) (pv qv : Value) (parts a : Int) (w : World) (hp : StepsAt w pv f.pre) (hq : StepsAt w qv f.post) (h : ArgOk parts f) (hm : 8 < f.pre.length ∨ 8 < f.post.length) :
    Calls Tryz.prog 102 #[.agg (flwCells f pv qv), .int .i64 parts, .int .i64 a] w (GivesE a (innerE parts f) w) := by
  rw [inner_two h hm]
  have B0 := Lib.hid (fun X => between_is (show btw f.bound (-1) 1000000 = true from decide_eq_true (by unfold ArgOk at h; omega)) X)
  have B1 := Lib.hid (fun X => between_is (show btw f.readers 1 (min 8 parts) = true from decide_eq_true (by unfold ArgOk at h; omega)) X)
  have B2 := Lib.hid (fun X => between_is (show btw f.keepers 1 8 = true from decide_eq_true (by unfold ArgOk at h; omega)) X)
  have BW := Lib.hid (fun X => windows_is (b := true) (k := f.wk) (s := f.ws) (l := f.wl) (a := f.agg) (by simpa using h.2.2.2.2.2.2.2) X)
  clear h
  obtain ⟨A1, c1, rfl, hc1, hr1⟩ := hp
  obtain ⟨A2, c2, rfl, hc2, hr2⟩ := hq
  have HR1 := Lib.hid hr1
  have HR2 := Lib.hid hr2
  clear hr1 hr2
  unfold flwCells
  by_cases h8 : 8 < f.pre.length
  · have t1 : decide ((f.pre.length : Int) ≤ 8) = false := decide_eq_false (by omega)
    clear hm h8
    go_enter Tryz.func102, Tryz.ntmps102
    go_wp2_with (first | (go_at_call 124; (with_reducible refine (B0.out _).mono ?_); rintro e w1 ⟨rfl, rfl⟩) | (go_at_call 124; (with_reducible refine (B1.out _).mono ?_); rintro e w1 ⟨rfl, rfl⟩) | (go_at_call 124; (with_reducible refine (B2.out _).mono ?_); rintro e w1 ⟨rfl, rfl⟩) | (go_at_call 125; (with_reducible refine (BW.out _).mono ?_); rintro e w1 ⟨rfl, hB1⟩; have k6 : w1.cell? ⟨w.heap.size, 6, none⟩ = some (.slice A1 f.pre.length c1) := kc hB1 (cell_new rfl rfl); have k7 : w1.cell? ⟨w.heap.size, 7, none⟩ = some (.int .i64 f.wk) := kc hB1 (cell_new rfl rfl); have k11 : w1.cell? ⟨w.heap.size, 11, none⟩ = some (.slice A2 f.post.length c2) := kc hB1 (cell_new rfl rfl); have hB := go (box_below _ _) hB1; clear hB1) | (go_at_call 100; (with_reducible refine (need_ok _ _ _).mono ?_); rintro e w2 ⟨rfl, rfl⟩) | (go_at_call 100; (with_reducible refine (need_no _ _ _).mono ?_); rintro e w2 ⟨rfl, rfl⟩))
    exact ⟨rfl, hB, .inr ⟨by decide, rfl⟩⟩
  · have t1 : (f.pre.length : Int) ≤ 8 := by omega
    have t2 : decide ((f.post.length : Int) ≤ 8) = false := decide_eq_false (by omega)
    clear hm h8
    go_enter Tryz.func102, Tryz.ntmps102
    go_wp2_with (first | (go_at_call 124; (with_reducible refine (B0.out _).mono ?_); rintro e w1 ⟨rfl, rfl⟩) | (go_at_call 124; (with_reducible refine (B1.out _).mono ?_); rintro e w1 ⟨rfl, rfl⟩) | (go_at_call 124; (with_reducible refine (B2.out _).mono ?_); rintro e w1 ⟨rfl, rfl⟩) | (go_at_call 125; (with_reducible refine (BW.out _).mono ?_); rintro e w1 ⟨rfl, hB1⟩; have k6 : w1.cell? ⟨w.heap.size, 6, none⟩ = some (.slice A1 f.pre.length c1) := kc hB1 (cell_new rfl rfl); have k7 : w1.cell? ⟨w.heap.size, 7, none⟩ = some (.int .i64 f.wk) := kc hB1 (cell_new rfl rfl); have k11 : w1.cell? ⟨w.heap.size, 11, none⟩ = some (.slice A2 f.post.length c2) := kc hB1 (cell_new rfl rfl); have hB := go (box_below _ _) hB1; clear hB1) | (go_at_call 100; (with_reducible refine (need_ok _ _ _).mono ?_); rintro e w2 ⟨rfl, rfl⟩) | (go_at_call 100; (with_reducible refine (need_no _ _ _).mono ?_); rintro e w2 ⟨rfl, rfl⟩))
    exact ⟨rfl, hB, .inr ⟨by decide, rfl⟩⟩
set_option maxHeartbeats 2000000 in
set_option maxRecDepth 100000 in
theorem flow_none (f : Flw) (pv qv : Value) (parts a : Int) (w : World) (hp : StepsAt w pv f.pre) (hq : StepsAt w qv f.post) (h : ArgOk parts f) (hm : ¬ (8 < f.pre.length ∨ 8 < f.post.length)) (hw : f.wk = 0 ∧ f.post ≠ []) :
    Calls Tryz.prog 102 #[.agg (flwCells f pv qv), .int .i64 parts, .int .i64 a] w (GivesE a (innerE parts f) w) := by
  rw [inner_three h hm hw]
  have B0 := Lib.hid (fun X => between_is (show btw f.bound (-1) 1000000 = true from decide_eq_true (by unfold ArgOk at h; omega)) X)
  have B1 := Lib.hid (fun X => between_is (show btw f.readers 1 (min 8 parts) = true from decide_eq_true (by unfold ArgOk at h; omega)) X)
  have B2 := Lib.hid (fun X => between_is (show btw f.keepers 1 8 = true from decide_eq_true (by unfold ArgOk at h; omega)) X)
  have BW := Lib.hid (fun X => windows_is (b := true) (k := f.wk) (s := f.ws) (l := f.wl) (a := f.agg) (by simpa using h.2.2.2.2.2.2.2) X)
  clear h
  obtain ⟨A1, c1, rfl, hc1, hr1⟩ := hp
  obtain ⟨A2, c2, rfl, hc2, hr2⟩ := hq
  have HR1 := Lib.hid hr1
  have HR2 := Lib.hid hr2
  clear hr1 hr2
  unfold flwCells
  have t1 : (f.pre.length : Int) ≤ 8 := by omega
  have t2 : (f.post.length : Int) ≤ 8 := by omega
  have t3 : ((f.wk : Int) != 0) = false := by simpa using hw.1
  have t4 : ((f.post.length : Int) == 0) = false := by
    have := List.length_pos_iff.2 hw.2
    rw [beq_eq_false_iff_ne]; omega
  clear hm hw
  go_enter Tryz.func102, Tryz.ntmps102
  go_wp2_with (first | (go_at_call 124; (with_reducible refine (B0.out _).mono ?_); rintro e w1 ⟨rfl, rfl⟩) | (go_at_call 124; (with_reducible refine (B1.out _).mono ?_); rintro e w1 ⟨rfl, rfl⟩) | (go_at_call 124; (with_reducible refine (B2.out _).mono ?_); rintro e w1 ⟨rfl, rfl⟩) | (go_at_call 125; (with_reducible refine (BW.out _).mono ?_); rintro e w1 ⟨rfl, hB1⟩; have k6 : w1.cell? ⟨w.heap.size, 6, none⟩ = some (.slice A1 f.pre.length c1) := kc hB1 (cell_new rfl rfl); have k7 : w1.cell? ⟨w.heap.size, 7, none⟩ = some (.int .i64 f.wk) := kc hB1 (cell_new rfl rfl); have k11 : w1.cell? ⟨w.heap.size, 11, none⟩ = some (.slice A2 f.post.length c2) := kc hB1 (cell_new rfl rfl); have hB := go (box_below _ _) hB1; clear hB1) | (go_at_call 100; (with_reducible refine (need_ok _ _ _).mono ?_); rintro e w2 ⟨rfl, rfl⟩) | (go_at_call 100; (with_reducible refine (need_no _ _ _).mono ?_); rintro e w2 ⟨rfl, rfl⟩))
  exact ⟨rfl, hB, .inr ⟨by decide, rfl⟩⟩
theorem checkStep_zero (s : Stp) (a : Int) (hz : stepC s = 0) (hs : s.text.size ≤ 1000000000000000) (w : World) (hT : Tab w) (hg : 5 < w.heap.size) : Calls Tryz.prog 126 #[.agg #[.int .i64 s.kind, .string s.text, .int .i64 s.n], .int .i64 a] w fun e w' => e = .returned (.tuple #[]) ∧ Below w.heap.size w w' :=
  (checkStep_calls s a hs w hT hg).mono fun _ _ ⟨h1, h2⟩ => ⟨h2.elim (fun h => h.2) (fun h => absurd hz h.1), h1⟩
theorem checkStep_bad (s : Stp) (a : Int) (hz : stepC s ≠ 0) (hs : s.text.size ≤ 1000000000000000) (w : World) (hT : Tab w) (hg : 5 < w.heap.size) : Calls Tryz.prog 126 #[.agg #[.int .i64 s.kind, .string s.text, .int .i64 s.n], .int .i64 a] w fun e w' => e = gaveUp a (stepC s) ∧ Below w.heap.size w w' :=
  (checkStep_calls s a hs w hT hg).mono fun _ _ ⟨h1, h2⟩ => ⟨h2.elim (fun h => absurd h.1 hz) (fun h => h.2), h1⟩
theorem stepsE_at {post : Bool} : ∀ (l : List Stp) (k : Nat) (s : Stp), stepsE (l.take k) post = 0 → l[k]? = some s → stepE s post ≠ 0 → stepsE l post = stepE s post
  | [], k, s, _, h, _ => by simp at h
  | x :: r, 0, s, _, h, hn => by
    obtain rfl : x = s := by simpa using h
    rw [stepsE, if_neg hn]
  | x :: r, k + 1, s, h0, h, hn => by
    rw [List.take_succ_cons, stepsE] at h0
    by_cases hx : stepE x post = 0
    · rw [if_pos hx] at h0
      rw [stepsE, if_pos hx]
      exact stepsE_at r k s h0 (by simpa using h) hn
    · rw [if_neg hx] at h0
      exact absurd h0 hx
theorem stepsE_next {post : Bool} : ∀ (l : List Stp) (k : Nat) (s : Stp), stepsE (l.take k) post = 0 → l[k]? = some s → stepE s post = 0 → stepsE (l.take (k + 1)) post = 0
  | [], k, s, _, h, _ => by simp at h
  | x :: r, 0, s, _, h, hn => by
    obtain rfl : x = s := by simpa using h
    simp [stepsE, hn]
  | x :: r, k + 1, s, h0, h, hn => by
    rw [List.take_succ_cons, stepsE] at h0 ⊢
    by_cases hx : stepE x post = 0
    · rw [if_pos hx] at h0 ⊢
      exact stepsE_next r k s h0 (by simpa using h) hn
    · rw [if_neg hx] at h0
      exact absurd h0 hx
theorem stepE_other {s : Stp} {post : Bool} (h : s.kind ≠ 3) : stepE s post = stepC s := by
  unfold stepE stepC
  by_cases h1 : s.kind = 1 ∨ s.kind = 2
  · rw [if_pos h1, if_pos h1]
  · rw [if_neg h1, if_neg h1, if_neg h, if_neg h]
theorem stepE_key {tx : ByteArray} {n : Int} {post : Bool} : stepE ⟨3, tx, n⟩ post = if post = false ∧ tx.size = 0 ∧ 0 ≤ n ∧ n ≤ 16 then 0 else 54 := by
  unfold stepE
  rw [if_neg (by simp), if_pos rfl]
theorem stepC_key {tx : ByteArray} {n : Int} : stepC ⟨3, tx, n⟩ = 0 := by unfold stepC; rw [if_neg (by simp), if_pos rfl]
theorem toList_size {s : ByteArray} : s.toList = [] ↔ s.size = 0 := by
  rw [toList_data, ← List.length_eq_zero_iff]
  simp
set_option maxHeartbeats 8000000 in
set_option maxRecDepth 100000 in
theorem flow_steps (f : Flw) (pv qv : Value) (parts a : Int) (w : World) (hp : StepsAt w pv f.pre) (hq : StepsAt w qv f.post) (h : ArgOk parts f) (hm : ¬ (8 < f.pre.length ∨ 8 < f.post.length)) (hw : ¬ (f.wk = 0 ∧ f.post ≠ [])) (hs1 : SmallSteps f.pre) (hs2 : SmallSteps f.post) (hT : Tab w) (hg : 5 < w.heap.size) :
    Calls Tryz.prog 102 #[.agg (flwCells f pv qv), .int .i64 parts, .int .i64 a] w (GivesE a (innerE parts f) w) := by
  rw [inner_four h hm hw]
  obtain ⟨E, hE⟩ : ∃ E, (if stepsE f.pre false = 0 then stepsE f.post true else stepsE f.pre false) = E := ⟨_, rfl⟩
  rw [hE]
  have HE := Lib.hid hE
  clear hE
  have B0 := Lib.hid (fun X => between_is (show btw f.bound (-1) 1000000 = true from decide_eq_true (by unfold ArgOk at h; omega)) X)
  have B1 := Lib.hid (fun X => between_is (show btw f.readers 1 (min 8 parts) = true from decide_eq_true (by unfold ArgOk at h; omega)) X)
  have B2 := Lib.hid (fun X => between_is (show btw f.keepers 1 8 = true from decide_eq_true (by unfold ArgOk at h; omega)) X)
  have BW := Lib.hid (fun X => windows_is (b := true) (k := f.wk) (s := f.ws) (l := f.wl) (a := f.agg) (by simpa using h.2.2.2.2.2.2.2) X)
  clear h
  obtain ⟨A1, c1, rfl, hc1, hr1⟩ := hp
  obtain ⟨A2, c2, rfl, hc2, hr2⟩ := hq
  have HR1 := Lib.hid hr1
  have HR2 := Lib.hid hr2
  clear hr1 hr2
  unfold flwCells
  have HS1 := Lib.hid hs1
  have HS2 := Lib.hid hs2
  have HT := Lib.hid hT
  have t1 : (f.pre.length : Int) ≤ 8 := by omega
  have t2 : (f.post.length : Int) ≤ 8 := by omega
  clear hs1 hs2 hT
  have hw2 : f.wk ≠ 0 ∨ f.post.length = 0 := by
    by_cases h0 : f.wk = 0
    · right
      rcases hl : f.post with _ | ⟨x, r⟩
      · rfl
      · exact absurd ⟨h0, by rw [hl]; simp⟩ hw
    · exact .inl h0
  clear hw hm
  obtain ⟨tb, htb, tq, htq, htc⟩ : ∃ tb, ((f.wk : Int) != 0) = tb ∧ ∃ tq, ((f.post.length : Int) == 0) = tq ∧ (tb = false → tq = true) := by
    refine ⟨_, rfl, _, rfl, fun h => ?_⟩
    rcases hw2 with h0 | h0
    · rw [bne_eq_false_iff_eq] at h; exact absurd h h0
    · rw [h0]; rfl
  have HTC := Lib.hid htc
  clear htc hw2
  cases tb
  · obtain rfl : tq = true := HTC.out rfl
    clear HTC
    go_enter Tryz.func102, Tryz.ntmps102
    go_wp2_with (first | (go_at_call 124; (with_reducible refine (B0.out _).mono ?_); rintro e w1 ⟨rfl, rfl⟩) | (go_at_call 124; (with_reducible refine (B1.out _).mono ?_); rintro e w1 ⟨rfl, rfl⟩) | (go_at_call 124; (with_reducible refine (B2.out _).mono ?_); rintro e w1 ⟨rfl, rfl⟩) | (go_at_call 125; (with_reducible refine (BW.out _).mono ?_); rintro e w1 ⟨rfl, hB1⟩; have k6 : w1.cell? ⟨w.heap.size, 6, none⟩ = some (.slice A1 f.pre.length c1) := kc hB1 (cell_new rfl rfl); have k7 : w1.cell? ⟨w.heap.size, 7, none⟩ = some (.int .i64 f.wk) := kc hB1 (cell_new rfl rfl); have k11 : w1.cell? ⟨w.heap.size, 11, none⟩ = some (.slice A2 f.post.length c2) := kc hB1 (cell_new rfl rfl); have hB := go (box_below _ _) hB1; clear hB1) | (go_at_call 100; (with_reducible refine (need_ok _ _ _).mono ?_); rintro e w2 ⟨rfl, rfl⟩))
    go_loopw [61] (fun i wr => ∃ k : Nat, k ≤ f.pre.length ∧ i = .int .i64 (k : Int) ∧ Below w2.heap.size w2 wr ∧ Hid (stepsE (f.pre.take k) false = 0)) (fun i _ => f.pre.length - (RowKit.intOf i).toNat)
    case atStart => exact ⟨0, Nat.zero_le _, rfl, Below.refl _ _, Lib.hid rfl⟩
    case round =>
      obtain ⟨k, hk, rfl, hBr, hst⟩ := hrel
      by_cases hlt : k < f.pre.length
      · have hlt' : (k : Int) < f.pre.length := by omega
        obtain ⟨b, o, rfl, hrow⟩ := HR1.out (by omega)
        obtain ⟨s, hs⟩ : ∃ s, f.pre[k]? = some s := ⟨_, List.getElem?_eq_getElem hlt⟩
        obtain ⟨kd, tx, sn⟩ := s
        have hrow2 := hrow.below (go hB hBr)
        have d0 : wr.cell? ⟨b, o + k * 3, none⟩ = some (.int .i64 kd) := hrow2 (k * 3 + 0) _ (flat_get stpCells 3 (fun _ => rfl) _ k 0 _ hs (by decide))
        have d1 : wr.cell? ⟨b, o + k * 3 + 1, none⟩ = some (.string tx) := hrow2 (k * 3 + 1) _ (flat_get stpCells 3 (fun _ => rfl) _ k 1 _ hs (by decide))
        have d2 : wr.cell? ⟨b, o + k * 3 + 2, none⟩ = some (.int .i64 sn) := hrow2 (k * 3 + 2) _ (flat_get stpCells 3 (fun _ => rfl) _ k 2 _ hs (by decide))
        have HX := Lib.hid (show tx.size ≤ 1000000000000000 from HS1.out _ (List.mem_of_getElem? hs))
        have HSS := Lib.hid hs
        clear hs hrow hrow2
        have HBAD : Hid (stepE ⟨kd, tx, sn⟩ false ≠ 0 → E = stepE ⟨kd, tx, sn⟩ false) := Lib.hid (fun hn => by
          have h1 := stepsE_at _ _ _ hst.out HSS.out hn
          rw [← HE.out, if_neg (by rw [h1]; exact hn), h1])
        by_cases h3 : kd = 3
        · subst h3
          by_cases hx : tx.toList = []
          · have hx1 : tx.toList.isEmpty = true := by rw [hx]; rfl
            have HXS := Lib.hid (toList_size.1 hx)
            by_cases hn : 0 ≤ sn ∧ sn ≤ 16
            · have BN := Lib.hid (fun X => between_is (show btw sn 0 16 = true from decide_eq_true hn) X)
              have HZ := Lib.hid (stepC_key (tx := tx) (n := sn))
              have HOK := Lib.hid (show stepE ⟨3, tx, sn⟩ false = 0 by rw [stepE_key, if_pos ⟨rfl, HXS.out, hn⟩])
              clear hn
              go_wp2_with (first | (go_at_call 124; (with_reducible refine (BN.out _).mono ?_); rintro e w4 ⟨rfl, rfl⟩) | (go_at_call 100; (with_reducible refine (need_ok _ _ _).mono ?_); rintro e w4 ⟨rfl, rfl⟩) | (go_at_call 100; (with_reducible refine (need_no _ _ _).mono ?_); rintro e w4 ⟨rfl, rfl⟩) | (go_at_call 126; go_must (refine (checkStep_zero ⟨3, tx, sn⟩ a HZ.out HX.out _ (HT.out.below (balloc (go hB hBr) _)) (by have := hB.size; have := hBr.size; simp; omega)).mono ?_); rintro e w5 ⟨rfl, hB5⟩))
              go_roundw
              case rel => exact ⟨k + 1, by omega, by go_num, go hBr (go (box_below _ _) hB5), Lib.hid (stepsE_next _ _ _ hst.out HSS.out HOK.out)⟩
              case measure => simp [RowKit.intOf]; omega
            · have BN := Lib.hid (fun X => between_is (show btw sn 0 16 = false from decide_eq_false hn) X)
              have HBE := Lib.hid (show E = 54 by rw [HBAD.out (by rw [stepE_key, if_neg (fun h => hn h.2.2)]; decide), stepE_key, if_neg (fun h => hn h.2.2)])
              clear hn
              go_wp2_with (first | (go_at_call 124; (with_reducible refine (BN.out _).mono ?_); rintro e w4 ⟨rfl, rfl⟩) | (go_at_call 100; (with_reducible refine (need_ok _ _ _).mono ?_); rintro e w4 ⟨rfl, rfl⟩) | (go_at_call 100; (with_reducible refine (need_no _ _ _).mono ?_); rintro e w4 ⟨rfl, rfl⟩))
              exact ⟨rfl, go (go hB hBr) (box_below _ _), .inr ⟨by rw [HBE.out]; decide, by rw [HBE.out]⟩⟩
          · have hx1 : tx.toList.isEmpty = false := by rw [List.isEmpty_eq_false_iff]; exact hx
            have HBE := Lib.hid (show E = 54 by rw [HBAD.out (by rw [stepE_key, if_neg (fun h => hx (toList_size.2 h.2.1))]; decide), stepE_key, if_neg (fun h => hx (toList_size.2 h.2.1))])
            go_wp2_with (first | (go_at_call 100; (with_reducible refine (need_ok _ _ _).mono ?_); rintro e w4 ⟨rfl, rfl⟩) | (go_at_call 100; (with_reducible refine (need_no _ _ _).mono ?_); rintro e w4 ⟨rfl, rfl⟩))
            exact ⟨rfl, go (go hB hBr) (box_below _ _), .inr ⟨by rw [HBE.out]; decide, by rw [HBE.out]⟩⟩
        · have h3b : ((kd : Int) != 3) = true := by rw [bne_iff_ne]; exact h3
          have HO := Lib.hid (stepE_other (s := ⟨kd, tx, sn⟩) (post := false) h3)
          by_cases hz : stepC ⟨kd, tx, sn⟩ = 0
          · have HZ := Lib.hid hz
            clear hz
            go_wp2_with (first | (go_at_call 100; (with_reducible refine (need_ok _ _ _).mono ?_); rintro e w4 ⟨rfl, rfl⟩) | (go_at_call 100; (with_reducible refine (need_no _ _ _).mono ?_); rintro e w4 ⟨rfl, rfl⟩) | (go_at_call 126; go_must (refine (checkStep_zero ⟨kd, tx, sn⟩ a HZ.out HX.out _ (HT.out.below (balloc (go hB hBr) _)) (by have := hB.size; have := hBr.size; simp; omega)).mono ?_); rintro e w5 ⟨rfl, hB5⟩))
            go_roundw
            case rel => exact ⟨k + 1, by omega, by go_num, go hBr (go (box_below _ _) hB5), Lib.hid (stepsE_next _ _ _ hst.out HSS.out (HO.out.trans HZ.out))⟩
            case measure => simp [RowKit.intOf]; omega
          · have HZ := Lib.hid hz
            clear hz
            have HBE := Lib.hid (show E = stepC ⟨kd, tx, sn⟩ by rw [HBAD.out (by rw [HO.out]; exact HZ.out), HO.out])
            go_wp2_with (first | (go_at_call 100; (with_reducible refine (need_ok _ _ _).mono ?_); rintro e w4 ⟨rfl, rfl⟩) | (go_at_call 100; (with_reducible refine (need_no _ _ _).mono ?_); rintro e w4 ⟨rfl, rfl⟩) | (go_at_call 126; go_must (refine (checkStep_bad ⟨kd, tx, sn⟩ a HZ.out HX.out _ (HT.out.below (balloc (go hB hBr) _)) (by have := hB.size; have := hBr.size; simp; omega)).mono ?_); rintro e w5 ⟨rfl, hB5⟩))
            exact ⟨rfl, go (go hB hBr) (go (box_below _ _) hB5), .inr ⟨by rw [HBE.out]; exact HZ.out, by rw [HBE.out]⟩⟩
      · obtain rfl : k = f.pre.length := by omega
        have hlt' : ¬ (f.pre.length : Int) < f.pre.length := by omega
        have HP := Lib.hid (show stepsE f.pre false = 0 by have := hst.out; rw [List.take_length] at this; exact this)
        have k11r := kc hBr k11
        have hBp := hBr
        clear hst hBr
        go_wp2
        go_loopw [87] (fun i wr => ∃ k : Nat, k ≤ f.post.length ∧ i = .int .i64 (k : Int) ∧ Below w2.heap.size w2 wr ∧ Hid (stepsE (f.post.take k) true = 0)) (fun i _ => f.post.length - (RowKit.intOf i).toNat)
        case atStart => exact ⟨0, Nat.zero_le _, rfl, hBp, Lib.hid rfl⟩
        case round =>
          obtain ⟨k, hk, rfl, hBr, hst⟩ := hrel
          by_cases hlt : k < f.post.length
          · have hlt' : (k : Int) < f.post.length := by omega
            obtain ⟨b, o, rfl, hrow⟩ := HR2.out (by omega)
            obtain ⟨s, hs⟩ : ∃ s, f.post[k]? = some s := ⟨_, List.getElem?_eq_getElem hlt⟩
            obtain ⟨kd, tx, sn⟩ := s
            have hrow2 := hrow.below (go hB hBr)
            have d0 : wr.cell? ⟨b, o + k * 3, none⟩ = some (.int .i64 kd) := hrow2 (k * 3 + 0) _ (flat_get stpCells 3 (fun _ => rfl) _ k 0 _ hs (by decide))
            have d1 : wr.cell? ⟨b, o + k * 3 + 1, none⟩ = some (.string tx) := hrow2 (k * 3 + 1) _ (flat_get stpCells 3 (fun _ => rfl) _ k 1 _ hs (by decide))
            have d2 : wr.cell? ⟨b, o + k * 3 + 2, none⟩ = some (.int .i64 sn) := hrow2 (k * 3 + 2) _ (flat_get stpCells 3 (fun _ => rfl) _ k 2 _ hs (by decide))
            have HX := Lib.hid (show tx.size ≤ 1000000000000000 from HS2.out _ (List.mem_of_getElem? hs))
            have HSS := Lib.hid hs
            clear hs hrow hrow2
            have HBAD : Hid (stepE ⟨kd, tx, sn⟩ true ≠ 0 → E = stepE ⟨kd, tx, sn⟩ true) := Lib.hid (fun hn => by
              have h1 := stepsE_at _ _ _ hst.out HSS.out hn
              rw [← HE.out, if_pos HP.out, h1])
            by_cases h3 : kd = 3
            · subst h3
              have HBE := Lib.hid (show E = 54 by rw [HBAD.out (by rw [stepE_key, if_neg (fun h => by cases h.1)]; decide), stepE_key, if_neg (fun h => by cases h.1)])
              go_wp2_with (first | (go_at_call 100; (with_reducible refine (need_ok _ _ _).mono ?_); rintro e w4 ⟨rfl, rfl⟩) | (go_at_call 100; (with_reducible refine (need_no _ _ _).mono ?_); rintro e w4 ⟨rfl, rfl⟩))
              exact ⟨rfl, go (go hB hBr) (box_below _ _), .inr ⟨by rw [HBE.out]; decide, by rw [HBE.out]⟩⟩
            · have h3b : ((kd : Int) != 3) = true := by rw [bne_iff_ne]; exact h3
              have HO := Lib.hid (stepE_other (s := ⟨kd, tx, sn⟩) (post := true) h3)
              by_cases hz : stepC ⟨kd, tx, sn⟩ = 0
              · have HZ := Lib.hid hz
                clear hz
                go_wp2_with (first | (go_at_call 100; (with_reducible refine (need_ok _ _ _).mono ?_); rintro e w4 ⟨rfl, rfl⟩) | (go_at_call 100; (with_reducible refine (need_no _ _ _).mono ?_); rintro e w4 ⟨rfl, rfl⟩) | (go_at_call 126; go_must (refine (checkStep_zero ⟨kd, tx, sn⟩ a HZ.out HX.out _ (HT.out.below (balloc (go hB hBr) _)) (by have := hB.size; have := hBr.size; simp; omega)).mono ?_); rintro e w5 ⟨rfl, hB5⟩))
                go_roundw
                case rel => exact ⟨k + 1, by omega, by go_num, go hBr (go (box_below _ _) hB5), Lib.hid (stepsE_next _ _ _ hst.out HSS.out (HO.out.trans HZ.out))⟩
                case measure => simp [RowKit.intOf]; omega
              · have HZ := Lib.hid hz
                clear hz
                have HBE := Lib.hid (show E = stepC ⟨kd, tx, sn⟩ by rw [HBAD.out (by rw [HO.out]; exact HZ.out), HO.out])
                go_wp2_with (first | (go_at_call 100; (with_reducible refine (need_ok _ _ _).mono ?_); rintro e w4 ⟨rfl, rfl⟩) | (go_at_call 100; (with_reducible refine (need_no _ _ _).mono ?_); rintro e w4 ⟨rfl, rfl⟩) | (go_at_call 126; go_must (refine (checkStep_bad ⟨kd, tx, sn⟩ a HZ.out HX.out _ (HT.out.below (balloc (go hB hBr) _)) (by have := hB.size; have := hBr.size; simp; omega)).mono ?_); rintro e w5 ⟨rfl, hB5⟩))
                exact ⟨rfl, go (go hB hBr) (go (box_below _ _) hB5), .inr ⟨by rw [HBE.out]; exact HZ.out, by rw [HBE.out]⟩⟩
          · obtain rfl : k = f.post.length := by omega
            have hlt' : ¬ (f.post.length : Int) < f.post.length := by omega
            have HF := Lib.hid (show E = 0 by rw [← HE.out, if_pos HP.out]; have := hst.out; rw [List.take_length] at this; exact this)
            go_wp2
            go_end0
            exact ⟨go hB hBr, .inl ⟨HF.out, rfl⟩⟩
  · clear HTC htq
    go_enter Tryz.func102, Tryz.ntmps102
    go_wp2_with (first | (go_at_call 124; (with_reducible refine (B0.out _).mono ?_); rintro e w1 ⟨rfl, rfl⟩) | (go_at_call 124; (with_reducible refine (B1.out _).mono ?_); rintro e w1 ⟨rfl, rfl⟩) | (go_at_call 124; (with_reducible refine (B2.out _).mono ?_); rintro e w1 ⟨rfl, rfl⟩) | (go_at_call 125; (with_reducible refine (BW.out _).mono ?_); rintro e w1 ⟨rfl, hB1⟩; have k6 : w1.cell? ⟨w.heap.size, 6, none⟩ = some (.slice A1 f.pre.length c1) := kc hB1 (cell_new rfl rfl); have k7 : w1.cell? ⟨w.heap.size, 7, none⟩ = some (.int .i64 f.wk) := kc hB1 (cell_new rfl rfl); have k11 : w1.cell? ⟨w.heap.size, 11, none⟩ = some (.slice A2 f.post.length c2) := kc hB1 (cell_new rfl rfl); have hB := go (box_below _ _) hB1; clear hB1) | (go_at_call 100; (with_reducible refine (need_ok _ _ _).mono ?_); rintro e w2 ⟨rfl, rfl⟩))
    go_loopw [61] (fun i wr => ∃ k : Nat, k ≤ f.pre.length ∧ i = .int .i64 (k : Int) ∧ Below w2.heap.size w2 wr ∧ Hid (stepsE (f.pre.take k) false = 0)) (fun i _ => f.pre.length - (RowKit.intOf i).toNat)
    case atStart => exact ⟨0, Nat.zero_le _, rfl, Below.refl _ _, Lib.hid rfl⟩
    case round =>
      obtain ⟨k, hk, rfl, hBr, hst⟩ := hrel
      by_cases hlt : k < f.pre.length
      · have hlt' : (k : Int) < f.pre.length := by omega
        obtain ⟨b, o, rfl, hrow⟩ := HR1.out (by omega)
        obtain ⟨s, hs⟩ : ∃ s, f.pre[k]? = some s := ⟨_, List.getElem?_eq_getElem hlt⟩
        obtain ⟨kd, tx, sn⟩ := s
        have hrow2 := hrow.below (go hB hBr)
        have d0 : wr.cell? ⟨b, o + k * 3, none⟩ = some (.int .i64 kd) := hrow2 (k * 3 + 0) _ (flat_get stpCells 3 (fun _ => rfl) _ k 0 _ hs (by decide))
        have d1 : wr.cell? ⟨b, o + k * 3 + 1, none⟩ = some (.string tx) := hrow2 (k * 3 + 1) _ (flat_get stpCells 3 (fun _ => rfl) _ k 1 _ hs (by decide))
        have d2 : wr.cell? ⟨b, o + k * 3 + 2, none⟩ = some (.int .i64 sn) := hrow2 (k * 3 + 2) _ (flat_get stpCells 3 (fun _ => rfl) _ k 2 _ hs (by decide))
        have HX := Lib.hid (show tx.size ≤ 1000000000000000 from HS1.out _ (List.mem_of_getElem? hs))
        have HSS := Lib.hid hs
        clear hs hrow hrow2
        have HBAD : Hid (stepE ⟨kd, tx, sn⟩ false ≠ 0 → E = stepE ⟨kd, tx, sn⟩ false) := Lib.hid (fun hn => by
          have h1 := stepsE_at _ _ _ hst.out HSS.out hn
          rw [← HE.out, if_neg (by rw [h1]; exact hn), h1])
        by_cases h3 : kd = 3
        · subst h3
          by_cases hx : tx.toList = []
          · have hx1 : tx.toList.isEmpty = true := by rw [hx]; rfl
            have HXS := Lib.hid (toList_size.1 hx)
            by_cases hn : 0 ≤ sn ∧ sn ≤ 16
            · have BN := Lib.hid (fun X => between_is (show btw sn 0 16 = true from decide_eq_true hn) X)
              have HZ := Lib.hid (stepC_key (tx := tx) (n := sn))
              have HOK := Lib.hid (show stepE ⟨3, tx, sn⟩ false = 0 by rw [stepE_key, if_pos ⟨rfl, HXS.out, hn⟩])
              clear hn
              go_wp2_with (first | (go_at_call 124; (with_reducible refine (BN.out _).mono ?_); rintro e w4 ⟨rfl, rfl⟩) | (go_at_call 100; (with_reducible refine (need_ok _ _ _).mono ?_); rintro e w4 ⟨rfl, rfl⟩) | (go_at_call 100; (with_reducible refine (need_no _ _ _).mono ?_); rintro e w4 ⟨rfl, rfl⟩) | (go_at_call 126; go_must (refine (checkStep_zero ⟨3, tx, sn⟩ a HZ.out HX.out _ (HT.out.below (balloc (go hB hBr) _)) (by have := hB.size; have := hBr.size; simp; omega)).mono ?_); rintro e w5 ⟨rfl, hB5⟩))
              go_roundw
              case rel => exact ⟨k + 1, by omega, by go_num, go hBr (go (box_below _ _) hB5), Lib.hid (stepsE_next _ _ _ hst.out HSS.out HOK.out)⟩
              case measure => simp [RowKit.intOf]; omega
            · have BN := Lib.hid (fun X => between_is (show btw sn 0 16 = false from decide_eq_false hn) X)
              have HBE := Lib.hid (show E = 54 by rw [HBAD.out (by rw [stepE_key, if_neg (fun h => hn h.2.2)]; decide), stepE_key, if_neg (fun h => hn h.2.2)])
              clear hn
              go_wp2_with (first | (go_at_call 124; (with_reducible refine (BN.out _).mono ?_); rintro e w4 ⟨rfl, rfl⟩) | (go_at_call 100; (with_reducible refine (need_ok _ _ _).mono ?_); rintro e w4 ⟨rfl, rfl⟩) | (go_at_call 100; (with_reducible refine (need_no _ _ _).mono ?_); rintro e w4 ⟨rfl, rfl⟩))
              exact ⟨rfl, go (go hB hBr) (box_below _ _), .inr ⟨by rw [HBE.out]; decide, by rw [HBE.out]⟩⟩
          · have hx1 : tx.toList.isEmpty = false := by rw [List.isEmpty_eq_false_iff]; exact hx
            have HBE := Lib.hid (show E = 54 by rw [HBAD.out (by rw [stepE_key, if_neg (fun h => hx (toList_size.2 h.2.1))]; decide), stepE_key, if_neg (fun h => hx (toList_size.2 h.2.1))])
            go_wp2_with (first | (go_at_call 100; (with_reducible refine (need_ok _ _ _).mono ?_); rintro e w4 ⟨rfl, rfl⟩) | (go_at_call 100; (with_reducible refine (need_no _ _ _).mono ?_); rintro e w4 ⟨rfl, rfl⟩))
            exact ⟨rfl, go (go hB hBr) (box_below _ _), .inr ⟨by rw [HBE.out]; decide, by rw [HBE.out]⟩⟩
        · have h3b : ((kd : Int) != 3) = true := by rw [bne_iff_ne]; exact h3
          have HO := Lib.hid (stepE_other (s := ⟨kd, tx, sn⟩) (post := false) h3)
          by_cases hz : stepC ⟨kd, tx, sn⟩ = 0
          · have HZ := Lib.hid hz
            clear hz
            go_wp2_with (first | (go_at_call 100; (with_reducible refine (need_ok _ _ _).mono ?_); rintro e w4 ⟨rfl, rfl⟩) | (go_at_call 100; (with_reducible refine (need_no _ _ _).mono ?_); rintro e w4 ⟨rfl, rfl⟩) | (go_at_call 126; go_must (refine (checkStep_zero ⟨kd, tx, sn⟩ a HZ.out HX.out _ (HT.out.below (balloc (go hB hBr) _)) (by have := hB.size; have := hBr.size; simp; omega)).mono ?_); rintro e w5 ⟨rfl, hB5⟩))
            go_roundw
            case rel => exact ⟨k + 1, by omega, by go_num, go hBr (go (box_below _ _) hB5), Lib.hid (stepsE_next _ _ _ hst.out HSS.out (HO.out.trans HZ.out))⟩
            case measure => simp [RowKit.intOf]; omega
          · have HZ := Lib.hid hz
            clear hz
            have HBE := Lib.hid (show E = stepC ⟨kd, tx, sn⟩ by rw [HBAD.out (by rw [HO.out]; exact HZ.out), HO.out])
            go_wp2_with (first | (go_at_call 100; (with_reducible refine (need_ok _ _ _).mono ?_); rintro e w4 ⟨rfl, rfl⟩) | (go_at_call 100; (with_reducible refine (need_no _ _ _).mono ?_); rintro e w4 ⟨rfl, rfl⟩) | (go_at_call 126; go_must (refine (checkStep_bad ⟨kd, tx, sn⟩ a HZ.out HX.out _ (HT.out.below (balloc (go hB hBr) _)) (by have := hB.size; have := hBr.size; simp; omega)).mono ?_); rintro e w5 ⟨rfl, hB5⟩))
            exact ⟨rfl, go (go hB hBr) (go (box_below _ _) hB5), .inr ⟨by rw [HBE.out]; exact HZ.out, by rw [HBE.out]⟩⟩
      · obtain rfl : k = f.pre.length := by omega
        have hlt' : ¬ (f.pre.length : Int) < f.pre.length := by omega
        have HP := Lib.hid (show stepsE f.pre false = 0 by have := hst.out; rw [List.take_length] at this; exact this)
        have k11r := kc hBr k11
        have hBp := hBr
        clear hst hBr
        go_wp2
        go_loopw [87] (fun i wr => ∃ k : Nat, k ≤ f.post.length ∧ i = .int .i64 (k : Int) ∧ Below w2.heap.size w2 wr ∧ Hid (stepsE (f.post.take k) true = 0)) (fun i _ => f.post.length - (RowKit.intOf i).toNat)
        case atStart => exact ⟨0, Nat.zero_le _, rfl, hBp, Lib.hid rfl⟩
        case round =>
          obtain ⟨k, hk, rfl, hBr, hst⟩ := hrel
          by_cases hlt : k < f.post.length
          · have hlt' : (k : Int) < f.post.length := by omega
            obtain ⟨b, o, rfl, hrow⟩ := HR2.out (by omega)
            obtain ⟨s, hs⟩ : ∃ s, f.post[k]? = some s := ⟨_, List.getElem?_eq_getElem hlt⟩
            obtain ⟨kd, tx, sn⟩ := s
            have hrow2 := hrow.below (go hB hBr)
            have d0 : wr.cell? ⟨b, o + k * 3, none⟩ = some (.int .i64 kd) := hrow2 (k * 3 + 0) _ (flat_get stpCells 3 (fun _ => rfl) _ k 0 _ hs (by decide))
            have d1 : wr.cell? ⟨b, o + k * 3 + 1, none⟩ = some (.string tx) := hrow2 (k * 3 + 1) _ (flat_get stpCells 3 (fun _ => rfl) _ k 1 _ hs (by decide))
            have d2 : wr.cell? ⟨b, o + k * 3 + 2, none⟩ = some (.int .i64 sn) := hrow2 (k * 3 + 2) _ (flat_get stpCells 3 (fun _ => rfl) _ k 2 _ hs (by decide))
            have HX := Lib.hid (show tx.size ≤ 1000000000000000 from HS2.out _ (List.mem_of_getElem? hs))
            have HSS := Lib.hid hs
            clear hs hrow hrow2
            have HBAD : Hid (stepE ⟨kd, tx, sn⟩ true ≠ 0 → E = stepE ⟨kd, tx, sn⟩ true) := Lib.hid (fun hn => by
              have h1 := stepsE_at _ _ _ hst.out HSS.out hn
              rw [← HE.out, if_pos HP.out, h1])
            by_cases h3 : kd = 3
            · subst h3
              have HBE := Lib.hid (show E = 54 by rw [HBAD.out (by rw [stepE_key, if_neg (fun h => by cases h.1)]; decide), stepE_key, if_neg (fun h => by cases h.1)])
              go_wp2_with (first | (go_at_call 100; (with_reducible refine (need_ok _ _ _).mono ?_); rintro e w4 ⟨rfl, rfl⟩) | (go_at_call 100; (with_reducible refine (need_no _ _ _).mono ?_); rintro e w4 ⟨rfl, rfl⟩))
              exact ⟨rfl, go (go hB hBr) (box_below _ _), .inr ⟨by rw [HBE.out]; decide, by rw [HBE.out]⟩⟩
            · have h3b : ((kd : Int) != 3) = true := by rw [bne_iff_ne]; exact h3
              have HO := Lib.hid (stepE_other (s := ⟨kd, tx, sn⟩) (post := true) h3)
              by_cases hz : stepC ⟨kd, tx, sn⟩ = 0
              · have HZ := Lib.hid hz
                clear hz
                go_wp2_with (first | (go_at_call 100; (with_reducible refine (need_ok _ _ _).mono ?_); rintro e w4 ⟨rfl, rfl⟩) | (go_at_call 100; (with_reducible refine (need_no _ _ _).mono ?_); rintro e w4 ⟨rfl, rfl⟩) | (go_at_call 126; go_must (refine (checkStep_zero ⟨kd, tx, sn⟩ a HZ.out HX.out _ (HT.out.below (balloc (go hB hBr) _)) (by have := hB.size; have := hBr.size; simp; omega)).mono ?_); rintro e w5 ⟨rfl, hB5⟩))
                go_roundw
                case rel => exact ⟨k + 1, by omega, by go_num, go hBr (go (box_below _ _) hB5), Lib.hid (stepsE_next _ _ _ hst.out HSS.out (HO.out.trans HZ.out))⟩
                case measure => simp [RowKit.intOf]; omega
              · have HZ := Lib.hid hz
                clear hz
                have HBE := Lib.hid (show E = stepC ⟨kd, tx, sn⟩ by rw [HBAD.out (by rw [HO.out]; exact HZ.out), HO.out])
                go_wp2_with (first | (go_at_call 100; (with_reducible refine (need_ok _ _ _).mono ?_); rintro e w4 ⟨rfl, rfl⟩) | (go_at_call 100; (with_reducible refine (need_no _ _ _).mono ?_); rintro e w4 ⟨rfl, rfl⟩) | (go_at_call 126; go_must (refine (checkStep_bad ⟨kd, tx, sn⟩ a HZ.out HX.out _ (HT.out.below (balloc (go hB hBr) _)) (by have := hB.size; have := hBr.size; simp; omega)).mono ?_); rintro e w5 ⟨rfl, hB5⟩))
                exact ⟨rfl, go (go hB hBr) (go (box_below _ _) hB5), .inr ⟨by rw [HBE.out]; exact HZ.out, by rw [HBE.out]⟩⟩
          · obtain rfl : k = f.post.length := by omega
            have hlt' : ¬ (f.post.length : Int) < f.post.length := by omega
            have HF := Lib.hid (show E = 0 by rw [← HE.out, if_pos HP.out]; have := hst.out; rw [List.take_length] at this; exact this)
            go_wp2
            go_end0
            exact ⟨go hB hBr, .inl ⟨HF.out, rfl⟩⟩
theorem checkFlow_calls (f : Flw) (pv qv : Value) (parts a : Int) (w : World) (hp : StepsAt w pv f.pre) (hq : StepsAt w qv f.post) (hs1 : SmallSteps f.pre) (hs2 : SmallSteps f.post) (hT : Tab w) (hg : 5 < w.heap.size) :
    Calls Tryz.prog 102 #[.agg (flwCells f pv qv), .int .i64 parts, .int .i64 a] w (GivesE a (innerE parts f) w) := by
  by_cases h1 : -1 ≤ f.bound ∧ f.bound ≤ 1000000
  · by_cases h2 : 1 ≤ f.readers ∧ f.readers ≤ min 8 parts
    · by_cases h3 : 1 ≤ f.keepers ∧ f.keepers ≤ 8
      · by_cases h4 : WinOk f.wk f.ws f.wl f.agg
        · have h : ArgOk parts f := ⟨h1.1, h1.2, h2.1, by omega, by omega, h3.1, h3.2, h4⟩
          by_cases hm : 8 < f.pre.length ∨ 8 < f.post.length
          · exact flow_many f pv qv parts a w hp hq h hm
          · by_cases hw : f.wk = 0 ∧ f.post ≠ []
            · exact flow_none f pv qv parts a w hp hq h hm hw
            · exact flow_steps f pv qv parts a w hp hq h hm hw hs1 hs2 hT hg
        · exact flow_windows f pv qv parts a w h1 h2 h3 h4
      · exact flow_keepers f pv qv parts a w h1 h2 h3
    · exact flow_readers f pv qv parts a w h1 h2
  · exact flow_bound f pv qv parts a w h1
end Go.Proofs.YtkjajlolfcioiaaGreatDoor.Check
