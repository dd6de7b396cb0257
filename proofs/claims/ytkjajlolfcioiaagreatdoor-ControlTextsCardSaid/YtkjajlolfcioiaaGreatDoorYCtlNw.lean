/- control.New, walked. -/
import Derived.Test.YtkjajlolfcioiaaGreatDoorYCtlJe
import Derived.Deep.RegionHeld3
import Derived.WalkSpells
import Derived.WalkLawsBesides
namespace Go.Proofs.YtkjajlolfcioiaaGreatDoor.Control
open Go Go.RowKit Go.MapKept Go.Maps Go.Proofs Go.Proofs.YtkjajlolfcioiaaGreatDoor Go.Proofs.YtkjajlolfcioiaaGreatDoor.Expr Go.Proofs.YtkjajlolfcioiaaGreatDoor.Own Go.Proofs.YtkjajlolfcioiaaGreatDoor.Tail Go.Proofs.YtkjajlolfcioiaaGreatDoor.Mp Go.Proofs.YtkjajlolfcioiaaGreatDoor.Ints Go.Proofs.YtkjajlolfcioiaaGreatDoor.Plan Go.Proofs.YtkjajlolfcioiaaGreatDoor.Check Go.Proofs.YtkjajlolfcioiaaGreatDoor.Graph Go.Proofs.YtkjajlolfcioiaaGreatDoor.Ctl
theorem flat_lenN {α : Type} (f : α → List Value) (m : Nat) (hf : ∀ x, (f x).length = m) (l : List α) : (l.flatMap f).length = l.length * m := by
  induction l with
  | nil => simp
  | cons x r ih => rw [List.flatMap_cons, List.length_append, hf, ih, List.length_cons, Nat.succ_mul]; omega
theorem stp_one (l : List Stp) : ∀ u ∈ l.flatMap stpCells, u.oneCell' = true := by
  intro u hu
  obtain ⟨x, -, hx⟩ := List.mem_flatMap.1 hu
  simp [stpCells] at hx
  rcases hx with rfl | rfl | rfl <;> simp [Value.oneCell']
theorem sliceOfPtr : SliceOf Tryz.prog 113 119 1 8 := sliceOf (z := .pointer none) Tryz.underlying113 (by kernel_rfl) rfl (by decide)
theorem box_grew {w W : World} {base2 E2 size2 n2 : Nat} {v2 : Value} {xs2 : List Value} {b : Nat} {o : Obj} (hg : w.grownBy W v2.ownBlock) (h2 : w.ownsRow base2 E2 size2 v2 n2 xs2) (h : w.heap[b]? = some o) (hne : ∀ cur, o ≠ .cells cur E2) : W.heap[b]? = some o := by
  refine (hg.block b (Array.getElem?_eq_some_iff.1 h).1 fun e => ?_).trans h
  obtain ⟨cur, hc⟩ := own_type h2 e
  rw [h] at hc
  exact hne _ (Option.some.inj hc)
def NewPost (tops : List Top) (fl : List FlwV) (w : World) (e : Ending) (w' : World) : Prop :=
  ((orderR (plnOf tops fl)).2 ≠ 0 ∧ e = .returned (.tuple #[.pointer none, .int .i64 (orderR (plnOf tops fl)).2]) ∧ Below w.heap.size w w') ∨
  ((orderR (plnOf tops fl)).2 = 0 ∧ ∃ cb, e = .returned (.tuple #[.pointer (some ⟨cb, 0, none⟩), .int .i64 0]) ∧ CtlAt w' cb (newC tops (fl.map (·.f))) (fun i => w.heap.size ≤ i ∧ i < w'.heap.size) ∧ Below w.heap.size w w')
set_option maxHeartbeats 4000000 in
set_option maxRecDepth 100000 in
theorem new_bad (tops : List Top) (fl : List FlwV) (tv fv : Value) (w : World) (hP : PlanAt w tv fv tops fl) (hS : SmallFlows fl) (hT : Tab w) (hg : 5 < w.heap.size) (hE : (orderR (plnOf tops fl)).2 ≠ 0) :
    Calls Tryz.prog 31 #[.agg #[tv, fv]] w (NewPost tops fl w) := by
  have hcall := fun X (k : Below w.heap.size w X) => order_calls tops fl tv fv X (hP.below k) hS (hT.below k) (Nat.lt_of_lt_of_le hg k.size)
  unfold NewPost
  unfold OrderPost at hcall
  obtain ⟨E, hE1⟩ : ∃ E, (orderR (plnOf tops fl)).2 = E := ⟨_, rfl⟩
  rw [hE1] at hE hcall ⊢
  clear hE1
  obtain ⟨A1, c1, rfl, hc1, hr1⟩ := hP.tops
  obtain ⟨A2, c2, rfl, hc2, hr2⟩ := hP.flows
  have HC := Lib.hid hcall
  have HE := Lib.hid hE
  have b0 : (E == 0) = false := by simpa using hE
  have b1 : (E != 0) = true := by simpa using hE
  clear hcall hE hP hr1 hr2
  go_enter Tryz.func31, Tryz.ntmps31
  go_wp2_with (go_at_call 17; (with_reducible refine (HC.out _ (box_below _ _)).mono ?_); rintro e w1 ⟨v, rfl, hv, hB1⟩)
  go_ret2
  exact .inl ⟨HE.out, rfl, (box_below _ _).trans (hB1.mono (by simp))⟩
set_option maxHeartbeats 8000000 in
set_option maxRecDepth 100000 in
theorem new_good (tops : List Top) (fl : List FlwV) (tv fv : Value) (w : World) (hP : PlanAt w tv fv tops fl) (hS : SmallFlows fl) (hT : Tab w) (hg : 5 < w.heap.size) (hE : (orderR (plnOf tops fl)).2 = 0) (hl1 : tops.length ≤ 1000) (hl2 : fl.length ≤ 1000) (hl3 : ∀ x ∈ fl, x.f.pre.length ≤ 1000 ∧ x.f.post.length ≤ 1000) :
    Calls Tryz.prog 31 #[.agg #[tv, fv]] w (NewPost tops fl w) := by
  have hcall := fun X (k : Below w.heap.size w X) => order_calls tops fl tv fv X (hP.below k) hS (hT.below k) (Nat.lt_of_lt_of_le hg k.size)
  have htl : (tops.flatMap topCells).length = tops.length * 2 := flat_lenN topCells 2 (fun _ => rfl) tops
  have ht1 : ∀ u ∈ tops.flatMap topCells, u.oneCell' = true := by
    intro u hu
    obtain ⟨x, -, hx⟩ := List.mem_flatMap.1 hu
    simp [topCells] at hx
    rcases hx with rfl | rfl <;> simp [Value.oneCell']
  have hclone := fun X (k : Below w.heap.size w X) => cloneTops_calls tv tops.length _ X (hP.tops.below k) hl1 htl ht1
  unfold NewPost
  unfold OrderPost at hcall
  rw [hE] at hcall
  have hrow : ∀ X, Below w.heap.size w X → SliceAt X fv fl.length (fl.flatMap flwvCells) := fun X k => hP.flows.below k
  have hstp : ∀ X, Below w.heap.size w X → ∀ x ∈ fl, StepsAt X x.pv x.f.pre ∧ StepsAt X x.qv x.f.post := fun X k x hx => ⟨(hP.pre x hx).below k, (hP.post x hx).below k⟩
  obtain ⟨A1, c1, rfl, hc1, hr1⟩ := hP.tops
  obtain ⟨A2, c2, rfl, hc2, hr2⟩ := hP.flows
  have HC := Lib.hid hcall
  have HCl := Lib.hid hclone
  have HE := Lib.hid hE
  have HR := Lib.hid hrow
  have HST := Lib.hid hstp
  have HS := Lib.hid hS
  have HT := Lib.hid hT
  have HL3 := Lib.hid hl3
  clear hcall hclone hE hP hr1 hr2 hrow hstp hS hT hl3 htl ht1
  have hmm := @run_makeMap Tryz.prog
  go_enter Tryz.func31, Tryz.ntmps31
  go_wp2_with (first | (go_at_call 17; (with_reducible refine (HC.out _ (box_below _ _)).mono ?_); rintro e w1 ⟨v, rfl, hv, hB1⟩; have p0 := kc hB1 (cell_new (X := w) (g := w.heap.size) (cs := #[.slice A1 tops.length c1, .slice A2 fl.length c2]) (T := 25) (j := 0) rfl rfl); have p1 := kc hB1 (cell_new (X := w) (g := w.heap.size) (cs := #[.slice A1 tops.length c1, .slice A2 fl.length c2]) (T := 25) (j := 1) rfl rfl); have HB1 := Lib.hid hB1; clear hv hB1) | (go_at_call 65; (with_reducible refine (HCl.out _ ((box_below _ _).trans (HB1.out.mono (by simp)))).mono ?_); rintro e w2 ⟨tv, rfl, hot, hB2⟩; obtain ⟨A3, c3, rfl, -, -, -, -⟩ := own_form hot; have q1 := kc hB2 p1; have hsz2 : w.heap.size < w2.heap.size := lt_of_cell q1; have HB2 := Lib.hid hB2; have HOT := Lib.hid hot; clear hot hB2))
  obtain ⟨W0, hW0⟩ : ∃ W0, (w2.alloc (.map #[] 0)).alloc (.cells #[.slice A3 tops.length c3, .slice none 0 0, .map (some w2.heap.size), .slice none 0 0] 115) = W0 := ⟨_, rfl⟩
  have HW0 : Below w2.heap.size w2 W0 := by rw [← hW0]; exact balloc (box_below _ _) _
  have hw02 : Below w.heap.size w w2 := ((box_below _ _).trans (HB1.out.mono (by simp))).trans (HB2.out.mono (by have := HB1.out.size; simp at this; omega))
  have HN0 := Lib.hid (show NewAt w (w2.heap.size + 1 + 1) (w2.heap.size + 1) w2.heap.size (.slice A3 tops.length c3) tops fl 0 (.slice none 0 0) (.slice none 0 0) [] [] W0 from by
    rw [← hW0]
    exact ⟨hw02.trans ((balloc (box_below _ _) _).mono (by omega)), heap_at (by simp), heap_up (heap_new _ _), own_base (own_kept HOT.out (balloc (box_below _ _) _)) (by have := HB1.out.size; simp at this; omega), own_nil _ _ _ _, own_nil _ _ _ _, rfl, rfl, (fun x hx => by cases hx), (fun x hx => by cases hx), (fun x hx => by cases hx), List.Pairwise.nil, by simp; omega⟩)
  rw [hW0]
  have HWW := Lib.hid HW0
  have HWX := Lib.hid hw02
  clear hW0 HW0 hw02 p0 p1 q1 HOT HB1 HB2 HC HCl
  go_loopw [27] (fun iv wr => ∃ (k : Nat) (fv jv : Value) (flk : List FlwV) (xs : List JV), k ≤ fl.length ∧ iv = .int .i64 (k : Int) ∧ Hid (NewAt w (w2.heap.size + 1 + 1) (w2.heap.size + 1) w2.heap.size (.slice A3 tops.length c3) tops fl k fv jv flk xs wr)) (fun iv _ => fl.length - (RowKit.intOf iv).toNat)
  case atStart => exact ⟨0, _, _, [], [], Nat.zero_le _, rfl, HN0⟩
  case round =>
    obtain ⟨k, fv, jv, flk, xs, hk, rfl, HN⟩ := hrel
    clear HN0
    by_cases hkl : k < fl.length
    · have l0 : (k : Int) < (fl.length : Int) := by omega
      obtain ⟨x, hx⟩ : ∃ x, fl[k]? = some x := ⟨_, List.getElem?_eq_getElem hkl⟩
      have hxm := List.mem_of_getElem? hx
      obtain ⟨A, c, e, -, hr⟩ := HR.out wr HN.out.bel
      obtain ⟨b, o, rfl, hrow2⟩ := hr (by omega)
      obtain rfl : A2 = some ⟨b, o, none⟩ := by simpa using (Value.slice.inj e).1
      have hbel := HN.out.bel
      obtain ⟨hp1, hp2⟩ := HST.out wr hbel x hxm
      have hl31 := (HL3.out x hxm).1
      have hl32 := (HL3.out x hxm).2
      have hctl := HN.out.ctl
      obtain ⟨Af, cf, rfl, -, -, -, -⟩ := own_form HN.out.flows
      obtain ⟨Aj, cj, rfl, -, -, -, -⟩ := own_form HN.out.ptrs
      have hat := HN.out.at0
      have hfk : flk.length = k := by
        have := congrArg List.length HN.out.fs
        simpa [Nat.min_eq_left hk] using this
      have hxk : xs.length = k := by
        have := congrArg List.length HN.out.js
        simpa [Nat.min_eq_left hk] using this
      have HFK := Lib.hid hfk
      have HXK := Lib.hid hxk
      clear hfk hxk
      have e1 : wr.cell? ⟨w2.heap.size + 1, 1, none⟩ = some (.slice Af flk.length cf) := by rw [cell_of_row _ _ _ _ _ _ hctl]; rfl
      have e3 : wr.cell? ⟨w2.heap.size + 1, 3, none⟩ = some (.slice Aj xs.length cj) := by rw [cell_of_row _ _ _ _ _ _ hctl]; rfl
      have hcf : ∀ j, wr.frozen? ⟨w2.heap.size + 1, j, none⟩ = false := fun j => by simp [World.frozen?, hctl]
      obtain ⟨f, pv, qv⟩ := x
      dsimp only at *
      obtain ⟨pA, pc, rfl, -, -⟩ := id hp1
      obtain ⟨qA, qc, rfl, -, -⟩ := id hp2
      have d0 : wr.cell? ⟨b, o + k * 12, none⟩ = some (.string f.name) := hrow2 (k * 12 + 0) _ (flat_get flwvCells 12 (fun _ => rfl) _ k 0 _ hx (by decide))
      have d1 : wr.cell? ⟨b, o + k * 12 + 1, none⟩ = some (.string f.frm) := hrow2 (k * 12 + 1) _ (flat_get flwvCells 12 (fun _ => rfl) _ k 1 _ hx (by decide))
      have d2 : wr.cell? ⟨b, o + k * 12 + 2, none⟩ = some (.string f.to) := hrow2 (k * 12 + 2) _ (flat_get flwvCells 12 (fun _ => rfl) _ k 2 _ hx (by decide))
      have d3 : wr.cell? ⟨b, o + k * 12 + 3, none⟩ = some (.int .i64 f.bound) := hrow2 (k * 12 + 3) _ (flat_get flwvCells 12 (fun _ => rfl) _ k 3 _ hx (by decide))
      have d4 : wr.cell? ⟨b, o + k * 12 + 4, none⟩ = some (.int .i64 f.readers) := hrow2 (k * 12 + 4) _ (flat_get flwvCells 12 (fun _ => rfl) _ k 4 _ hx (by decide))
      have d5 : wr.cell? ⟨b, o + k * 12 + 5, none⟩ = some (.int .i64 f.keepers) := hrow2 (k * 12 + 5) _ (flat_get flwvCells 12 (fun _ => rfl) _ k 5 _ hx (by decide))
      have d6 : wr.cell? ⟨b, o + k * 12 + 6, none⟩ = some (.slice pA f.pre.length pc) := hrow2 (k * 12 + 6) _ (flat_get flwvCells 12 (fun _ => rfl) _ k 6 _ hx (by decide))
      have d7 : wr.cell? ⟨b, o + k * 12 + 7, none⟩ = some (.int .i64 f.wk) := hrow2 (k * 12 + 7) _ (flat_get flwvCells 12 (fun _ => rfl) _ k 7 _ hx (by decide))
      have d8 : wr.cell? ⟨b, o + k * 12 + 8, none⟩ = some (.int .i64 f.ws) := hrow2 (k * 12 + 8) _ (flat_get flwvCells 12 (fun _ => rfl) _ k 8 _ hx (by decide))
      have d9 : wr.cell? ⟨b, o + k * 12 + 9, none⟩ = some (.int .i64 f.wl) := hrow2 (k * 12 + 9) _ (flat_get flwvCells 12 (fun _ => rfl) _ k 9 _ hx (by decide))
      have d10 : wr.cell? ⟨b, o + k * 12 + 10, none⟩ = some (.int .i64 f.agg) := hrow2 (k * 12 + 10) _ (flat_get flwvCells 12 (fun _ => rfl) _ k 10 _ hx (by decide))
      have d11 : wr.cell? ⟨b, o + k * 12 + 11, none⟩ = some (.slice qA f.post.length qc) := hrow2 (k * 12 + 11) _ (flat_get flwvCells 12 (fun _ => rfl) _ k 11 _ hx (by decide))
      have HP1 := Lib.hid hp1
      have HP2 := Lib.hid hp2
      have HBL := Lib.hid hbel
      have HX := Lib.hid hx
      have HCTL := Lib.hid hctl
      have HCF := Lib.hid hcf
      have HK := Lib.hid hk
      have hlt2 : b < wr.heap.size := lt_of_cell d0
      clear hp1 hp2 hbel hx hxm hctl hcf hk hrow2 hr e
      go_wp2_with fail
      obtain ⟨a1, ha1⟩ : ∃ a1, wr.alloc (.cells #[.string f.name, .string f.frm, .string f.to, .int .i64 f.bound, .int .i64 f.readers, .int .i64 f.keepers, .slice pA f.pre.length pc, .int .i64 f.wk, .int .i64 f.ws, .int .i64 f.wl, .int .i64 f.agg, .slice qA f.post.length qc] 71) = a1 := ⟨_, rfl⟩
      have ka1 : Below wr.heap.size wr a1 := by rw [← ha1]; exact box_below _ _
      have HZ1 := Lib.hid (show a1.heap.size = wr.heap.size + 1 from by rw [← ha1]; simp)
      have hb1 : a1.heap[wr.heap.size]? = some (.cells #[.string f.name, .string f.frm, .string f.to, .int .i64 f.bound, .int .i64 f.readers, .int .i64 f.keepers, .slice pA f.pre.length pc, .int .i64 f.wk, .int .i64 f.ws, .int .i64 f.wl, .int .i64 f.agg, .slice qA f.post.length qc] 71) := by rw [← ha1]; exact heap_new _ _
      rw [ha1]
      have g6 : a1.cell? ⟨wr.heap.size, 6, none⟩ = some (.slice pA f.pre.length pc) := by rw [cell_of_row _ _ _ _ _ _ hb1]; rfl
      have g11 : a1.cell? ⟨wr.heap.size, 11, none⟩ = some (.slice qA f.post.length qc) := by rw [cell_of_row _ _ _ _ _ _ hb1]; rfl
      have KA1 := Lib.hid ka1
      have HB1 := Lib.hid hb1
      clear ha1 ka1 hb1 d0 d1 d2 d3 d4 d5 d6 d7 d8 d9 d10 d11
      refine wp_region_forced 7 (by kernel_rfl) (by kernel_rfl) ?_
      simp only [List.take_succ_cons, List.take_zero, List.drop_succ_cons, List.drop_zero, List.size_toArray, List.length_cons, List.length_nil, Nat.zero_add, Nat.reduceAdd]
      refine wpAny_of_held (S := fun X : World => X.cell? ⟨wr.heap.size, 6, none⟩ = some (.slice pA f.pre.length pc) ∧ X.cell? ⟨wr.heap.size, 11, none⟩ = some (.slice qA f.post.length qc)) _ _ _ _ ?_
      have hS0 : (fun X : World => X.cell? ⟨wr.heap.size, 6, none⟩ = some (.slice pA f.pre.length pc) ∧ X.cell? ⟨wr.heap.size, 11, none⟩ = some (.slice qA f.post.length qc)) a1.drew := ⟨g6, g11⟩
      refine wpAnyH_take (i := 0) (v := ?_) rfl (by kernel_rfl) (by kernel_rfl) (by kernel_rfl) (fun _ _ _ h => h) (Or.inl ⟨by rfl, ?_⟩) hS0 ?_
      rotate_left
      · intro w hSw; (try dsimp only at hSw); go_simp; (first | done | with_reducible rfl)
      simp only [Act.put, List.getElem_toArray, List.getElem_cons_zero, List.setIfInBounds_toArray, List.set_cons_zero, List.set_cons_succ]
      refine wpAnyH_take (i := 1) (v := ?_) rfl (by kernel_rfl) (by kernel_rfl) (by kernel_rfl) (fun _ _ _ h => h) (Or.inl ⟨by rfl, ?_⟩) hS0 ?_
      rotate_left
      · intro w hSw; (try dsimp only at hSw); go_simp; (first | done | with_reducible rfl)
      simp only [Act.put, List.getElem_toArray, List.getElem_cons_zero, List.getElem_cons_succ, List.setIfInBounds_toArray, List.set_cons_zero, List.set_cons_succ]
      refine wpAnyH_take (i := 3) (v := ?_) rfl (by kernel_rfl) (by kernel_rfl) (by kernel_rfl) (fun _ _ _ h => h) (Or.inl ⟨by rfl, ?_⟩) hS0 ?_
      rotate_left
      · intro w hSw; (try dsimp only at hSw); go_simp; (first | done | with_reducible rfl)
      simp only [Act.put, List.getElem_toArray, List.getElem_cons_zero, List.getElem_cons_succ, List.setIfInBounds_toArray, List.set_cons_zero, List.set_cons_succ]
      refine wpAnyH_take (i := 4) (v := ?_) rfl (by kernel_rfl) (by kernel_rfl) (by kernel_rfl) (fun _ _ _ h => h) (Or.inl ⟨by rfl, ?_⟩) hS0 ?_
      rotate_left
      · intro w hSw; (try dsimp only at hSw); go_simp; (first | done | with_reducible rfl)
      simp only [Act.put, List.getElem_toArray, List.getElem_cons_zero, List.getElem_cons_succ, List.setIfInBounds_toArray, List.set_cons_zero, List.set_cons_succ]
      refine wpAnyH_ready (rs := [2]) (by kernel_rfl) (by simp) ?_
      refine AllReadyH.cons rfl (fun K hK => ?_) AllReadyH.nil
      go_simp
      (with_reducible refine (cloneSteps_calls _ _ _ _ (SliceAt.below HP1.out KA1.out.drew) hl31 (flat_lenN stpCells 3 (fun _ => rfl) _) (stp_one _)).mono ?_)
      rintro e a2 ⟨pv2, rfl, hop, hB2⟩
      obtain ⟨pB, pd, rfl, -, -, -, -⟩ := own_form hop
      refine hK.out _ _ ⟨kc hB2 hS0.1, kc hB2 hS0.2⟩ (fun hS2 => ?_)
      clear hK K
      try simp only [Act.put, List.setIfInBounds_toArray, List.set_cons_zero, List.set_cons_succ]
      refine wpAnyH_take (i := 6) (v := ?_) rfl (by kernel_rfl) (by kernel_rfl) (by kernel_rfl) (fun _ _ _ h => h) (Or.inl ⟨by rfl, ?_⟩) hS2 ?_
      rotate_left
      · intro w hSw; (try dsimp only at hSw); go_simp; (first | done | with_reducible rfl)
      simp only [Act.put, List.getElem_toArray, List.getElem_cons_zero, List.getElem_cons_succ, List.setIfInBounds_toArray, List.set_cons_zero, List.set_cons_succ]
      refine wpAnyH_ready (rs := [5]) (by kernel_rfl) (by simp) ?_
      refine AllReadyH.cons rfl (fun K hK => ?_) AllReadyH.nil
      go_simp
      (with_reducible refine (cloneSteps_calls _ _ _ _ (SliceAt.below HP2.out (go KA1.out.drew hB2)) hl32 (flat_lenN stpCells 3 (fun _ => rfl) _) (stp_one _)).mono ?_)
      rintro e a3 ⟨qv2, rfl, hoq, hB3⟩
      obtain ⟨qB, qd, rfl, -, -, -, -⟩ := own_form hoq
      refine hK.out _ _ ⟨kc hB3 hS2.1, kc hB3 hS2.2⟩ (fun hS3 => ?_)
      clear hK K
      try simp only [Act.put, List.setIfInBounds_toArray, List.set_cons_zero, List.set_cons_succ]
      refine wpAnyH_done (by kernel_rfl) ?_ _
      show wpList _ _ _ _ _ _
      have hz1 := HZ1.out
      have hbel3 : Below wr.heap.size wr a3 := go (go KA1.out.drew hB2) hB3
      have hcb3 : a3.heap[w2.heap.size + 1]? = some (.cells #[.slice A3 tops.length c3, .slice Af flk.length cf, .map (some w2.heap.size), .slice Aj xs.length cj] 115) := (hbel3.block _ (by omega)).trans HCTL.out
      have hfb3 : a3.heap[wr.heap.size]? = some (.cells #[.string f.name, .string f.frm, .string f.to, .int .i64 f.bound, .int .i64 f.readers, .int .i64 f.keepers, .slice pA f.pre.length pc, .int .i64 f.wk, .int .i64 f.ws, .int .i64 f.wl, .int .i64 f.agg, .slice qA f.post.length qc] 71) := ((hB3.block _ (by have := hB2.size; simp at this; omega)).trans (hB2.block _ (by simp; omega))).trans HB1.out
      have x6 : a3.cell? ⟨wr.heap.size, 6, none⟩ = some (.slice pA f.pre.length pc) := hS3.1
      have x11 : a3.cell? ⟨wr.heap.size, 11, none⟩ = some (.slice qA f.post.length qc) := hS3.2
      have y6 : a3.frozen? ⟨wr.heap.size, 6, none⟩ = false := by simp [World.frozen?, hfb3]
      have y11 : a3.frozen? ⟨wr.heap.size, 11, none⟩ = false := by simp [World.frozen?, hfb3]
      have hfb4 := set_cell_heap (i := 11) (.slice qB f.post.length qd) (set_cell_heap (i := 6) (.slice pB f.pre.length pd) hfb3)
      simp only [List.setIfInBounds_toArray, List.set_cons_zero, List.set_cons_succ] at hfb4
      have HB3 := Lib.hid hbel3
      have HC3 := Lib.hid hcb3
      have HOP := Lib.hid (own_put (b := wr.heap.size) (i := 11) (own_put (b := wr.heap.size) (i := 6) (own_kept hop hB3) (.slice pB f.pre.length pd) (by simp; omega)) (.slice qB f.post.length qd) (by simp; omega))
      have HOQ := Lib.hid (own_put (b := wr.heap.size) (i := 11) (own_put (b := wr.heap.size) (i := 6) hoq (.slice pB f.pre.length pd) (by have := hB2.size; simp at this; omega)) (.slice qB f.post.length qd) (by have := hB2.size; simp at this; omega))
      have HF4 := Lib.hid hfb4
      have hz3 : wr.heap.size < a3.heap.size := lt_of_cell x6
      have HZB := Lib.hid (show wr.heap.size + 1 ≤ a2.heap.size from by have := hB2.size; simp at this; omega)
      clear hz1 hS0 hS2 hS3 hop hoq hB2 hB3 hbel3 hcb3 hfb3 hfb4 g6 g11
      go_wp2_with fail
      obtain ⟨a4, ha4⟩ : ∃ a4, (a3.setCell ⟨wr.heap.size, 6, none⟩ (.slice pB f.pre.length pd)).setCell ⟨wr.heap.size, 11, none⟩ (.slice qB f.post.length qd) = a4 := ⟨_, rfl⟩
      have HZ4 := Lib.hid (show a4.heap.size = a3.heap.size from by rw [← ha4]; simp [World.setCell])
      have hfb := HF4.out
      have hop := HOP.out
      have hoq := HOQ.out
      have hbel4 : Below wr.heap.size wr a4 := by rw [← ha4]; exact (HB3.out.setCell (p := ⟨wr.heap.size, 6, none⟩) (Nat.le_refl _) _).setCell (p := ⟨wr.heap.size, 11, none⟩) (Nat.le_refl _) _
      rw [ha4] at hfb hop hoq ⊢
      have hcb4 : a4.heap[w2.heap.size + 1]? = some (.cells #[.slice A3 tops.length c3, .slice Af flk.length cf, .map (some w2.heap.size), .slice Aj xs.length cj] 115) := (hbel4.block _ (by omega)).trans HCTL.out
      have e14 : a4.cell? ⟨w2.heap.size + 1, 1, none⟩ = some (.slice Af flk.length cf) := by rw [cell_of_row _ _ _ _ _ _ hcb4]; rfl
      have HCB4 := Lib.hid hcb4
      have HFB4 := Lib.hid hfb
      have HOP4 := Lib.hid hop
      have HOQ4 := Lib.hid hoq
      have HBEL4 := Lib.hid hbel4
      have HS9 := Lib.hid (show (fun X : World => X.cell? ⟨w2.heap.size + 1, 1, none⟩ = some (.slice Af flk.length cf) ∧ X.cell? ⟨wr.heap.size, 0, none⟩ = some (.string f.name) ∧ X.cell? ⟨wr.heap.size, 1, none⟩ = some (.string f.frm) ∧ X.cell? ⟨wr.heap.size, 2, none⟩ = some (.string f.to) ∧ X.cell? ⟨wr.heap.size, 3, none⟩ = some (.int .i64 f.bound) ∧ X.cell? ⟨wr.heap.size, 4, none⟩ = some (.int .i64 f.readers) ∧ X.cell? ⟨wr.heap.size, 5, none⟩ = some (.int .i64 f.keepers) ∧ X.cell? ⟨wr.heap.size, 6, none⟩ = some (.slice pB f.pre.length pd) ∧ X.cell? ⟨wr.heap.size, 7, none⟩ = some (.int .i64 f.wk) ∧ X.cell? ⟨wr.heap.size, 8, none⟩ = some (.int .i64 f.ws) ∧ X.cell? ⟨wr.heap.size, 9, none⟩ = some (.int .i64 f.wl) ∧ X.cell? ⟨wr.heap.size, 10, none⟩ = some (.int .i64 f.agg) ∧ X.cell? ⟨wr.heap.size, 11, none⟩ = some (.slice qB f.post.length qd)) a4.drew from ⟨e14, by show a4.cell? _ = _; rw [cell_of_row _ _ _ _ _ _ hfb]; rfl, by show a4.cell? _ = _; rw [cell_of_row _ _ _ _ _ _ hfb]; rfl, by show a4.cell? _ = _; rw [cell_of_row _ _ _ _ _ _ hfb]; rfl, by show a4.cell? _ = _; rw [cell_of_row _ _ _ _ _ _ hfb]; rfl, by show a4.cell? _ = _; rw [cell_of_row _ _ _ _ _ _ hfb]; rfl, by show a4.cell? _ = _; rw [cell_of_row _ _ _ _ _ _ hfb]; rfl, by show a4.cell? _ = _; rw [cell_of_row _ _ _ _ _ _ hfb]; rfl, by show a4.cell? _ = _; rw [cell_of_row _ _ _ _ _ _ hfb]; rfl, by show a4.cell? _ = _; rw [cell_of_row _ _ _ _ _ _ hfb]; rfl, by show a4.cell? _ = _; rw [cell_of_row _ _ _ _ _ _ hfb]; rfl, by show a4.cell? _ = _; rw [cell_of_row _ _ _ _ _ _ hfb]; rfl, by show a4.cell? _ = _; rw [cell_of_row _ _ _ _ _ _ hfb]; rfl⟩)
      have hS0 := HS9.out
      clear ha4 hfb hop hoq hbel4 hcb4 x6 x11 y6 y11 HF4 HOP HOQ
      refine wp_region_forced 9 (by kernel_rfl) (by kernel_rfl) ?_
      simp only [List.take_succ_cons, List.take_zero, List.drop_succ_cons, List.drop_zero, List.size_toArray, List.length_cons, List.length_nil, Nat.zero_add, Nat.reduceAdd]
      refine wpAny_of_held (S := fun X : World => X.cell? ⟨w2.heap.size + 1, 1, none⟩ = some (.slice Af flk.length cf) ∧ X.cell? ⟨wr.heap.size, 0, none⟩ = some (.string f.name) ∧ X.cell? ⟨wr.heap.size, 1, none⟩ = some (.string f.frm) ∧ X.cell? ⟨wr.heap.size, 2, none⟩ = some (.string f.to) ∧ X.cell? ⟨wr.heap.size, 3, none⟩ = some (.int .i64 f.bound) ∧ X.cell? ⟨wr.heap.size, 4, none⟩ = some (.int .i64 f.readers) ∧ X.cell? ⟨wr.heap.size, 5, none⟩ = some (.int .i64 f.keepers) ∧ X.cell? ⟨wr.heap.size, 6, none⟩ = some (.slice pB f.pre.length pd) ∧ X.cell? ⟨wr.heap.size, 7, none⟩ = some (.int .i64 f.wk) ∧ X.cell? ⟨wr.heap.size, 8, none⟩ = some (.int .i64 f.ws) ∧ X.cell? ⟨wr.heap.size, 9, none⟩ = some (.int .i64 f.wl) ∧ X.cell? ⟨wr.heap.size, 10, none⟩ = some (.int .i64 f.agg) ∧ X.cell? ⟨wr.heap.size, 11, none⟩ = some (.slice qB f.post.length qd)) _ _ _ _ ?_
      refine wpAnyH_take (i := 0) (v := ?_) rfl (by kernel_rfl) (by kernel_rfl) (by kernel_rfl) (fun _ _ _ h => h) (Or.inl ⟨by rfl, ?_⟩) hS0 ?_
      rotate_left
      · intro w hSw; (try dsimp only at hSw); go_simp; (first | done | with_reducible rfl)
      simp only [Act.put, List.getElem_toArray, List.getElem_cons_zero, List.setIfInBounds_toArray, List.set_cons_zero, List.set_cons_succ]
      refine wpAnyH_take (i := 1) (v := ?_) rfl (by kernel_rfl) (by kernel_rfl) (by kernel_rfl) (fun _ _ _ h => h) (Or.inl ⟨by rfl, ?_⟩) hS0 ?_
      rotate_left
      · intro w hSw; (try dsimp only at hSw); go_simp; (first | done | with_reducible rfl)
      simp only [Act.put, List.getElem_toArray, List.getElem_cons_zero, List.getElem_cons_succ, List.setIfInBounds_toArray, List.set_cons_zero, List.set_cons_succ]
      refine wpAnyH_take (i := 2) (v := ?_) rfl (by kernel_rfl) (by kernel_rfl) (by kernel_rfl) (fun _ _ _ h => h) (Or.inl ⟨by rfl, ?_⟩) hS0 ?_
      rotate_left
      · intro w hSw; (try dsimp only at hSw); go_simp; (first | done | with_reducible rfl)
      simp only [Act.put, List.getElem_toArray, List.getElem_cons_zero, List.getElem_cons_succ, List.setIfInBounds_toArray, List.set_cons_zero, List.set_cons_succ]
      refine wpAnyH_take (i := 3) (v := ?_) rfl (by kernel_rfl) (by kernel_rfl) (by kernel_rfl) (fun _ _ _ h => h) (Or.inl ⟨by rfl, ?_⟩) hS0 ?_
      rotate_left
      · intro w hSw; (try dsimp only at hSw); go_simp; (first | done | with_reducible rfl)
      simp only [Act.put, List.getElem_toArray, List.getElem_cons_zero, List.getElem_cons_succ, List.setIfInBounds_toArray, List.set_cons_zero, List.set_cons_succ]
      refine wpAnyH_take (i := 4) (v := ?_) rfl (by kernel_rfl) (by kernel_rfl) (by kernel_rfl) (fun _ _ _ h => h) (Or.inl ⟨by rfl, ?_⟩) hS0 ?_
      rotate_left
      · intro w hSw; (try dsimp only at hSw); go_simp; (first | done | with_reducible rfl)
      simp only [Act.put, List.getElem_toArray, List.getElem_cons_zero, List.getElem_cons_succ, List.setIfInBounds_toArray, List.set_cons_zero, List.set_cons_succ]
      refine wpAnyH_take (i := 5) (v := ?_) rfl (by kernel_rfl) (by kernel_rfl) (by kernel_rfl) (fun _ _ _ h => h) (Or.inl ⟨by rfl, ?_⟩) hS0 ?_
      rotate_left
      · intro w hSw; (try dsimp only at hSw); go_simp; (first | done | with_reducible rfl)
      simp only [Act.put, List.getElem_toArray, List.getElem_cons_zero, List.getElem_cons_succ, List.setIfInBounds_toArray, List.set_cons_zero, List.set_cons_succ]
      refine wpAnyH_take (i := 6) (v := ?_) rfl (by kernel_rfl) (by kernel_rfl) (by kernel_rfl) (fun _ _ _ h => h) (Or.inl ⟨by rfl, ?_⟩) hS0 ?_
      rotate_left
      · intro w hSw; (try dsimp only at hSw); go_simp; (first | done | with_reducible rfl)
      simp only [Act.put, List.getElem_toArray, List.getElem_cons_zero, List.getElem_cons_succ, List.setIfInBounds_toArray, List.set_cons_zero, List.set_cons_succ]
      refine wpAnyH_ready (rs := [7]) (by kernel_rfl) (by simp) ?_
      refine AllReadyH.cons rfl (fun K hK => ?_) AllReadyH.nil
      go_simp
      refine hK.out _ _ ⟨kc (box_below _ _) hS0.1, kc (box_below _ _) hS0.2.1, kc (box_below _ _) hS0.2.2.1, kc (box_below _ _) hS0.2.2.2.1, kc (box_below _ _) hS0.2.2.2.2.1, kc (box_below _ _) hS0.2.2.2.2.2.1, kc (box_below _ _) hS0.2.2.2.2.2.2.1, kc (box_below _ _) hS0.2.2.2.2.2.2.2.1, kc (box_below _ _) hS0.2.2.2.2.2.2.2.2.1, kc (box_below _ _) hS0.2.2.2.2.2.2.2.2.2.1, kc (box_below _ _) hS0.2.2.2.2.2.2.2.2.2.2.1, kc (box_below _ _) hS0.2.2.2.2.2.2.2.2.2.2.2.1, kc (box_below _ _) hS0.2.2.2.2.2.2.2.2.2.2.2.2⟩ (fun hS5 => ?_)
      clear hK K
      try simp only [Act.put, List.setIfInBounds_toArray, List.set_cons_zero, List.set_cons_succ]
      refine wpAnyH_ready (rs := [8]) (by kernel_rfl) (by simp) ?_
      refine AllReadyH.cons rfl (fun K hK => ?_) AllReadyH.nil
      have hof5 := own_kept HN.out.flows (show Below wr.heap.size wr (a4.drew.alloc (.cells #[.string f.name, .string f.frm, .string f.to, .int .i64 f.bound, .int .i64 f.readers, .int .i64 f.keepers, .slice pB f.pre.length pd, .int .i64 f.wk, .int .i64 f.ws, .int .i64 f.wl, .int .i64 f.agg, .slice qB f.post.length qd] 71)) from HBEL4.out.drew.alloc (by have := HZ4.out; simp; omega) _)
      refine Own.step_app (o := ⟨some 47, _, _, _, _, _⟩) sliceOfFlw (by rfl) (.tmp 44) (.tmp 46) (by rfl) (base := w2.heap.size + 1 + 1) (by rfl) hof5 (by rfl) (Own.Src.new a4.drew #[.string f.name, .string f.frm, .string f.to, .int .i64 f.bound, .int .i64 f.readers, .int .i64 f.keepers, .slice pB f.pre.length pd, .int .i64 f.wk, .int .i64 f.ws, .int .i64 f.wl, .int .i64 f.agg, .slice qB f.post.length qd] 71 12 1 1 (by simp) (by simp [Value.oneCell'])) (by have := HFK.out; unfold maxLen; omega) (by have := HFK.out; omega) (by have := HZ4.out; simp; omega) ?_
      intro fv7 a6 ho6 hB6 hg6
      obtain ⟨Ag, cg, rfl, -, -, -, -⟩ := own_form ho6
      have hne1 : (Value.slice Af flk.length cf).ownBlock ≠ some wr.heap.size := fun e => absurd (HN.out.flows.lt _ e).2 (by omega)
      have hne2 : (Value.slice Af flk.length cf).ownBlock ≠ some (w2.heap.size + 1) := fun e => absurd (own_blk HN.out.flows _ e) (by omega)
      refine hK.out _ _ ⟨cell_grew hg6 hne2 hS5.1, cell_grew hg6 hne1 hS5.2.1, cell_grew hg6 hne1 hS5.2.2.1, cell_grew hg6 hne1 hS5.2.2.2.1, cell_grew hg6 hne1 hS5.2.2.2.2.1, cell_grew hg6 hne1 hS5.2.2.2.2.2.1, cell_grew hg6 hne1 hS5.2.2.2.2.2.2.1, cell_grew hg6 hne1 hS5.2.2.2.2.2.2.2.1, cell_grew hg6 hne1 hS5.2.2.2.2.2.2.2.2.1, cell_grew hg6 hne1 hS5.2.2.2.2.2.2.2.2.2.1, cell_grew hg6 hne1 hS5.2.2.2.2.2.2.2.2.2.2.1, cell_grew hg6 hne1 hS5.2.2.2.2.2.2.2.2.2.2.2.1, cell_grew hg6 hne1 hS5.2.2.2.2.2.2.2.2.2.2.2.2⟩ (fun hS6 => ?_)
      clear hK K
      try simp only [Act.put, List.setIfInBounds_toArray, List.set_cons_zero, List.set_cons_succ]
      refine wpAnyH_done (by kernel_rfl) ?_ _
      show wpList _ _ _ _ _ _
      have A5 : Below wr.heap.size wr (a4.drew.alloc (.cells #[.string f.name, .string f.frm, .string f.to, .int .i64 f.bound, .int .i64 f.readers, .int .i64 f.keepers, .slice pB f.pre.length pd, .int .i64 f.wk, .int .i64 f.ws, .int .i64 f.wl, .int .i64 f.agg, .slice qB f.post.length qd] 71)) := HBEL4.out.drew.alloc (by have := HZ4.out; simp; omega) _
      have L5 : Below a4.heap.size a4 (a4.drew.alloc (.cells #[.string f.name, .string f.frm, .string f.to, .int .i64 f.bound, .int .i64 f.readers, .int .i64 f.keepers, .slice pB f.pre.length pd, .int .i64 f.wk, .int .i64 f.ws, .int .i64 f.wl, .int .i64 f.agg, .slice qB f.post.length qd] 71)) := (Below.refl _ _).drew.alloc (by simp) _
      have hcb6 : a6.heap[w2.heap.size + 1]? = some (.cells #[.slice A3 tops.length c3, .slice Af flk.length cf, .map (some w2.heap.size), .slice Aj xs.length cj] 115) := (hg6.block _ (by have := HZ4.out; simp; omega) (fun e => hne2 e.symm)).trans ((L5.block _ (by have := HZ4.out; omega)).trans HCB4.out)
      have z61 : a6.cell? ⟨w2.heap.size + 1, 1, none⟩ = some (.slice Af flk.length cf) := by rw [cell_of_row _ _ _ _ _ _ hcb6]; rfl
      have z61f : a6.frozen? ⟨w2.heap.size + 1, 1, none⟩ = false := by simp [World.frozen?, hcb6]
      have HCB7 := Lib.hid (set_cell_heap (i := 1) (.slice Ag (flk.length + 1) cg) hcb6)
      have HF7 := Lib.hid (own_put (b := w2.heap.size + 1) (i := 1) ho6 (.slice Ag (flk.length + 1) cg) (by omega))
      have HP7 := Lib.hid (own_put (b := w2.heap.size + 1) (i := 1) (own_other (own_kept HOP4.out L5) hof5 (by decide) hg6) (.slice Ag (flk.length + 1) cg) (by have := HZ1.out; simp; omega))
      have HQ7 := Lib.hid (own_put (b := w2.heap.size + 1) (i := 1) (own_other (own_kept HOQ4.out L5) hof5 (by decide) hg6) (.slice Ag (flk.length + 1) cg) (by have := HZB.out; omega))
      have HJ7 := Lib.hid (own_put (b := w2.heap.size + 1) (i := 1) (own_other (own_kept HN.out.ptrs A5) hof5 (by decide) hg6) (.slice Ag (flk.length + 1) cg) (by omega))
      have HK7 := Lib.hid (((Kp.of_below (U := NewS (w2.heap.size + 1) (.slice Af flk.length cf) (.slice Aj xs.length cj)) A5).then (Kp.of_grown hg6 (fun b e => .inr (.inl e.symm)))).then (Kp.set a6 (b := w2.heap.size + 1) (i := 1) (.slice Ag (flk.length + 1) cg) (.inl rfl)))
      have w4 : a6.cell? ⟨wr.heap.size, 4, none⟩ = some (.int .i64 f.readers) := hS6.2.2.2.2.2.1
      have w5 : a6.cell? ⟨wr.heap.size, 5, none⟩ = some (.int .i64 f.keepers) := hS6.2.2.2.2.2.2.1
      have HZ6 := Lib.hid (show wr.heap.size < a6.heap.size from lt_of_cell w4)
      have hlt6 : w2.heap.size + 1 < a6.heap.size := lt_of_cell z61
      clear hS0 hS5 hS6 hof5 ho6 hB6 hg6 A5 L5 hcb6 e14
      go_wp2_with fail
      obtain ⟨a7, ha7⟩ : ∃ a7, a6.setCell ⟨w2.heap.size + 1, 1, none⟩ (.slice Ag (flk.length + 1) cg) = a7 := ⟨_, rfl⟩
      have hcb7 := HCB7.out
      have hf7 := HF7.out
      have hp7 := HP7.out
      have hq7 := HQ7.out
      have hj7 := HJ7.out
      have hk7 := HK7.out
      have v4 : a7.cell? ⟨wr.heap.size, 4, none⟩ = some (.int .i64 f.readers) := by rw [← ha7]; exact (World.cell?_setCell_other _ _ _ _ (by simp)).trans w4
      have v5 : a7.cell? ⟨wr.heap.size, 5, none⟩ = some (.int .i64 f.keepers) := by rw [← ha7]; exact (World.cell?_setCell_other _ _ _ _ (by simp)).trans w5
      rw [ha7] at hcb7 hf7 hp7 hq7 hj7 hk7 ⊢
      simp only [List.setIfInBounds_toArray, List.set_cons_zero, List.set_cons_succ] at hcb7
      have v3 : a7.cell? ⟨w2.heap.size + 1, 3, none⟩ = some (.slice Aj xs.length cj) := by rw [cell_of_row _ _ _ _ _ _ hcb7]; rfl
      have HCB := Lib.hid hcb7
      have HF := Lib.hid hf7
      have HP := Lib.hid hp7
      have HQ := Lib.hid hq7
      have HJ := Lib.hid hj7
      have HKK := Lib.hid hk7
      have HZ7 := Lib.hid (show wr.heap.size < a7.heap.size from lt_of_cell v4)
      have hS0 : (fun X : World => X.cell? ⟨w2.heap.size + 1, 3, none⟩ = some (.slice Aj xs.length cj) ∧ X.cell? ⟨wr.heap.size, 4, none⟩ = some (.int .i64 f.readers) ∧ X.cell? ⟨wr.heap.size, 5, none⟩ = some (.int .i64 f.keepers)) a7.drew := ⟨v3, v4, v5⟩
      clear ha7 hcb7 hf7 hp7 hq7 hj7 hk7 HCB7 HF7 HP7 HQ7 HJ7 HK7 w4 w5 z61 z61f hlt6 v3 v4 v5
      refine wp_region_forced 13 (by kernel_rfl) (by kernel_rfl) ?_
      simp only [List.take_succ_cons, List.take_zero, List.drop_succ_cons, List.drop_zero, List.size_toArray, List.length_cons, List.length_nil, Nat.zero_add, Nat.reduceAdd]
      refine wpAny_of_held (S := fun X : World => X.cell? ⟨w2.heap.size + 1, 3, none⟩ = some (.slice Aj xs.length cj) ∧ X.cell? ⟨wr.heap.size, 4, none⟩ = some (.int .i64 f.readers) ∧ X.cell? ⟨wr.heap.size, 5, none⟩ = some (.int .i64 f.keepers)) _ _ _ _ ?_
      refine wpAnyH_take (i := 0) (v := ?_) rfl (by kernel_rfl) (by kernel_rfl) (by kernel_rfl) (fun _ _ _ h => h) (Or.inl ⟨by rfl, ?_⟩) hS0 ?_
      rotate_left
      · intro w hSw; (try dsimp only at hSw); go_simp; (first | done | with_reducible rfl)
      simp only [Act.put, List.getElem_toArray, List.getElem_cons_zero, List.setIfInBounds_toArray, List.set_cons_zero, List.set_cons_succ]
      refine wpAnyH_take (i := 1) (v := ?_) rfl (by kernel_rfl) (by kernel_rfl) (by kernel_rfl) (fun _ _ _ h => h) (Or.inl ⟨by rfl, ?_⟩) hS0 ?_
      rotate_left
      · intro w hSw; (try dsimp only at hSw); go_simp; (first | done | with_reducible rfl)
      simp only [Act.put, List.getElem_toArray, List.getElem_cons_zero, List.getElem_cons_succ, List.setIfInBounds_toArray, List.set_cons_zero, List.set_cons_succ]
      refine wpAnyH_take (i := 2) (v := ?_) rfl (by kernel_rfl) (by kernel_rfl) (by kernel_rfl) (fun _ _ _ h => h) (Or.inl ⟨by rfl, ?_⟩) hS0 ?_
      rotate_left
      · intro w hSw; (try dsimp only at hSw); go_simp; (first | done | with_reducible rfl)
      simp only [Act.put, List.getElem_toArray, List.getElem_cons_zero, List.getElem_cons_succ, List.setIfInBounds_toArray, List.set_cons_zero, List.set_cons_succ]
      refine wpAnyH_take (i := 3) (v := ?_) rfl (by kernel_rfl) (by kernel_rfl) (by kernel_rfl) (fun _ _ _ h => h) (Or.inl ⟨by rfl, ?_⟩) hS0 ?_
      rotate_left
      · intro w hSw; (try dsimp only at hSw); go_simp; (first | done | with_reducible rfl)
      simp only [Act.put, List.getElem_toArray, List.getElem_cons_zero, List.getElem_cons_succ, List.setIfInBounds_toArray, List.set_cons_zero, List.set_cons_succ]
      refine wpAnyH_take (i := 4) (v := ?_) rfl (by kernel_rfl) (by kernel_rfl) (by kernel_rfl) (fun _ _ _ h => h) (Or.inl ⟨by rfl, ?_⟩) hS0 ?_
      rotate_left
      · intro w hSw; (try dsimp only at hSw); go_simp; (first | done | with_reducible rfl)
      simp only [Act.put, List.getElem_toArray, List.getElem_cons_zero, List.getElem_cons_succ, List.setIfInBounds_toArray, List.set_cons_zero, List.set_cons_succ]
      refine wpAnyH_take (i := 5) (v := ?_) rfl (by kernel_rfl) (by kernel_rfl) (by kernel_rfl) (fun _ _ _ h => h) (Or.inl ⟨by rfl, ?_⟩) hS0 ?_
      rotate_left
      · intro w hSw; (try dsimp only at hSw); go_simp; (first | done | with_reducible rfl)
      simp only [Act.put, List.getElem_toArray, List.getElem_cons_zero, List.getElem_cons_succ, List.setIfInBounds_toArray, List.set_cons_zero, List.set_cons_succ]
      refine wpAnyH_take (i := 6) (v := ?_) rfl (by kernel_rfl) (by kernel_rfl) (by kernel_rfl) (fun _ _ _ h => h) (Or.inl ⟨by rfl, ?_⟩) hS0 ?_
      rotate_left
      · intro w hSw; (try dsimp only at hSw); go_simp; (first | done | with_reducible rfl)
      simp only [Act.put, List.getElem_toArray, List.getElem_cons_zero, List.getElem_cons_succ, List.setIfInBounds_toArray, List.set_cons_zero, List.set_cons_succ]
      refine wpAnyH_take (i := 7) (v := ?_) rfl (by kernel_rfl) (by kernel_rfl) (by kernel_rfl) (fun _ _ _ h => h) (Or.inl ⟨by rfl, ?_⟩) hS0 ?_
      rotate_left
      · intro w hSw; (try dsimp only at hSw); go_simp; (first | done | with_reducible rfl)
      simp only [Act.put, List.getElem_toArray, List.getElem_cons_zero, List.getElem_cons_succ, List.setIfInBounds_toArray, List.set_cons_zero, List.set_cons_succ]
      refine wpAnyH_take (i := 8) (v := ?_) rfl (by kernel_rfl) (by kernel_rfl) (by kernel_rfl) (fun _ _ _ h => h) (Or.inl ⟨by rfl, ?_⟩) hS0 ?_
      rotate_left
      · intro w hSw; (try dsimp only at hSw); go_simp; (first | done | with_reducible rfl)
      simp only [Act.put, List.getElem_toArray, List.getElem_cons_zero, List.getElem_cons_succ, List.setIfInBounds_toArray, List.set_cons_zero, List.set_cons_succ]
      refine wpAnyH_ready (rs := [9]) (by kernel_rfl) (by simp) ?_
      refine AllReadyH.cons rfl (fun K hK => ?_) AllReadyH.nil
      go_simp
      refine hK.out _ _ hS0 (fun hS1 => ?_)
      clear hK K
      try simp only [Act.put, List.setIfInBounds_toArray, List.set_cons_zero, List.set_cons_succ]
      refine wpAnyH_ready (rs := [10]) (by kernel_rfl) (by simp) ?_
      refine AllReadyH.cons rfl (fun K hK => ?_) AllReadyH.nil
      go_simp
      refine hK.out _ _ ⟨kc (box_below _ _) hS1.1, kc (box_below _ _) hS1.2.1, kc (box_below _ _) hS1.2.2⟩ (fun hS2 => ?_)
      clear hK K
      try simp only [Act.put, List.setIfInBounds_toArray, List.set_cons_zero, List.set_cons_succ]
      refine wpAnyH_ready (rs := [11]) (by kernel_rfl) (by simp) ?_
      refine AllReadyH.cons rfl (fun K hK => ?_) AllReadyH.nil
      go_simp
      refine hK.out _ _ ⟨kc (box_below _ _) hS2.1, kc (box_below _ _) hS2.2.1, kc (box_below _ _) hS2.2.2⟩ (fun hS3 => ?_)
      clear hK K
      try simp only [Act.put, List.setIfInBounds_toArray, List.set_cons_zero, List.set_cons_succ]
      refine wpAnyH_ready (rs := [12]) (by kernel_rfl) (by simp) ?_
      refine AllReadyH.cons rfl (fun K hK => ?_) AllReadyH.nil
      have L9 : Below a7.heap.size a7 ((a7.drew.alloc (.cells #[.int .i64 0, .int .i64 f.readers, .int .i64 f.keepers, .int .i64 0, .int .i64 0, .int .i64 1, .slice none 0 0, .map none] 122)).alloc (.cells #[.pointer (some ⟨a7.heap.size, 0, none⟩)] 119)) := ((Below.refl _ _).drew.alloc (by simp) _).alloc (by simp) _
      have hoj9 := own_kept HJ.out L9
      refine Own.step_app (o := ⟨some 63, _, _, _, _, _⟩) sliceOfPtr (by rfl) (.tmp 55) (.tmp 62) (by rfl) (base := w2.heap.size + 1 + 1) (by rfl) hoj9 (by rfl) (Own.Src.at (T := 119) (heap_at (by simp)) 1 1 1 (by simp) (by simp [Value.oneCell'])) (by have := HXK.out; unfold maxLen; omega) (by have := HXK.out; omega) (by have := HZ7.out; simp; omega) ?_
      intro jv9 a10 ho10 hB10 hg10
      obtain ⟨Ah, ch, rfl, -, -, -, -⟩ := own_form ho10
      have hne3 : (Value.slice Aj xs.length cj).ownBlock ≠ some wr.heap.size := fun e => absurd (HN.out.ptrs.lt _ e).2 (by omega)
      have hne4 : (Value.slice Aj xs.length cj).ownBlock ≠ some (w2.heap.size + 1) := fun e => absurd (own_blk HN.out.ptrs _ e) (by omega)
      refine hK.out _ _ ⟨cell_grew hg10 hne4 hS3.1, cell_grew hg10 hne3 hS3.2.1, cell_grew hg10 hne3 hS3.2.2⟩ (fun hS4 => ?_)
      clear hK K
      try simp only [Act.put, List.setIfInBounds_toArray, List.set_cons_zero, List.set_cons_succ]
      refine wpAnyH_done (by kernel_rfl) ?_ _
      show wpList _ _ _ _ _ _
      have hlt7 : w2.heap.size + 1 < a7.heap.size := by have := HZ7.out; omega
      have hcb10 : a10.heap[w2.heap.size + 1]? = some (.cells #[.slice A3 tops.length c3, .slice Ag (flk.length + 1) cg, .map (some w2.heap.size), .slice Aj xs.length cj] 115) := (hg10.block _ (by simp; omega) (fun e => hne4 e.symm)).trans ((L9.block _ hlt7).trans HCB.out)
      have z10 : a10.cell? ⟨w2.heap.size + 1, 3, none⟩ = some (.slice Aj xs.length cj) := by rw [cell_of_row _ _ _ _ _ _ hcb10]; rfl
      have z10f : a10.frozen? ⟨w2.heap.size + 1, 3, none⟩ = false := by simp [World.frozen?, hcb10]
      have hbox9 : a10.heap[a7.heap.size]? = some (.cells #[.int .i64 0, .int .i64 f.readers, .int .i64 f.keepers, .int .i64 0, .int .i64 0, .int .i64 1, .slice none 0 0, .map none] 122) := box_grew hg10 hoj9 (heap_up (heap_new _ _)) (fun cur e => by cases e)
      have HCB11 := Lib.hid (set_cell_heap (i := 3) (.slice Ah (xs.length + 1) ch) hcb10)
      have HF11 := Lib.hid (own_put (b := w2.heap.size + 1) (i := 3) (own_other (own_kept HF.out L9) hoj9 (by decide) hg10) (.slice Ah (xs.length + 1) ch) (by omega))
      have HP11 := Lib.hid (own_put (b := w2.heap.size + 1) (i := 3) (own_other (own_kept HP.out L9) hoj9 (by decide) hg10) (.slice Ah (xs.length + 1) ch) (by have := HZ1.out; simp; omega))
      have HQ11 := Lib.hid (own_put (b := w2.heap.size + 1) (i := 3) (own_other (own_kept HQ.out L9) hoj9 (by decide) hg10) (.slice Ah (xs.length + 1) ch) (by have := HZB.out; omega))
      have HJ11 := Lib.hid (own_put (b := w2.heap.size + 1) (i := 3) ho10 (.slice Ah (xs.length + 1) ch) (by omega))
      have HX11 := Lib.hid (show (a10.setCell ⟨w2.heap.size + 1, 3, none⟩ (.slice Ah (xs.length + 1) ch)).heap[a7.heap.size]? = some (.cells #[.int .i64 0, .int .i64 f.readers, .int .i64 f.keepers, .int .i64 0, .int .i64 0, .int .i64 1, .slice none 0 0, .map none] 122) from (Below.heap_setCell _ _ _ _ (by simp; omega)).trans hbox9)
      have HK11 := Lib.hid (((HKK.out.then (Kp.of_below L9)).then (Kp.of_grown hg10 (fun b e => .inr (.inr e.symm)))).then (Kp.set a10 (b := w2.heap.size + 1) (i := 3) (.slice Ah (xs.length + 1) ch) (.inl rfl)))
      have hlt10 : w2.heap.size + 1 < a10.heap.size := lt_of_cell z10
      have l1 : k + 1 ≤ fl.length := hkl
      clear hS0 hS1 hS2 hS3 hS4 L9 hoj9 ho10 hB10 hg10 hcb10 hbox9 hlt7
      go_wp2_with fail
      refine ⟨⟨k + 1, _, _, _, _, l1, by simp, Lib.hid (NewAt.step HN.out HK11.out HX.out (by have h := HCB11.out; simp only [List.setIfInBounds_toArray, List.set_cons_zero, List.set_cons_succ] at h; exact h) HF11.out HJ11.out (own_base HP11.out (by have := HZ1.out; simp; omega)) (own_base HQ11.out (by have := HZB.out; omega)) (by have := HZ7.out; omega) HX11.out)⟩, ?_⟩
      simp only [RowKit.intOf]
      omega
    · obtain rfl : k = fl.length := by omega
      go_wp2_with fail
      go_ret2
      exact .inr ⟨HE.out, _, rfl, ⟨_, _, _, _, _, _, HN.out.end HT.out hg HS.out⟩, HN.out.bel⟩
end Go.Proofs.YtkjajlolfcioiaaGreatDoor.Control
