/- control.scale, walked. -/
import Derived.Test.YtkjajlolfcioiaaGreatDoorYCtlBg
import Derived.Test.YtkjajlolfcioiaaGreatDoorYCheckF
namespace Go.Proofs.YtkjajlolfcioiaaGreatDoor.Control
open Go Go.RowKit Go.MapKept Go.Proofs Go.Proofs.YtkjajlolfcioiaaGreatDoor Go.Proofs.YtkjajlolfcioiaaGreatDoor.Expr Go.Proofs.YtkjajlolfcioiaaGreatDoor.Own Go.Proofs.YtkjajlolfcioiaaGreatDoor.Tail Go.Proofs.YtkjajlolfcioiaaGreatDoor.Mp Go.Proofs.YtkjajlolfcioiaaGreatDoor.Ints Go.Proofs.YtkjajlolfcioiaaGreatDoor.Plan Go.Proofs.YtkjajlolfcioiaaGreatDoor.Check Go.Proofs.YtkjajlolfcioiaaGreatDoor.Graph Go.Proofs.YtkjajlolfcioiaaGreatDoor.Ctl
def cmdCells (x : Cmd) (v : Value) : Array Value := #[.int .i64 x.kind, .int .i64 x.flow, .int .i64 x.att, .int .i64 x.num, .int .i64 x.wk, .int .i64 x.rd, .int .i64 x.kp, v]
theorem frozen_new {X : World} {cs : Array Value} {T : TypeId} {g j : Nat} (hg : g = X.heap.size) : (X.alloc (.cells cs T)).frozen? ⟨g, j, none⟩ = false := by
  unfold World.frozen?
  rw [hg, heap_new X (.cells cs T)]
  simp
/-- the flow at i with other readers and keepers. -/
def reFlw (x : FlwV) (rd kp : Int) : FlwV := { x with f := { x.f with readers := rd, keepers := kp } }
section
variable {w X : World} {cb : Nat} {c : Ct} {U : Nat → Prop} {tv fv : Value} {lm : Nat} {jv : Value} {fl : List FlwV} {xs : List JV} {i : Nat} {x : JV}
theorem scaled_at {fl : List FlwV} {y : FlwV} (hy : fl[i]? = some y) (rd kp : Int) : (fl.set i (reFlw y rd kp)).map (·.f) = scaled (fl.map (·.f)) i rd kp := by
  refine List.ext_getElem? fun k => ?_
  unfold scaled
  rw [List.getElem?_map, List.getElem?_set, List.getElem?_modify, List.getElem?_map]
  by_cases e : i = k
  · subst e
    rw [hy, if_pos rfl, if_pos (List.getElem?_eq_some_iff.1 hy).1]
    simp [reFlw]
  · rw [if_neg e]
    simp [e]
set_option maxHeartbeats 4000000 in
set_option maxRecDepth 100000 in
theorem scale_calls (h : CtlIs w cb c U tv fv lm jv fl xs) (hc : ∀ k, k < 1 ∨ 6 < k → c.lives k = 0) {n : Int} (hx : xs[i]? = some x) (hj : JobOk n x.j) (hn : n ≤ 1000) (hlen : c.jobs.length = c.flows.length) (h8 : c.flows.length ≤ 8) (cmd : Cmd) (v : Value) (hfl : cmd.flow = (i : Int)) :
    Calls Tryz.prog 80 #[.pointer (some ⟨cb, 0, none⟩), .pointer (some ⟨x.b, 0, none⟩), .agg (cmdCells cmd v)] w (JobPost w cb c U tv fv lm jv fl i (scaleJ c.tops c.flows (liveL c.lives) cmd x.j)) := by
  have hxm := List.mem_of_getElem? hx
  have hfll : fl.length = c.flows.length := by rw [← h.flows]; simp
  have hxl : xs.length = c.jobs.length := by rw [← h.jobs]; simp
  have hil : i < fl.length := by
    have := (List.getElem?_eq_some_iff.1 hx).1
    omega
  obtain ⟨y, hy⟩ : ∃ y, fl[i]? = some y := ⟨_, List.getElem?_eq_getElem hil⟩
  have hst := h.now
  have k0 : w.cell? ⟨cb, 0, none⟩ = some tv := by rw [cell_of_row _ _ _ _ _ _ hst.ctl]; simp
  have k1 : w.cell? ⟨cb, 1, none⟩ = some fv := by rw [cell_of_row _ _ _ _ _ _ hst.ctl]; simp
  have HC := Lib.hid fun W (k : Below w.heap.size w W) => cloneF_calls fv fl W (hst.plan.flows.below k) (by omega) (plan_one hst.plan) (by omega)
  obtain ⟨A, cp, rfl, -, -⟩ := hst.plan.flows
  obtain ⟨At, ct, rfl, -, -⟩ := hst.plan.tops
  obtain ⟨kind, flow, catt, cnum, wk, rd, kp, parts⟩ := cmd
  simp only at hfl
  subst hfl
  have H := Lib.hid h
  have HST := Lib.hid hst
  have HY := Lib.hid hy
  have HX := Lib.hid hx
  have HJ := Lib.hid hj
  have hx8 : fl.length ≤ 8 := by omega
  clear h hst hy hx hj hxl hfll hlen h8
  unfold cmdCells
  have a0 : (w.alloc (.cells #[.int .i64 kind, .int .i64 (i : Int), .int .i64 catt, .int .i64 cnum, .int .i64 wk, .int .i64 rd, .int .i64 kp, v] 60)).cell? ⟨cb, 0, none⟩ = some (.slice At c.tops.length ct) := kc (box_below _ _) k0
  have a1 : (w.alloc (.cells #[.int .i64 kind, .int .i64 (i : Int), .int .i64 catt, .int .i64 cnum, .int .i64 wk, .int .i64 rd, .int .i64 kp, v] 60)).cell? ⟨cb, 1, none⟩ = some (.slice A fl.length cp) := kc (box_below _ _) k1
  clear k0 k1
  go_enter Tryz.func80, Tryz.ntmps80
  go_wp2_with fail
  refine (HC.out _ (balloc (box_below _ _) _)).mono ?_
  rintro e w3 ⟨v3, rfl, ho3, hB3⟩
  obtain ⟨A3, c3, rfl, -, -, hn3, -⟩ := own_form ho3
  have HO3 := Lib.hid (own_base (base' := w.heap.size + 1 + 1) ho3 (by simp))
  have HB3 := Lib.hid hB3
  have p70 : w3.cell? ⟨w.heap.size + 1, 0, none⟩ = some (.slice At c.tops.length ct) := kc hB3 (cell_new (by simp) rfl)
  have p71 : w3.cell? ⟨w.heap.size + 1, 1, none⟩ = some (.slice A fl.length cp) := kc hB3 (cell_new (by simp) rfl)
  have q71 : w3.frozen? ⟨w.heap.size + 1, 1, none⟩ = false := kf hB3 (v := .slice A fl.length cp) (cell_new (by simp) rfl) (frozen_new (by simp))
  obtain ⟨g, hg3⟩ : ∃ g, A3 = some ⟨g, 0, none⟩ := by
    rcases ho3.2 with ⟨e, hz⟩ | ⟨g, cap', cur, e, _⟩
    · omega
    · exact ⟨g, by simp only [Value.slice.injEq] at e; exact e.1⟩
  subst hg3
  have hgl := (own_cell ho3 (j := i * 12 + 4) (by rw [flat_get flwvCells 12 (fun _ => rfl) fl i 4 y HY.out (by decide)]; rfl)).1
  have hgb : w.heap.size + 1 < g := by
    have := own_blk ho3 g rfl
    simp at this
    omega
  have r1 := kc hB3 (cell_new (X := w) (g := w.heap.size) (cs := #[.int .i64 kind, .int .i64 (i : Int), .int .i64 catt, .int .i64 cnum, .int .i64 wk, .int .i64 rd, .int .i64 kp, v]) (T := 60) (j := 1) rfl rfl |> kc (box_below _ (.cells #[.slice At c.tops.length ct, .slice A fl.length cp] 25)))
  have r5 := kc hB3 (cell_new (X := w) (g := w.heap.size) (cs := #[.int .i64 kind, .int .i64 (i : Int), .int .i64 catt, .int .i64 cnum, .int .i64 wk, .int .i64 rd, .int .i64 kp, v]) (T := 60) (j := 5) rfl rfl |> kc (box_below _ (.cells #[.slice At c.tops.length ct, .slice A fl.length cp] 25)))
  have r6 := kc hB3 (cell_new (X := w) (g := w.heap.size) (cs := #[.int .i64 kind, .int .i64 (i : Int), .int .i64 catt, .int .i64 cnum, .int .i64 wk, .int .i64 rd, .int .i64 kp, v]) (T := 60) (j := 6) rfl rfl |> kc (box_below _ (.cells #[.slice At c.tops.length ct, .slice A fl.length cp] 25)))
  clear ho3 hB3
  go_wp2
  obtain ⟨W4, hW4⟩ : ∃ W4, w3.setCell ⟨w.heap.size + 1, 1, none⟩ (.slice (some ⟨g, 0, none⟩) fl.length c3) = W4 := ⟨_, rfl⟩
  have HO4 := own_put (b := w.heap.size + 1) (i := 1) HO3.out (.slice (some ⟨g, 0, none⟩) fl.length c3) (by omega)
  rw [hW4] at HO4 ⊢
  have s71 : W4.cell? ⟨w.heap.size + 1, 1, none⟩ = some (.slice (some ⟨g, 0, none⟩) fl.length c3) := by rw [← hW4]; exact World.cell?_setCell_same _ _ _ p71
  have s70 : W4.cell? ⟨w.heap.size + 1, 0, none⟩ = some (.slice At c.tops.length ct) := by rw [← hW4]; exact (World.cell?_setCell_other _ _ _ _ (by simp)).trans p70
  have s1 : W4.cell? ⟨w.heap.size, 1, none⟩ = some (.int .i64 (i : Int)) := by rw [← hW4]; exact (World.cell?_setCell_other _ _ _ _ (by simp)).trans r1
  have s5 : W4.cell? ⟨w.heap.size, 5, none⟩ = some (.int .i64 rd) := by rw [← hW4]; exact (World.cell?_setCell_other _ _ _ _ (by simp)).trans r5
  have s6 : W4.cell? ⟨w.heap.size, 6, none⟩ = some (.int .i64 kp) := by rw [← hW4]; exact (World.cell?_setCell_other _ _ _ _ (by simp)).trans r6
  obtain ⟨g4, g4f⟩ := own_cell HO4 (j := i * 12 + 4) (u := .int .i64 y.f.readers) (by rw [flat_get flwvCells 12 (fun _ => rfl) fl i 4 y HY.out (by decide)]; rfl)
  have HW4 := Lib.hid hW4
  clear p70 p71 q71 r1 r5 r6 hW4 hgl
  have HO := Lib.hid HO4
  clear HO4
  refine wp_region_forced 15 (by kernel_rfl) (by kernel_rfl) ?_
  simp only [List.take_succ_cons, List.take_zero, List.drop_succ_cons, List.drop_zero, List.size_toArray, List.length_cons, List.length_nil, Nat.zero_add, Nat.reduceAdd]
  refine wpAny_of_held (S := fun X : World => X.cell? ⟨w.heap.size + 1, 1, none⟩ = some (.slice (some ⟨g, 0, none⟩) fl.length c3) ∧ X.cell? ⟨w.heap.size, 1, none⟩ = some (.int .i64 (i : Int)) ∧ X.cell? ⟨w.heap.size, 5, none⟩ = some (.int .i64 rd) ∧ X.cell? ⟨w.heap.size, 6, none⟩ = some (.int .i64 kp)) _ _ _ _ ?_
  have hS0 : (fun X : World => X.cell? ⟨w.heap.size + 1, 1, none⟩ = some (.slice (some ⟨g, 0, none⟩) fl.length c3) ∧ X.cell? ⟨w.heap.size, 1, none⟩ = some (.int .i64 (i : Int)) ∧ X.cell? ⟨w.heap.size, 5, none⟩ = some (.int .i64 rd) ∧ X.cell? ⟨w.heap.size, 6, none⟩ = some (.int .i64 kp)) W4.drew := ⟨s71, s1, s5, s6⟩
  have hili : (i : Int) < fl.length := by omega
  refine wpAnyH_take (i := 0) (v := ?_) rfl (by kernel_rfl) (by kernel_rfl) (by kernel_rfl) (fun _ _ _ h => h) (Or.inl ⟨by rfl, ?_⟩) hS0 ?_
  rotate_left
  · intro w hSw; (try dsimp only at hSw); go_simp; (first | done | with_reducible rfl)
  simp only [Act.put, List.setIfInBounds_toArray]
  refine wpAnyH_take (i := 1) (v := ?_) rfl (by kernel_rfl) (by kernel_rfl) (by kernel_rfl) (fun _ _ _ h => h) (Or.inl ⟨by rfl, ?_⟩) hS0 ?_
  rotate_left
  · intro w hSw; (try dsimp only at hSw); go_simp; (first | done | with_reducible rfl)
  simp only [Act.put]
  refine wpAnyH_take (i := 2) (v := ?_) rfl (by kernel_rfl) (by kernel_rfl) (by kernel_rfl) (fun _ _ _ h => h) (Or.inl ⟨by rfl, ?_⟩) hS0 ?_
  rotate_left
  · intro w hSw; (try dsimp only at hSw); go_simp; (first | done | with_reducible rfl)
  simp only [Act.put]
  refine wpAnyH_take (i := 3) (v := ?_) rfl (by kernel_rfl) (by kernel_rfl) (by kernel_rfl) (fun _ _ _ h => h) (Or.inl ⟨by rfl, ?_⟩) hS0 ?_
  rotate_left
  · intro w hSw; (try dsimp only at hSw); go_simp; (first | done | with_reducible rfl)
  simp only [Act.put]
  refine wpAnyH_take (i := 4) (v := ?_) rfl (by kernel_rfl) (by kernel_rfl) (by kernel_rfl) (fun _ _ _ h => h) (Or.inl ⟨by rfl, ?_⟩) hS0 ?_
  rotate_left
  · intro w hSw; (try dsimp only at hSw); go_simp; (first | done | with_reducible rfl)
  simp only [Act.put]
  refine wpAnyH_take (i := 5) (v := ?_) rfl (by kernel_rfl) (by kernel_rfl) (by kernel_rfl) (fun _ _ _ h => h) (Or.inl ⟨by rfl, ?_⟩) hS0 ?_
  rotate_left
  · intro w hSw; (try dsimp only at hSw); go_simp; (first | done | with_reducible rfl)
  simp only [Act.put]
  refine wpAnyH_take (i := 6) (v := ?_) rfl (by kernel_rfl) (by kernel_rfl) (by kernel_rfl) (fun _ _ _ h => h) (Or.inl ⟨by rfl, ?_⟩) hS0 ?_
  rotate_left
  · intro w hSw; (try dsimp only at hSw); go_simp; (first | done | with_reducible rfl)
  simp only [Act.put]
  refine wpAnyH_take (i := 7) (v := ?_) rfl (by kernel_rfl) (by kernel_rfl) (by kernel_rfl) (fun _ _ _ h => h) (Or.inl ⟨by rfl, ?_⟩) hS0 ?_
  rotate_left
  · intro w hSw; (try dsimp only at hSw); go_simp; (first | done | with_reducible rfl)
  simp only [Act.put]
  refine wpAnyH_take (i := 8) (v := ?_) rfl (by kernel_rfl) (by kernel_rfl) (by kernel_rfl) (fun _ _ _ h => h) (Or.inl ⟨by rfl, ?_⟩) hS0 ?_
  rotate_left
  · intro w hSw; (try dsimp only at hSw); go_simp; (first | done | with_reducible rfl)
  simp only [Act.put]
  refine wpAnyH_take (i := 9) (v := ?_) rfl (by kernel_rfl) (by kernel_rfl) (by kernel_rfl) (fun _ _ _ h => h) (Or.inl ⟨by rfl, ?_⟩) hS0 ?_
  rotate_left
  · intro w hSw; (try dsimp only at hSw); go_simp; (first | done | with_reducible rfl)
  simp only [Act.put]
  refine wpAnyH_take (i := 10) (v := ?_) rfl (by kernel_rfl) (by kernel_rfl) (by kernel_rfl) (fun _ _ _ h => h) (Or.inl ⟨by rfl, ?_⟩) hS0 ?_
  rotate_left
  · intro w hSw; (try dsimp only at hSw); go_simp; (first | done | with_reducible rfl)
  simp only [Act.put]
  refine wpAnyH_take (i := 11) (v := ?_) rfl (by kernel_rfl) (by kernel_rfl) (by kernel_rfl) (fun _ _ _ h => h) (Or.inl ⟨by rfl, ?_⟩) hS0 ?_
  rotate_left
  · intro w hSw; (try dsimp only at hSw); go_simp; (first | done | with_reducible rfl)
  simp only [Act.put]
  refine wpAnyH_take (i := 12) (v := ?_) rfl (by kernel_rfl) (by kernel_rfl) (by kernel_rfl) (fun _ _ _ h => h) (Or.inl ⟨by rfl, ?_⟩) hS0 ?_
  rotate_left
  · intro w hSw; (try dsimp only at hSw); go_simp; (first | done | with_reducible rfl)
  simp only [Act.put]
  refine wpAnyH_take (i := 13) (v := ?_) rfl (by kernel_rfl) (by kernel_rfl) (by kernel_rfl) (fun _ _ _ h => h) (Or.inl ⟨by rfl, ?_⟩) hS0 ?_
  rotate_left
  · intro w hSw; (try dsimp only at hSw); go_simp; (first | done | with_reducible rfl)
  simp only [Act.put]
  refine wpAnyH_ready (rs := [14]) (by kernel_rfl) (by simp) ?_
  refine AllReadyH.cons rfl (fun K hK => ?_) AllReadyH.nil
  go_simp
  refine hK.out _ _ ⟨(World.cell?_setCell_other _ _ _ _ (by simp)).trans s71, (World.cell?_setCell_other _ _ _ _ (by simp)).trans s1, (World.cell?_setCell_other _ _ _ _ (by simp)).trans s5, (World.cell?_setCell_other _ _ _ _ (by simp)).trans s6⟩ (fun hS5 => ?_)
  clear hK K
  try simp only [Act.put, List.setIfInBounds_toArray, List.set_cons_zero, List.set_cons_succ]
  refine wpAnyH_done (by kernel_rfl) ?_ _
  show wpList _ _ _ _ _ _
  obtain ⟨W5, hW5⟩ : ∃ W5, (W4.setCell ⟨g, i * 12 + 4, none⟩ (.int .i64 rd)).drew = W5 := ⟨_, rfl⟩
  have HO5 : W5.ownsRow (w.heap.size + 1 + 1) 71 12 (.slice (some ⟨g, 0, none⟩) fl.length c3) fl.length ((fl.flatMap flwvCells).set (i * 12 + 4) (.int .i64 rd)) := by
    rw [← hW5]
    exact own_set HO.out (.int .i64 rd)
  have B5 : But g W4 W5 := by rw [← hW5]; exact ((But.refl g W4).setCell _ _).drew
  rw [hW5]
  obtain ⟨g5, g5f⟩ := own_cell HO5 (j := i * 12 + 5) (u := .int .i64 y.f.keepers) (by rw [List.getElem?_set_ne (by omega), flat_get flwvCells 12 (fun _ => rfl) fl i 5 y HY.out (by decide)]; rfl)
  have u70 := B5.cell (p := ⟨w.heap.size + 1, 0, none⟩) (by simp; omega) s70
  have u71 := B5.cell (p := ⟨w.heap.size + 1, 1, none⟩) (by simp; omega) s71
  have V5 := Lib.hid (show (W5.setCell ⟨g, i * 12 + 5, none⟩ (.int .i64 kp)).cell? ⟨w.heap.size, 5, none⟩ = some (.int .i64 rd) from (World.cell?_setCell_other _ _ _ _ (by simp)).trans (B5.cell (by simp; omega) s5))
  have V6 := Lib.hid (show (W5.setCell ⟨g, i * 12 + 5, none⟩ (.int .i64 kp)).cell? ⟨w.heap.size, 6, none⟩ = some (.int .i64 kp) from (World.cell?_setCell_other _ _ _ _ (by simp)).trans (B5.cell (by simp; omega) s6))
  have HO6 := own_set (j := i * 12 + 5) HO5 (.int .i64 kp)
  have HOO := Lib.hid HO6
  have HB5 := Lib.hid B5
  clear hW5 HO5 HO6 B5 hS0 hS5 s70 s71 s1 s5 s6 g4 g4f HO
  have u70' : (W5.setCell ⟨g, i * 12 + 5, none⟩ (.int .i64 kp)).cell? ⟨w.heap.size + 1, 0, none⟩ = some (.slice At c.tops.length ct) := (World.cell?_setCell_other _ _ _ _ (by simp)).trans u70
  have u71' : (W5.setCell ⟨g, i * 12 + 5, none⟩ (.int .i64 kp)).cell? ⟨w.heap.size + 1, 1, none⟩ = some (.slice (some ⟨g, 0, none⟩) fl.length c3) := (World.cell?_setCell_other _ _ _ _ (by simp)).trans u71
  go_wp2_with fail
  have BW : Below w.heap.size w (W5.setCell ⟨g, i * 12 + 5, none⟩ (.int .i64 kp)) := by
    have h3 : Below w.heap.size w w3 := (balloc (box_below _ _) _).trans (HB3.out.mono (by simp; omega))
    have h4 : Below w.heap.size w W4 := by
      rw [← HW4.out]
      exact h3.setCell (p := ⟨w.heap.size + 1, 1, none⟩) (by simp) _
    have h5 : Below w.heap.size w W5 := h4.grown HB5.out h4.size (fun k e => by cases e; omega)
    exact h5.setCell (p := ⟨g, i * 12 + 5, none⟩) (by simp; omega) _
  obtain ⟨W6, hW6⟩ : ∃ W6, W5.setCell ⟨g, i * 12 + 5, none⟩ (.int .i64 kp) = W6 := ⟨_, rfl⟩
  rw [hW6] at BW ⊢
  have HOO' := HOO.out
  rw [hW6] at HOO'
  rw [hW6] at V5 V6
  have hflat : ((fl.flatMap flwvCells).set (i * 12 + 4) (.int .i64 rd)).set (i * 12 + 5) (.int .i64 kp) = (fl.set i (reFlw y rd kp)).flatMap flwvCells := by
    rw [flat_set flwvCells 12 (fun _ => rfl) fl i 4 y { y with f := { y.f with readers := rd } } (.int .i64 rd) HY.out (by decide) rfl]
    rw [flat_set flwvCells 12 (fun _ => rfl) (fl.set i { y with f := { y.f with readers := rd } }) i 5 { y with f := { y.f with readers := rd } } (reFlw y rd kp) (.int .i64 kp) (by rw [List.getElem?_set_self (by omega)]) (by decide) rfl, List.set_set]
  have hym := List.mem_of_getElem? HY.out
  have hmem : ∀ z ∈ fl.set i (reFlw y rd kp), z = reFlw y rd kp ∨ z ∈ fl := fun z hz => (List.mem_or_eq_of_mem_set hz).symm
  have HP6 : PlanAt W6 (.slice At c.tops.length ct) (.slice (some ⟨g, 0, none⟩) fl.length c3) c.tops (fl.set i (reFlw y rd kp)) := by
    refine ⟨HST.out.plan.tops.below BW, ?_, fun z hz => ?_, fun z hz => ?_⟩
    · rw [List.length_set, ← hflat]
      exact sliceAt_own' HOO'
    · rcases hmem z hz with rfl | hz
      · exact (HST.out.plan.pre y hym).below BW
      · exact (HST.out.plan.pre z hz).below BW
    · rcases hmem z hz with rfl | hz
      · exact (HST.out.plan.post y hym).below BW
      · exact (HST.out.plan.post z hz).below BW
  have HS6 : SmallFlows (fl.set i (reFlw y rd kp)) := fun z hz => by
    rcases hmem z hz with rfl | hz
    · exact H.out.small y hym
    · exact H.out.small z hz
  have hTW := H.out.tab.below BW
  have hchk := check_calls c.tops (fl.set i (reFlw y rd kp)) (.slice At c.tops.length ct) (.slice (some ⟨g, 0, none⟩) fl.length c3) W6 HP6 HS6 hTW (tab_lt hTW)
  have hE : planE (plnOf c.tops (fl.set i (reFlw y rd kp))) = planE ⟨c.tops, scaled c.flows i rd kp⟩ := by
    unfold plnOf
    rw [scaled_at HY.out, H.out.flows]
  rw [hE] at hchk
  obtain ⟨E, hEE⟩ : ∃ E, planE ⟨c.tops, scaled c.flows i rd kp⟩ = E := ⟨_, rfl⟩
  rw [hEE] at hchk
  have HE := Lib.hid hEE
  have HBW := Lib.hid BW
  have hsc : scaleJ c.tops c.flows (liveL c.lives) ⟨kind, (i : Int), catt, cnum, wk, rd, kp, parts⟩ x.j = if E ≠ 0 then (x.j, 1) else if 0 < x.j.att then (beginJ (liveL c.lives) { x.j with rd := rd, kp := kp }, 0) else ({ x.j with rd := rd, kp := kp }, 0) := by
    unfold scaleJ
    simp only [Int.toNat_natCast, hEE]
  have HSC := Lib.hid hsc
  refine hchk.mono ?_
  clear hchk hE hEE HP6 HS6 hflat hmem hym HOO HOO' u70 u71 u70' u71' g5 g5f hsc BW
  rintro e w7 ⟨⟨nn, rfl⟩, hB7⟩
  have r5 := kc hB7 V5.out
  have r6 := kc hB7 V6.out
  have HB7 := Lib.hid (go HBW.out hB7)
  clear hB7
  by_cases hE0 : E = 0
  · have tE : (E != 0) = false := by simpa using hE0
    obtain ⟨b0, b1, b2, -, -, -, -, -, bf⟩ := ((H.out.below HB7.out).box x hxm).cells
    have HBX := Lib.hid ((H.out.below HB7.out).box x hxm)
    have hxlt : x.b < w.heap.size := H.out.lt _ (H.out.jobU HX.out)
    have bf1 := bf 1
    have bf2 := bf 2
    clear bf
    go_wp2
    refine wp_region_forced 9 (by kernel_rfl) (by kernel_rfl) ?_
    simp only [List.take_succ_cons, List.take_zero, List.drop_succ_cons, List.drop_zero, List.size_toArray, List.length_cons, List.length_nil, Nat.zero_add, Nat.reduceAdd]
    refine wpAny_of_held (S := fun X : World => X.cell? ⟨w.heap.size, 5, none⟩ = some (.int .i64 rd) ∧ X.cell? ⟨w.heap.size, 6, none⟩ = some (.int .i64 kp)) _ _ _ _ ?_
    have hT0 : (fun X : World => X.cell? ⟨w.heap.size, 5, none⟩ = some (.int .i64 rd) ∧ X.cell? ⟨w.heap.size, 6, none⟩ = some (.int .i64 kp)) w7.drew := ⟨r5, r6⟩
    refine wpAnyH_take (i := 0) (v := ?_) rfl (by kernel_rfl) (by kernel_rfl) (by kernel_rfl) (fun _ _ _ h => h) (Or.inl ⟨by rfl, ?_⟩) hT0 ?_
    rotate_left
    · intro w hSw; (try dsimp only at hSw); go_simp; (first | done | with_reducible rfl)
    simp only [Act.put, List.setIfInBounds_toArray]
    refine wpAnyH_take (i := 1) (v := ?_) rfl (by kernel_rfl) (by kernel_rfl) (by kernel_rfl) (fun _ _ _ h => h) (Or.inl ⟨by rfl, ?_⟩) hT0 ?_
    rotate_left
    · intro w hSw; (try dsimp only at hSw); go_simp; (first | done | with_reducible rfl)
    simp only [Act.put]
    refine wpAnyH_take (i := 2) (v := ?_) rfl (by kernel_rfl) (by kernel_rfl) (by kernel_rfl) (fun _ _ _ h => h) (Or.inl ⟨by rfl, ?_⟩) hT0 ?_
    rotate_left
    · intro w hSw; (try dsimp only at hSw); go_simp; (first | done | with_reducible rfl)
    simp only [Act.put]
    refine wpAnyH_take (i := 3) (v := ?_) rfl (by kernel_rfl) (by kernel_rfl) (by kernel_rfl) (fun _ _ _ h => h) (Or.inl ⟨by rfl, ?_⟩) hT0 ?_
    rotate_left
    · intro w hSw; (try dsimp only at hSw); go_simp; (first | done | with_reducible rfl)
    simp only [Act.put]
    refine wpAnyH_take (i := 4) (v := ?_) rfl (by kernel_rfl) (by kernel_rfl) (by kernel_rfl) (fun _ _ _ h => h) (Or.inl ⟨by rfl, ?_⟩) hT0 ?_
    rotate_left
    · intro w hSw; (try dsimp only at hSw); go_simp; (first | done | with_reducible rfl)
    simp only [Act.put]
    refine wpAnyH_take (i := 5) (v := ?_) rfl (by kernel_rfl) (by kernel_rfl) (by kernel_rfl) (fun _ _ _ h => h) (Or.inl ⟨by rfl, ?_⟩) hT0 ?_
    rotate_left
    · intro w hSw; (try dsimp only at hSw); go_simp; (first | done | with_reducible rfl)
    simp only [Act.put]
    refine wpAnyH_take (i := 6) (v := ?_) rfl (by kernel_rfl) (by kernel_rfl) (by kernel_rfl) (fun _ _ _ h => h) (Or.inl ⟨by rfl, ?_⟩) hT0 ?_
    rotate_left
    · intro w hSw; (try dsimp only at hSw); go_simp; (first | done | with_reducible rfl)
    simp only [Act.put]
    refine wpAnyH_take (i := 7) (v := ?_) rfl (by kernel_rfl) (by kernel_rfl) (by kernel_rfl) (fun _ _ _ h => h) (Or.inl ⟨by rfl, ?_⟩) hT0 ?_
    rotate_left
    · intro w hSw; (try dsimp only at hSw); go_simp; (first | done | with_reducible rfl)
    simp only [Act.put]
    refine wpAnyH_ready (rs := [8]) (by kernel_rfl) (by simp) ?_
    refine AllReadyH.cons rfl (fun K hK => ?_) AllReadyH.nil
    go_simp
    refine hK.out _ _ ⟨(World.cell?_setCell_other _ _ _ _ (by simp)).trans r5, (World.cell?_setCell_other _ _ _ _ (by simp)).trans r6⟩ (fun hT5 => ?_)
    clear hK K
    try simp only [Act.put, List.setIfInBounds_toArray, List.set_cons_zero, List.set_cons_succ]
    refine wpAnyH_done (by kernel_rfl) ?_ _
    show wpList _ _ _ _ _ _
    obtain ⟨W8, hW8⟩ : ∃ W8, (w7.setCell ⟨x.b, 1, none⟩ (.int .i64 rd)).drew = W8 := ⟨_, rfl⟩
    have B8 : But x.b w7 W8 := by rw [← hW8]; exact ((But.refl x.b w7).setCell _ _).drew
    have hb8 : W8.heap[x.b]? = some (.cells ((jobCells x.j x.pv x.mo).setIfInBounds 1 (.int .i64 rd)) 122) := by
      rw [← hW8]
      exact set_cell_heap (w := w7) _ HBX.out
    rw [hW8]
    have c82 : W8.cell? ⟨x.b, 2, none⟩ = some (.int .i64 x.j.kp) := by rw [cell_of_row _ _ _ _ _ _ hb8]; simp [jobCells]
    have f82 : W8.frozen? ⟨x.b, 2, none⟩ = false := by simp [World.frozen?, hb8]
    have hb9 : (W8.setCell ⟨x.b, 2, none⟩ (.int .i64 kp)).heap[x.b]? = some (.cells (jobCells { x.j with rd := rd, kp := kp } x.pv x.mo) 122) := (set_cell_heap _ hb8).trans (by simp [jobCells])
    have c90 : (W8.setCell ⟨x.b, 2, none⟩ (.int .i64 kp)).cell? ⟨x.b, 0, none⟩ = some (.int .i64 x.j.att) := by rw [cell_of_row _ _ _ _ _ _ hb9]; simp [jobCells]
    have k9 : Kp (fun q => q = x.b) w7 (W8.setCell ⟨x.b, 2, none⟩ (.int .i64 kp)) := Kp.of_but (B8.setCell _ _) rfl
    have h9 := (H.out.beside HB7.out).nums HX.out k9 (j := { x.j with rd := rd, kp := kp }) (mo := x.mo) hb9 rfl (.inl ⟨rfl, rfl⟩)
    rw [more_more HB7.out.size k9.size] at h9
    have kU : Kp U w (W8.setCell ⟨x.b, 2, none⟩ (.int .i64 kp)) := (Kp.of_below (U := U) HB7.out).trans k9 (fun q _ e => by rw [e]; exact H.out.jobU HX.out)
    have hso := scaled_ok (rd := rd) (kp := kp) (i := i) (fl := c.flows) (tops := c.tops) (by rw [← H.out.flows]; simpa using hil) (by rw [HE.out]; exact hE0)
    have hset : ((c.jobs.set i { x.j with rd := rd, kp := kp }).set i (beginJ (liveL c.lives) { x.j with rd := rd, kp := kp })) = c.jobs.set i (beginJ (liveL c.lives) { x.j with rd := rd, kp := kp }) := List.set_set ..
    have hx9 : (xs.set i ⟨{ x.j with rd := rd, kp := kp }, x.pv, x.mo, x.b⟩)[i]? = some ⟨{ x.j with rd := rd, kp := kp }, x.pv, x.mo, x.b⟩ := List.getElem?_set_self (List.getElem?_eq_some_iff.1 HX.out).1
    have hbg := begin_from h9 hc (n := n) hx9 ⟨HJ.out.att, hso.1, hso.2⟩ hn (Below.refl _ _)
    have HBG := Lib.hid hbg
    have H9 := Lib.hid h9
    have KU := Lib.hid kU
    have HSET := Lib.hid hset
    clear hbg h9 kU hset hso k9 hb9 hb8 hT0 hT5 hW8 b0 b1 b2 bf1 bf2 r5 r6 hx9
    by_cases h0 : 0 < x.j.att
    · have t0 : decide (0 < x.j.att) = true := by simpa using h0
      go_wp2_with (go_at_call 77; go_must (refine (HBG.out).mono ?_); rintro e w10 ⟨⟨v10, rfl⟩, hk10, xs10, hc10⟩)
      go_ret
      rw [HSC.out, if_neg (fun q => q hE0), if_pos h0]
      rw [more_more KU.out.size hk10.size] at hc10
      simp only [HSET.out] at hc10
      refine ⟨rfl, KU.out.trans hk10 (fun q hq e => ?_), xs10, hc10⟩
      rcases e with e | e
      · exact e
      · omega
    · have t0 : decide (0 < x.j.att) = false := by simpa using h0
      go_wp2
      go_ret
      rw [HSC.out, if_neg (fun q => q hE0), if_neg (by omega)]
      exact ⟨rfl, KU.out, _, H9.out⟩
  · have tE : (E != 0) = true := by simpa using hE0
    go_wp2
    go_ret
    rw [HSC.out, if_pos hE0]
    exact JobPost.same H.out HX.out HB7.out 1
end
end Go.Proofs.YtkjajlolfcioiaaGreatDoor.Control

/- the lives of workers in their map: read, laid, struck. -/
namespace Go.Proofs.YtkjajlolfcioiaaGreatDoor.Control
open Go Go.RowKit Go.MapKept Go.Proofs Go.Proofs.YtkjajlolfcioiaaGreatDoor Go.Proofs.YtkjajlolfcioiaaGreatDoor.Expr Go.Proofs.YtkjajlolfcioiaaGreatDoor.Own Go.Proofs.YtkjajlolfcioiaaGreatDoor.Tail Go.Proofs.YtkjajlolfcioiaaGreatDoor.Mp Go.Proofs.YtkjajlolfcioiaaGreatDoor.Ints Go.Proofs.YtkjajlolfcioiaaGreatDoor.Plan Go.Proofs.YtkjajlolfcioiaaGreatDoor.Check Go.Proofs.YtkjajlolfcioiaaGreatDoor.Graph Go.Proofs.YtkjajlolfcioiaaGreatDoor.Ctl
/-- 'delete(m, k)'. -/
theorem mapF_delete {P : Program} {w : World} {d : TypeDesc} {b : Nat} {f : Value → Option Value} {t k e : TypeId} (h : MapF w d b f) (ht : P.underlying t = some (.map k e)) (hd : P.underlying k = some d) {key : Value} (hk : IsKey d key) (ty : TypeId) (g : Value → Option Value) (hg1 : g key = none) (hg2 : ∀ x, x ≠ key → g x = f x) :
    ∃ w', (Builtin.delete_ #[t, k] ty #[.map (some b), key]).run P w = .ok (.tuple #[]) w' ∧ MapF w' d b g ∧ But b w w' := by
  obtain ⟨es0, clock0, hb0, hs, hks, h1, h2⟩ := id h
  obtain ⟨es, clock, hb, hq⟩ := h.find hd hk
  rw [hb0] at hb
  cases hb
  have hlt := h.lt
  have hset : ∀ o, (ChangeMaps.setBlock w b o).heap[b]? = some o := fun o => by simp [ChangeMaps.setBlock, hlt]
  rcases hq with ⟨q1, q2, q3⟩ | ⟨j, e0, q1, q2, q3, q4⟩
  · refine ⟨ChangeMaps.setBlock w b (.map es0 clock0), ?_, ⟨_, _, hset _, hs, hks, fun x hx => ?_, fun x v hx => ?_⟩, but_setBlock _ _ _⟩
    · simp [Builtin.delete_, run_underlying ht, MapKept.run_getObj_map hb0, run_checkKey hd hk, q1, MapKept.run_setObj_map _ hb0, Result.andThen, ChangeMaps.setBlock]
    · rw [hg2 _ (q3 x hx)]
      exact h1 x hx
    · by_cases e : x = key
      · rw [e, hg1] at hx
        cases hx
      · rw [hg2 _ e] at hx
        exact h2 x v hx
  · have hjl : j < es0.size := (Array.getElem?_eq_some_iff.1 q2).1
    have hsub : (es0.eraseIdxIfInBounds j).toList = es0.toList.eraseIdx j := by
      unfold Array.eraseIdxIfInBounds
      rw [dif_pos hjl]
      simp
    obtain ⟨s1, s2, s3⟩ := (stamped_iff es0 clock0).1 hs
    have hjj : es0.toList[j]? = some e0 := by simpa using q2
    have hne : ∀ x ∈ es0.toList.eraseIdx j, x ∈ es0.toList ∧ x.key ≠ key := by
      intro x hx
      obtain ⟨i, hi, hne, hxi⟩ := List.mem_eraseIdx_iff_getElem.1 hx
      refine ⟨by rw [← hxi]; exact List.getElem_mem _, fun ek => ?_⟩
      have hp := List.pairwise_iff_getElem.1 s3
      have hj' : j < es0.toList.length := by simpa using hjl
      have hej : es0.toList[j] = e0 := by
        rw [List.getElem?_eq_getElem hj'] at hjj
        exact Option.some.inj hjj
      rcases Nat.lt_or_gt_of_ne hne with hl | hl
      · exact hp i j hi hj' hl (by rw [hej, hxi, ek, q3])
      · exact hp j i hj' hi hl (by rw [hej, hxi, ek, q3])
    refine ⟨ChangeMaps.setBlock w b (.map (es0.eraseIdxIfInBounds j) clock0), ?_, ⟨_, _, hset _, stamped_erase hs j, fun x hx => ?_, fun x hx => ?_, fun x v hx => ?_⟩, but_setBlock _ _ _⟩
    · simp [Builtin.delete_, run_underlying ht, MapKept.run_getObj_map hb0, run_checkKey hd hk, q1, MapKept.run_setObj_map _ hb0, Result.andThen, ChangeMaps.setBlock]
    · rw [hsub] at hx
      exact hks x (hne x hx).1
    · rw [hsub] at hx
      rw [hg2 _ (hne x hx).2]
      exact h1 x (hne x hx).1
    · by_cases e : x = key
      · rw [e, hg1] at hx
        cases hx
      · rw [hg2 _ e] at hx
        obtain ⟨y, hy, hyk⟩ := h2 x v hx
        refine ⟨y, ?_, hyk⟩
        rw [hsub, List.mem_eraseIdx_iff_getElem]
        obtain ⟨i, hi, hyi⟩ := List.mem_iff_getElem.1 hy
        refine ⟨i, hi, fun eij => ?_, hyi⟩
        subst eij
        rw [List.getElem?_eq_getElem hi, hyi] at hjj
        rw [Option.some.inj hjj, q3] at hyk
        exact e hyk.symm
section
variable {w : World} {lm : Nat} {lv : Int → Int} {ops : Array Oper} {rest : List Oper} {o : Oper} {a : Act} {Q : Exit → Act → World → Prop}
theorem look_live (h : MapF w (.int .i64) lm (livF lv)) (h0 : ∀ k, 0 ≤ lv k) (hw : Region.wanted o (yielded ops a.tmps) = true) (m x : Operand) (hop : o.op = Op.lookup 112 m x false) (hm : a.eval m = .map (some lm)) {k : Int} (hx : a.eval x = .int .i64 k)
    (hK : wpList Tryz.prog ops Q rest (a.put o.dst (.int .i64 (lv k))) w) : wpList Tryz.prog ops Q (o :: rest) a w :=
  list_look h Tryz.underlying112 Tryz.underlying3 (z := .int .i64 0) (by kernel_rfl) hw m x false hop hm hx rfl (v := .int .i64 (lv k)) (by
    show ((livF lv (.int .i64 k)).getD (.int .i64 0)) = _
    show ((if 0 < lv k then some (Value.int .i64 (lv k)) else none).getD (.int .i64 0)) = _
    by_cases h1 : 0 < lv k
    · rw [if_pos h1]; rfl
    · rw [if_neg h1]
      have := h0 k
      have : lv k = 0 := by omega
      rw [this]; rfl) hK
theorem put_live (h : MapF w (.int .i64) lm (livF lv)) (hw : Region.wanted o (yielded ops a.tmps) = true) (m x y : Operand) (hop : o.op = Op.mapUpdate 112 m x y) (hm : a.eval m = .map (some lm)) {k v : Int} (hx : a.eval x = .int .i64 k) (hy : a.eval y = .int .i64 v) (hv : 0 < v)
    (hK : ∀ w', MapF w' (.int .i64) lm (livF (setLife lv k v)) → But lm w w' → wpList Tryz.prog ops Q rest (a.put o.dst undef) w') : wpList Tryz.prog ops Q (o :: rest) a w :=
  list_put h Tryz.underlying112 Tryz.underlying3 hw m x y hop hm hx rfl hy (livF (setLife lv k v)) (by simp [livF, setLife, hv]) (fun x hx => by
    cases x <;> try rfl
    rename_i q n
    cases q <;> try rfl
    have : n ≠ k := fun e => hx (by rw [e])
    simp [livF, setLife, this]) hK
theorem del_live (h : MapF w (.int .i64) lm (livF lv)) (hgd : o.guard = none) (m x : Operand) (hop : o.op = Op.call { callee := Callee.builtin Builtin.delete, args := #[m, x], argTypes := #[112, 3] }) (hm : a.eval m = .map (some lm)) {k : Int} (hx : a.eval x = .int .i64 k)
    (hK : ∀ w', MapF w' (.int .i64) lm (livF (setLife lv k 0)) → But lm w w' → wpList Tryz.prog ops Q rest (a.put o.dst (.tuple #[])) w') : wpList Tryz.prog ops Q (o :: rest) a w := by
  refine wpList_plain hgd fun _ hK' => ?_
  obtain ⟨w', hr, r1, r2⟩ := mapF_delete (P := Tryz.prog) (t := 112) (k := 3) h Tryz.underlying112 Tryz.underlying3 (key := .int .i64 k) rfl o.type (livF (setLife lv k 0)) (by simp [livF, setLife]) (fun x hx => by
    cases x <;> try rfl
    rename_i q n
    cases q <;> try rfl
    have : n ≠ k := fun e => hx (by rw [e])
    simp [livF, setLife, this])
  unfold Oper.wp execOp
  simp only [hop, resolve, invoke, builtin, Sem.run_bind, Sem.run_pure, Result.andThen_ok, List.map_toArray, List.map_cons, List.map_nil, hm, hx, hr]
  exact hK' _ _ (hK w' r1 r2)
end
section
variable {w X : World} {cb : Nat} {c : Ct} {U : Nat → Prop} {tv fv : Value} {lm : Nat} {jv : Value} {fl : List FlwV} {xs : List JV}
/-- the lives turn. -/
theorem CtlIs.lives (h : CtlIs w cb c U tv fv lm jv fl xs) (k : But lm w X) {lv : Int → Int} (hm : MapF X (.int .i64) lm (livF lv)) : CtlIs X cb { c with lives := lv } U tv fv lm jv fl xs :=
  { h with
    live := hm
    box := fun x hx => (h.box x hx).block (k.block x.b (h.lt _ (h.inU _ (.inr ⟨x, hx, .inl rfl⟩))) (fun e => by
      have h1 := h.box x hx
      obtain ⟨es, ck, hh, _⟩ := h.live
      unfold JobBox at h1
      have e := Option.some.inj e
      rw [e, hh] at h1
      cases h1))
    ack := fun x hx => (h.ack x hx).block fun m hm' => k.block m (h.lt _ (h.inU _ (.inr ⟨x, hx, .inr hm'⟩))) (fun e => h.lmA x hx (by rw [hm', Option.some.inj e]))
    stat := fun Y hY => h.stat Y fun i hi hmt => (hY i hi hmt).trans (k.block i (h.lt i hi) (fun e => hmt (.inl (Option.some.inj e))))
    lt := fun i hi => Nat.lt_of_lt_of_le (h.lt i hi) k.size
    tab := tab_block h.tab (k.block _ (tab_lt h.tab) (fun e => h.gU (by
      have e := Option.some.inj e
      rw [e]
      exact h.inU lm (.inl rfl)))) }
end
end Go.Proofs.YtkjajlolfcioiaaGreatDoor.Control

/- control.worker, walked. -/
namespace Go.Proofs.YtkjajlolfcioiaaGreatDoor.Control
open Go Go.RowKit Go.MapKept Go.Proofs Go.Proofs.YtkjajlolfcioiaaGreatDoor Go.Proofs.YtkjajlolfcioiaaGreatDoor.Expr Go.Proofs.YtkjajlolfcioiaaGreatDoor.Own Go.Proofs.YtkjajlolfcioiaaGreatDoor.Tail Go.Proofs.YtkjajlolfcioiaaGreatDoor.Mp Go.Proofs.YtkjajlolfcioiaaGreatDoor.Ints Go.Proofs.YtkjajlolfcioiaaGreatDoor.Plan Go.Proofs.YtkjajlolfcioiaaGreatDoor.Check Go.Proofs.YtkjajlolfcioiaaGreatDoor.Graph Go.Proofs.YtkjajlolfcioiaaGreatDoor.Ctl
/-- a command has been done. -/
def DoPost (w : World) (cb : Nat) (U : Nat → Prop) (r : Ct × Int) (e : Ending) (w' : World) : Prop :=
  e = .returned (.int .i64 r.2) ∧ Kp U w w' ∧ CtlAt w' cb r.1 (more U w w')
section
variable {w X : World} {cb : Nat} {c : Ct} {U : Nat → Prop} {tv fv : Value} {lm : Nat} {jv : Value} {fl : List FlwV} {xs : List JV}
theorem DoPost.same (h : CtlIs w cb c U tv fv lm jv fl xs) (k : Below w.heap.size w X) (n : Int) : DoPost w cb U (c, n) (.returned (.int .i64 n)) X :=
  ⟨rfl, Kp.of_below k, _, _, _, _, _, _, h.beside k⟩
theorem moved_on (old wk : Int) (live : List Int) (l : List Jb) (h : 0 < old) : l.map (moved old wk live) = l.map (begunIf (fun j => decide (wk ∈ j.places)) live) := by
  refine List.map_congr_left fun j _ => ?_
  unfold moved begunIf
  rw [if_pos h]
  by_cases h1 : wk ∈ j.places <;> simp [h1]
theorem moved_idle (old wk : Int) (live : List Int) (l : List Jb) (h : ¬ 0 < old) : l.map (moved old wk live) = l.map (begunIf (fun j => decide (0 < j.att ∧ j.places = [])) live) := by
  refine List.map_congr_left fun j _ => ?_
  unfold moved begunIf
  rw [if_neg h]
  by_cases h1 : 0 < j.att ∧ j.places = [] <;> simp [h1]
/-- behind the turn of the lives: the jobs. -/
theorem worker_end (h : CtlIs w cb c U tv fv lm jv fl xs) {n : Int} (hok : CtOk n c) (hn : n ≤ 1000) (x : Cmd) (he : workerE c x = 0) (hout : 1 ≤ x.wk ∧ x.wk ≤ 6) (pw : Nat) (hpw : w.heap.size ≤ pw) {W : World} (hW : Below w.heap.size w W)
    {X : World} (hX : But lm W X) (hm : MapF X (.int .i64) lm (livF (livesDo c x))) (hcells : X.cell? ⟨pw, 0, none⟩ = some (.int .i64 x.wk)) :
    (0 < c.lives x.wk → Calls Tryz.prog 110 #[.pointer (some ⟨cb, 0, none⟩), .func (.func 111) #[] #[.pointer (some ⟨pw, 0, none⟩)]] X fun e w' => (∃ v, e = .returned v) ∧ DoPost w cb U (workerC c x) (.returned (.int .i64 0)) w') ∧
    (¬ 0 < c.lives x.wk → Calls Tryz.prog 110 #[.pointer (some ⟨cb, 0, none⟩), .func (.func 113) #[] #[]] X fun e w' => (∃ v, e = .returned v) ∧ DoPost w cb U (workerC c x) (.returned (.int .i64 0)) w') := by
  have h1 := (h.below hW).lives hX hm
  have hlmU : U lm := h.inU lm (.inl rfl)
  have hKX : Kp U w X := (Kp.of_below (U := U) hW).trans (Kp.of_but (U := U) hX hlmU) (fun _ _ e => e)
  have hc' : ∀ k, k < 1 ∨ 6 < k → livesDo c x k = 0 := fun k hk => by
    unfold livesDo setLife
    rw [if_neg (by omega)]
    exact hok.out k hk
  have h8 := (plan_len hok.plan).2
  have hl8 : c.jobs.length ≤ 8 := by rw [hok.len]; exact h8
  have fin : ∀ (q : Jb → Bool) (e : Ending) (w' : World), c.jobs.map (moved (c.lives x.wk) x.wk (liveL (livesDo c x))) = c.jobs.map (begunIf q (liveL (livesDo c x))) → AllPost q X cb { c with lives := livesDo c x } U tv fv lm jv fl e w' → (∃ v, e = .returned v) ∧ DoPost w cb U (workerC c x) (.returned (.int .i64 0)) w' := by
    rintro q e w' hq ⟨hv, hk, xs', hC⟩
    refine ⟨hv, ?_⟩
    unfold workerC
    rw [if_neg (fun e => e he), hq]
    have hK := hKX.trans hk (fun _ _ e => e)
    refine ⟨rfl, hK, _, _, _, _, _, _, hC.grow ?_ ?_ ?_⟩
    · rintro k (e | e)
      · exact .inl e
      · exact .inr ⟨Nat.le_trans hKX.size e.1, e.2⟩
    · rintro k (e | e)
      · exact Nat.lt_of_lt_of_le (h.lt k e) hK.size
      · exact e.2
    · rintro (e | e)
      · exact h.gU e
      · have := tab_lt h.tab
        omega
  constructor
  · intro h0
    refine (all_calls (fun j => decide (x.wk ∈ j.places)) _ _ _ h1 hc' hn (fun j hj => (hok.jobs j hj).1) hl8 (ask_on pw x.wk) (fun Y hY => ?_)).mono fun e w' hp => fin _ e w' (moved_on _ _ _ _ h0) hp
    refine hY.cell ?_ hcells
    rintro (e | e)
    · have e : U pw := e
      have := h.lt pw e
      omega
    · have e : X.heap.size ≤ pw := e
      have := lt_of_cell hcells
      have : pw < X.heap.size := this
      omega
  · intro h0
    exact (all_calls (fun j => decide (0 < j.att ∧ j.places = [])) _ _ _ h1 hc' hn (fun j hj => (hok.jobs j hj).1) hl8 ask_idle (fun _ _ => trivial)).mono fun e w' hp => fin _ e w' (moved_idle _ _ _ _ h0) hp
set_option maxHeartbeats 4000000 in
set_option maxRecDepth 100000 in
theorem worker_calls (h : CtlIs w cb c U tv fv lm jv fl xs) {n : Int} (hok : CtOk n c) (hn : n ≤ 1000) (x : Cmd) (v : Value) (hx : x.kind = 1 ∨ x.kind = 2) :
    Calls Tryz.prog 75 #[.pointer (some ⟨cb, 0, none⟩), .agg (cmdCells x v)] w (DoPost w cb U (workerC c x)) := by
  have k2 : w.cell? ⟨cb, 2, none⟩ = some (.map (some lm)) := by rw [cell_of_row _ _ _ _ _ _ h.now.ctl]; simp
  have HS := Lib.hid fun X k n => DoPost.same (X := X) h k n
  have HE := Lib.hid fun he ho pw hpw W hW X hX hm hcs => worker_end h hok hn x he ho pw hpw (W := W) hW (X := X) hX hm hcs
  have HL := Lib.hid h.live
  have h0 := hok.lives
  have HLV := Lib.hid fun k => (h0 k).1
  have hlml : lm < w.heap.size := h.lt lm (h.inU lm (.inl rfl))
  have hin : ∀ e, workerE c x = e → e ≠ 0 → workerC c x = (c, e) := fun e he hne => by unfold workerC; rw [he, if_pos hne]
  have HI := Lib.hid hin
  obtain ⟨kind, flow, att, num, wk, rd, kp, parts⟩ := x
  simp only at hx
  have hex : workerE c ⟨kind, flow, att, num, wk, rd, kp, parts⟩ = if wk < 1 ∨ 6 < wk ∨ num < 1 ∨ 1000000000 < num then 1 else if kind = 1 then (if num ≤ c.lives wk then 52 else 0) else if c.lives wk = 0 then 6 else if c.lives wk ≠ num then 210 else 0 := rfl
  have HX := Lib.hid hex
  clear h hok hin hex
  unfold cmdCells
  by_cases a1 : wk < 1
  · have t1 : decide (wk < 1) = true := by simpa using a1
    rw [HI.out 1 (by rw [HX.out, if_pos (.inl a1)]) (by decide)]
    go_enter Tryz.func75, Tryz.ntmps75
    go_wp2
    go_ret
    exact HS.out _ (balloc (box_below _ _) _) 1
  have t1 : decide (wk < 1) = false := by simpa using a1
  by_cases a2 : 6 < wk
  · have t2 : decide (6 < wk) = true := by simpa using a2
    rw [HI.out 1 (by rw [HX.out, if_pos (.inr (.inl a2))]) (by decide)]
    go_enter Tryz.func75, Tryz.ntmps75
    go_wp2
    go_ret
    exact HS.out _ (balloc (box_below _ _) _) 1
  have t2 : decide (6 < wk) = false := by simpa using a2
  by_cases a3 : num < 1
  · have t3 : decide (num < 1) = true := by simpa using a3
    rw [HI.out 1 (by rw [HX.out, if_pos (.inr (.inr (.inl a3)))]) (by decide)]
    go_enter Tryz.func75, Tryz.ntmps75
    go_wp2
    go_ret
    exact HS.out _ (balloc (box_below _ _) _) 1
  have t3 : decide (num < 1) = false := by simpa using a3
  by_cases a4 : 1000000000 < num
  · have t4 : decide (1000000000 < num) = true := by simpa using a4
    rw [HI.out 1 (by rw [HX.out, if_pos (.inr (.inr (.inr a4)))]) (by decide)]
    go_enter Tryz.func75, Tryz.ntmps75
    go_wp2
    go_ret
    exact HS.out _ (balloc (box_below _ _) _) 1
  have t4 : decide (1000000000 < num) = false := by simpa using a4
  have hn0 : ¬ (wk < 1 ∨ 6 < wk ∨ num < 1 ∨ 1000000000 < num) := by omega
  go_enter Tryz.func75, Tryz.ntmps75
  go_wp2
  obtain ⟨W, hW⟩ : ∃ W, (w.alloc (.cells #[.int .i64 kind, .int .i64 flow, .int .i64 att, .int .i64 num, .int .i64 wk, .int .i64 rd, .int .i64 kp, v] 60)).alloc (.cells #[.int .i64 wk] 3) = W := ⟨_, rfl⟩
  rw [hW]
  have BW : Below w.heap.size w W := by rw [← hW]; exact balloc (box_below _ _) _
  have p0 : W.cell? ⟨w.heap.size, 0, none⟩ = some (.int .i64 kind) := by rw [← hW]; exact kc (box_below _ _) (cell_new rfl rfl)
  have p3 : W.cell? ⟨w.heap.size, 3, none⟩ = some (.int .i64 num) := by rw [← hW]; exact kc (box_below _ _) (cell_new rfl rfl)
  have q0 : W.cell? ⟨w.heap.size + 1, 0, none⟩ = some (.int .i64 wk) := by rw [← hW]; exact cell_new (by simp) rfl
  have k2' := kc BW k2
  have HLW := Lib.hid (HL.out.below BW)
  have HBW := Lib.hid BW
  obtain ⟨L, hL⟩ : ∃ L, c.lives wk = L := ⟨_, rfl⟩
  have HLL := Lib.hid hL
  have HN0 := Lib.hid hn0
  have hmf : ∀ (fn : Fn) (first cap : Array Value) (w : World), (Instr.makeFunc fn first cap).run Tryz.prog w = .ok (.func fn first cap) w := fun _ _ _ _ => rfl
  clear hW BW k2 hL hn0 t1 t2 t3 t4
  refine draws_tail 5 (by kernel_rfl) (by kernel_rfl) ?_
  simp only [List.take_succ_cons, List.take_zero, List.drop_succ_cons, List.drop_zero]
  repeat (go_big_quiet_step (fail))
  refine wpQuiet_nil ?_
  rintro X ⟨nx, rfl⟩
  have HLX := Lib.hid (show MapF (W.drewN nx) (.int .i64) lm (livF c.lives) from HLW.out)
  rcases hx with rfl | rfl
  · by_cases h5 : num ≤ L
    · have t5 : decide (num ≤ L) = true := by simpa using h5
      go_wp2_with (at_lookup; refine look_live HLX.out HLV.out (by kernel_rfl) _ _ rfl rfl rfl ?_; rw [HLL.out])
      go_ret
      rw [HI.out 52 (by rw [HX.out, if_neg HN0.out]; simp [HLL.out, h5]) (by decide)]
      exact HS.out _ (bdrewN HBW.out _) 52
    · have t5 : decide (num ≤ L) = false := by simpa using h5
      go_wp2_with (at_lookup; refine look_live HLX.out HLV.out (by kernel_rfl) _ _ rfl rfl rfl ?_; rw [HLL.out])
      refine draws_tail 7 (by kernel_rfl) (by kernel_rfl) ?_
      simp only [List.take_succ_cons, List.take_zero, List.drop_succ_cons, List.drop_zero]
      repeat (go_big_quiet_step (fail))
      refine wpQuiet_nil ?_
      rintro X2 ⟨nx2, rfl⟩
      have HLX2 := Lib.hid (show MapF ((W.drewN nx).drewN nx2) (.int .i64) lm (livF c.lives) from HLW.out)
      have HE0 := Lib.hid (show workerE c _ = 0 from by rw [HX.out, if_neg HN0.out]; simp [HLL.out]; omega)
      refine put_live HLX2.out (by kernel_rfl) _ _ _ rfl rfl (k := wk) rfl (v := num) rfl (by omega) ?_
      intro X3 hm3 hb3
      have q3 : X3.cell? ⟨w.heap.size + 1, 0, none⟩ = some (.int .i64 wk) := hb3.cell (by simp; omega) q0
      have hend := HE.out HE0.out ⟨by omega, by omega⟩ (w.heap.size + 1) (by omega) ((W.drewN nx).drewN nx2) (bdrewN (bdrewN HBW.out _) _) X3 hb3 hm3 q3
      simp only [HLL.out] at hend
      have HEND := Lib.hid hend
      clear hend hm3 hb3
      by_cases h6 : 0 < L
      · have t6 : decide (0 < L) = true := by simpa using h6
        have H1 := Lib.hid (HEND.out.1 h6)
        go_wp2_with (go_at_call 110; go_must (refine (H1.out).mono ?_); rintro e w9 ⟨⟨v9, rfl⟩, hp9⟩)
        go_ret
        exact hp9
      · have t6 : decide (0 < L) = false := by simpa using h6
        have H1 := Lib.hid (HEND.out.2 (by omega))
        go_wp2_with (go_at_call 110; go_must (refine (H1.out).mono ?_); rintro e w9 ⟨⟨v9, rfl⟩, hp9⟩)
        go_ret
        exact hp9
  · by_cases h5 : L = 0
    · have t5 : (L == 0) = true := by simpa using h5
      go_wp2_with (at_lookup; refine look_live HLX.out HLV.out (by kernel_rfl) _ _ rfl rfl rfl ?_; rw [HLL.out])
      go_ret
      rw [HI.out 6 (by rw [HX.out, if_neg HN0.out]; simp [HLL.out, h5]) (by decide)]
      exact HS.out _ (bdrewN HBW.out _) 6
    · have t5 : (L == 0) = false := by simpa using h5
      by_cases h7 : L = num
      · have t7 : (L != num) = false := by simpa using h7
        go_wp2_with (at_lookup; refine look_live HLX.out HLV.out (by kernel_rfl) _ _ rfl rfl rfl ?_; rw [HLL.out])
        refine draws_tail 5 (by kernel_rfl) (by kernel_rfl) ?_
        simp only [List.take_succ_cons, List.take_zero, List.drop_succ_cons, List.drop_zero]
        repeat (go_big_quiet_step (fail))
        refine wpQuiet_nil ?_
        rintro X2 ⟨nx2, rfl⟩
        have HLX2 := Lib.hid (show MapF ((W.drewN nx).drewN nx2) (.int .i64) lm (livF c.lives) from HLW.out)
        have HE0 := Lib.hid (show workerE c _ = 0 from by rw [HX.out, if_neg HN0.out]; simp only [HLL.out]; rw [if_neg (show ¬ ((2 : Int) = 1) by decide), if_neg h5, if_neg (fun q => q h7)])
        refine del_live HLX2.out (by rfl) _ _ rfl rfl (k := wk) rfl ?_
        intro X3 hm3 hb3
        have q3 : X3.cell? ⟨w.heap.size + 1, 0, none⟩ = some (.int .i64 wk) := hb3.cell (by simp; omega) q0
        have hend := HE.out HE0.out ⟨by omega, by omega⟩ (w.heap.size + 1) (by omega) ((W.drewN nx).drewN nx2) (bdrewN (bdrewN HBW.out _) _) X3 hb3 hm3 q3
        simp only [HLL.out] at hend
        have HEND := Lib.hid hend
        clear hend hm3 hb3
        have h6 : 0 < L := by omega
        have t6 : decide (0 < L) = true := by simpa using h6
        have H1 := Lib.hid (HEND.out.1 h6)
        go_wp2_with (go_at_call 110; go_must (refine (H1.out).mono ?_); rintro e w9 ⟨⟨v9, rfl⟩, hp9⟩)
        go_ret
        exact hp9
      · have t7 : (L != num) = true := by simpa using h7
        go_wp2_with (at_lookup; refine look_live HLX.out HLV.out (by kernel_rfl) _ _ rfl rfl rfl ?_; rw [HLL.out])
        go_ret
        rw [HI.out 210 (by rw [HX.out, if_neg HN0.out]; simp [HLL.out, h5, h7]) (by decide)]
        exact HS.out _ (bdrewN HBW.out _) 210
end
end Go.Proofs.YtkjajlolfcioiaaGreatDoor.Control