/- copies of places, topics, steps. -/
import Derived.Test.YtkjajlolfcioiaaGreatDoorYCtlJa
import Derived.Test.YtkjajlolfcioiaaGreatDoorYCtlDt
namespace Go.Proofs.YtkjajlolfcioiaaGreatDoor.Control
open Go Go.RowKit Go.MapKept Go.Proofs Go.Proofs.YtkjajlolfcioiaaGreatDoor Go.Proofs.YtkjajlolfcioiaaGreatDoor.Own Go.Proofs.YtkjajlolfcioiaaGreatDoor.Tail Go.Proofs.YtkjajlolfcioiaaGreatDoor.Mp Go.Proofs.YtkjajlolfcioiaaGreatDoor.Ints Go.Proofs.YtkjajlolfcioiaaGreatDoor.Plan Go.Proofs.YtkjajlolfcioiaaGreatDoor.Check Go.Proofs.YtkjajlolfcioiaaGreatDoor.Graph Go.Proofs.YtkjajlolfcioiaaGreatDoor.Ctl
theorem sliceOfTop : SliceOf Tryz.prog 22 66 2 24 := sliceOf (z := .agg #[.string ⟨#[]⟩, .int .i64 0]) Tryz.underlying22 (by kernel_rfl) rfl (by decide)
theorem sliceOfStep : SliceOf Tryz.prog 67 118 3 32 := sliceOf (z := .agg #[.int .i64 0, .string ⟨#[]⟩, .int .i64 0]) Tryz.underlying67 (by kernel_rfl) rfl (by decide)
theorem src_of {w : World} {v : Value} {n size : Nat} {cs : List Value} {ad : Addr} {c : Nat} (h : SliceAt w v n cs) (e : v = .slice (some ad) n c) (hcs : cs.length = n * size) (h1 : ∀ u ∈ cs, u.oneCell' = true) : Src w size v n cs := by
  refine ⟨hcs, h1, .inr ⟨ad, c, e, fun j u hj => ?_⟩⟩
  obtain ⟨A, c', e', hc, hr⟩ := h
  have hn : 0 < n := by
    rcases Nat.eq_zero_or_pos n with h0 | h0
    · rw [h0, Nat.zero_mul] at hcs
      rw [List.eq_nil_of_length_eq_zero hcs] at hj
      simp at hj
    · exact h0
  obtain ⟨b, o, rfl, hcells⟩ := hr hn
  rw [e] at e'
  obtain rfl : ad = ⟨b, o, none⟩ := by simpa using (Value.slice.inj e').1
  have := hcells j u hj
  rwa [show (⟨b, o, none⟩ : Addr).add j = ⟨b, o + j, none⟩ from by unfold Addr.add; split <;> simp_all]
set_option maxHeartbeats 1000000 in
set_option maxRecDepth 100000 in
theorem cloneInts_calls (v : Value) (n : Nat) (cs : List Value) (w : World) (h : SliceAt w v n cs) (hl : n ≤ 1000) (hcs : cs.length = n * 1) (h1 : ∀ u ∈ cs, u.oneCell' = true) :
    Calls Tryz.prog 74 #[v] w (CopyPost w 3 1 n cs) := by
  have q : ∀ (w : World) (a : Option Addr) (n c : Nat), (binOp .eql 30 (.slice a n c) (.slice none 0 0)).run Tryz.prog w = .ok (.bool a.isNone) w := fun w a n c => Lib.run_eql_slice_nil w _ _ a n c 0 0 Tryz.underlying30
  obtain ⟨A, c, rfl, hc, hr⟩ := id h
  cases A with
  | none =>
    have hn : n = 0 := by
      rcases Nat.eq_zero_or_pos n with h0 | h0
      · exact h0
      · obtain ⟨b, o, e, -⟩ := hr h0
        cases e
    subst hn
    have : cs = [] := List.eq_nil_of_length_eq_zero (by simpa using hcs)
    subst this
    clear h hr
    go_enter Tryz.func74, Tryz.ntmps74
    go_wp2
    go_ret
    exact ⟨_, rfl, own_nil _ _ _ _, Below.refl _ _⟩
  | some ad =>
    have HSRC := Lib.hid (src_of h rfl hcs h1)
    clear h hr h1 hcs
    go_enter Tryz.func74, Tryz.ntmps74
    go_wp2_with (at_builtin; refine list_app sliceOfInt rfl _ _ rfl (base := w.heap.size) rfl (own_new w 3 1) rfl (HSRC.out.below (box_below _ _)) (by unfold maxLen; omega) (by omega) (by simp) ?_; intro v7 w7 ho7 hB7 hg7)
    go_ret
    exact ⟨v7, rfl, by simpa using ho7, (box_below _ _).trans hB7⟩
set_option maxHeartbeats 1000000 in
set_option maxRecDepth 100000 in
theorem cloneTops_calls (v : Value) (n : Nat) (cs : List Value) (w : World) (h : SliceAt w v n cs) (hl : n ≤ 1000) (hcs : cs.length = n * 2) (h1 : ∀ u ∈ cs, u.oneCell' = true) :
    Calls Tryz.prog 65 #[v] w (CopyPost w 66 2 n cs) := by
  have q : ∀ (w : World) (a : Option Addr) (n c : Nat), (binOp .eql 22 (.slice a n c) (.slice none 0 0)).run Tryz.prog w = .ok (.bool a.isNone) w := fun w a n c => Lib.run_eql_slice_nil w _ _ a n c 0 0 Tryz.underlying22
  obtain ⟨A, c, rfl, hc, hr⟩ := id h
  cases A with
  | none =>
    have hn : n = 0 := by
      rcases Nat.eq_zero_or_pos n with h0 | h0
      · exact h0
      · obtain ⟨b, o, e, -⟩ := hr h0
        cases e
    subst hn
    have : cs = [] := List.eq_nil_of_length_eq_zero (by simpa using hcs)
    subst this
    clear h hr
    go_enter Tryz.func65, Tryz.ntmps65
    go_wp2
    go_ret
    exact ⟨_, rfl, own_nil _ _ _ _, Below.refl _ _⟩
  | some ad =>
    have HSRC := Lib.hid (src_of h rfl hcs h1)
    clear h hr h1 hcs
    go_enter Tryz.func65, Tryz.ntmps65
    go_wp2_with (at_builtin; refine list_app sliceOfTop rfl _ _ rfl (base := w.heap.size) rfl (own_new w 66 2) rfl (HSRC.out.below (box_below _ _)) (by unfold maxLen; omega) (by omega) (by simp) ?_; intro v7 w7 ho7 hB7 hg7)
    go_ret
    exact ⟨v7, rfl, by simpa using ho7, (box_below _ _).trans hB7⟩
set_option maxHeartbeats 1000000 in
set_option maxRecDepth 100000 in
theorem cloneSteps_calls (v : Value) (n : Nat) (cs : List Value) (w : World) (h : SliceAt w v n cs) (hl : n ≤ 1000) (hcs : cs.length = n * 3) (h1 : ∀ u ∈ cs, u.oneCell' = true) :
    Calls Tryz.prog 66 #[v] w (CopyPost w 118 3 n cs) := by
  have q : ∀ (w : World) (a : Option Addr) (n c : Nat), (binOp .eql 67 (.slice a n c) (.slice none 0 0)).run Tryz.prog w = .ok (.bool a.isNone) w := fun w a n c => Lib.run_eql_slice_nil w _ _ a n c 0 0 Tryz.underlying67
  obtain ⟨A, c, rfl, hc, hr⟩ := id h
  cases A with
  | none =>
    have hn : n = 0 := by
      rcases Nat.eq_zero_or_pos n with h0 | h0
      · exact h0
      · obtain ⟨b, o, e, -⟩ := hr h0
        cases e
    subst hn
    have : cs = [] := List.eq_nil_of_length_eq_zero (by simpa using hcs)
    subst this
    clear h hr
    go_enter Tryz.func66, Tryz.ntmps66
    go_wp2
    go_ret
    exact ⟨_, rfl, own_nil _ _ _ _, Below.refl _ _⟩
  | some ad =>
    have HSRC := Lib.hid (src_of h rfl hcs h1)
    clear h hr h1 hcs
    go_enter Tryz.func66, Tryz.ntmps66
    go_wp2_with (at_builtin; refine list_app sliceOfStep rfl _ _ rfl (base := w.heap.size) rfl (own_new w 118 3) rfl (HSRC.out.below (box_below _ _)) (by unfold maxLen; omega) (by omega) (by simp) ?_; intro v7 w7 ho7 hB7 hg7)
    go_ret
    exact ⟨v7, rfl, by simpa using ho7, (box_below _ _).trans hB7⟩
end Go.Proofs.YtkjajlolfcioiaaGreatDoor.Control

/- control.Job, whole. -/
namespace Go.Proofs.YtkjajlolfcioiaaGreatDoor.Control
open Go Go.RowKit Go.MapKept Go.Proofs Go.Proofs.YtkjajlolfcioiaaGreatDoor Go.Proofs.YtkjajlolfcioiaaGreatDoor.Own Go.Proofs.YtkjajlolfcioiaaGreatDoor.Tail Go.Proofs.YtkjajlolfcioiaaGreatDoor.Mp Go.Proofs.YtkjajlolfcioiaaGreatDoor.Ints Go.Proofs.YtkjajlolfcioiaaGreatDoor.Plan Go.Proofs.YtkjajlolfcioiaaGreatDoor.Check Go.Proofs.YtkjajlolfcioiaaGreatDoor.Graph Go.Proofs.YtkjajlolfcioiaaGreatDoor.Ctl
theorem keysP_calls (mo : Option Nat) (w : World) : Calls Tryz.prog 70 #[.map mo] w fun e w' => e = .returned (.func (.func 108) #[] #[.pointer (some ⟨w.heap.size, 0, none⟩)]) ∧ w' = w.alloc (.cells #[.map mo] 120) := by
  go_enter Tryz.func70, Tryz.ntmps70
  go_wp2
  go_ret
  exact ⟨rfl, rfl⟩
def jobV (j : Jb) (pv av : Value) : Value := .agg #[.int .i64 j.att, .int .i64 j.rd, .int .i64 j.kp, .int .i64 j.done, .int .i64 j.num, .int .i64 j.next, pv, av]
/-- a job that is told: its places and parts lie in what was made since. -/
def JobOut (j : Jb) (w : World) (e : Ending) (w' : World) : Prop :=
  ∃ pv av, e = .returned (.tuple #[jobV j pv av, .int .i64 0]) ∧ Below w.heap.size w w' ∧ w'.ownsRow w.heap.size 3 1 pv j.places.length (j.places.map (Value.int .i64)) ∧ w'.ownsRow w.heap.size 75 2 av j.acked.length (j.acked.flatMap partCells)
theorem own_moved {w Y : World} {base E size n : Nat} {v : Value} {xs : List Value} (h : w.ownsRow base E size v n xs) (hY : ∀ k, base ≤ k → k < w.heap.size → Y.heap[k]? = w.heap[k]?) : Y.ownsRow base E size v n xs := by
  refine ⟨h.1, ?_⟩
  rcases h.2 with hn | ⟨g, cap, cur, hv, hg, hh, rest⟩
  · exact .inl hn
  · exact .inr ⟨g, cap, cur, hv, hg, (hY g hg (Array.getElem?_eq_some_iff.1 hh).1).trans hh, rest⟩
theorem AckAt.below {w X : World} {mo : Option Nat} {L : List (Int × Int)} (h : AckAt w mo L) (k : Below w.heap.size w X) : AckAt X mo L := by
  refine h.block fun m hm => k.block m ?_
  subst hm
  obtain ⟨f, hf, _⟩ := h
  exact hf.lt
section
variable {w : World} {cb : Nat} {c : Ct} {U : Nat → Prop} {tv fv : Value} {lm : Nat} {jv : Value} {fl : List FlwV} {xs : List JV}
set_option maxHeartbeats 4000000 in
set_option maxRecDepth 100000 in
theorem job_calls (h : CtlIs w cb c U tv fv lm jv fl xs) {n : Int} (hok : CtOk n c) {i : Nat} {x : JV} (hx : xs[i]? = some x) :
    Calls Tryz.prog 33 #[.pointer (some ⟨cb, 0, none⟩), .int .i64 (i : Int)] w (JobOut x.j w) := by
  have hxm := List.mem_of_getElem? hx
  have hxl := (List.getElem?_eq_some_iff.1 hx).1
  have hjm : x.j ∈ c.jobs := by rw [← h.jobs]; exact List.mem_map_of_mem hxm
  have hjo := (hok.jobs x.j hjm).1
  have hst := h.now
  have hcl := h.lt _ h.cbU
  have hbl := h.lt _ (h.inU _ (.inr ⟨x, hxm, .inl rfl⟩))
  have hbox := h.box x hxm
  have hctl := hst.ctl
  obtain ⟨A, cp, ej, hcj, hrj⟩ := hst.ptrs
  obtain ⟨jb, jo, rfl, hjc⟩ := hrj (by omega)
  have hacl := acked_len hjo
  have e3 : w.cell? ⟨cb, 3, none⟩ = some jv := by rw [cell_of_row _ _ _ _ _ _ hctl]; rfl
  rw [ej] at e3
  have ep : w.cell? ⟨jb, jo + i, none⟩ = some (.pointer (some ⟨x.b, 0, none⟩)) := hjc i _ (by rw [List.getElem?_map, hx]; rfl)
  have d0 : w.cell? ⟨x.b, 0, none⟩ = some (.int .i64 x.j.att) := hbox.cell rfl
  have d1 : w.cell? ⟨x.b, 1, none⟩ = some (.int .i64 x.j.rd) := hbox.cell rfl
  have d2 : w.cell? ⟨x.b, 2, none⟩ = some (.int .i64 x.j.kp) := hbox.cell rfl
  have d3 : w.cell? ⟨x.b, 3, none⟩ = some (.int .i64 x.j.done) := hbox.cell rfl
  have d4 : w.cell? ⟨x.b, 4, none⟩ = some (.int .i64 x.j.num) := hbox.cell rfl
  have d5 : w.cell? ⟨x.b, 5, none⟩ = some (.int .i64 x.j.next) := hbox.cell rfl
  have d6 : w.cell? ⟨x.b, 6, none⟩ = some x.pv := hbox.cell rfl
  have d7 : w.cell? ⟨x.b, 7, none⟩ = some (.map x.mo) := hbox.cell rfl
  have H0 := h.below (box_below w (.cells #[.int .i64 0, .int .i64 0, .int .i64 0, .int .i64 0, .int .i64 0, .int .i64 0, .slice none 0 0, .slice none 0 0] 55))
  have HPl := Lib.hid (hst.places x hxm)
  have HAc := Lib.hid (h.ack x hxm)
  have HSo := Lib.hid hjo.sorted
  have HLE := Lib.hid (show x.j.places.length ≤ 1000 from by
    rcases hjo.len with e | e
    · rw [e]; simp
    · have := hjo.rd; have := hjo.kp; omega)
  have HH := Lib.hid h
  have l0 : decide ((i : Int) < 0) = false := decide_eq_false (by omega)
  have l1 : decide ((xs.length : Int) ≤ (i : Int)) = false := decide_eq_false (by omega)
  have l4 : decide (xs.length ≤ i) = false := decide_eq_false (by omega)
  have hjl : jb < w.heap.size := lt_of_cell ep
  have l2 : (i : Int) < (xs.length : Int) := by omega
  have l3 : (0 : Int) ≤ (i : Int) := by omega
  clear hst hctl hbox hjo hjm hok h hjc hx H0
  obtain ⟨⟨catt, crd, ckp, cdone, cnum, cnext, cplaces, cacked⟩, pv, mo, b⟩ := x
  dsimp only at *
  go_enter Tryz.func33, Tryz.ntmps33
  go_wp2_with (first | (go_at_call 70; (with_reducible refine (keysP_calls _ _).mono ?_); rintro e w1 ⟨rfl, rfl⟩) | (go_at_call 69; (with_reducible refine (sortedP_calls mo cacked _ (w.heap.size + 1) (by simp) (cell_new (by simp) rfl) (HAc.out.below (balloc (box_below _ _) _)) HSo.out (by omega)).mono ?_); rintro e w2 ⟨av, rfl, hav, hB2⟩; obtain ⟨Av, cv, rfl, -, -, -, -⟩ := own_form hav; have HAV := Lib.hid hav; have HB2 := Lib.hid hB2; have k0 := kc hB2 (kc (balloc (box_below _ _) _) d0); have k1 := kc hB2 (kc (balloc (box_below _ _) _) d1); have k2 := kc hB2 (kc (balloc (box_below _ _) _) d2); have k3 := kc hB2 (kc (balloc (box_below _ _) _) d3); have k4 := kc hB2 (kc (balloc (box_below _ _) _) d4); have k5 := kc hB2 (kc (balloc (box_below _ _) _) d5); have k6 := kc hB2 (kc (balloc (box_below _ _) _) d6); clear hav hB2))
  refine wp_region_forced 31 (by kernel_rfl) (by kernel_rfl) ?_
  simp only [List.take_succ_cons, List.take_zero, List.drop_succ_cons, List.drop_zero, List.size_toArray, List.length_cons, List.length_nil, Nat.zero_add, Nat.reduceAdd]
  refine wpAny_of_held (S := fun X : World => X.cell? ⟨b, 0, none⟩ = some (.int .i64 catt) ∧ X.cell? ⟨b, 1, none⟩ = some (.int .i64 crd) ∧ X.cell? ⟨b, 2, none⟩ = some (.int .i64 ckp) ∧ X.cell? ⟨b, 3, none⟩ = some (.int .i64 cdone) ∧ X.cell? ⟨b, 4, none⟩ = some (.int .i64 cnum) ∧ X.cell? ⟨b, 5, none⟩ = some (.int .i64 cnext) ∧ X.cell? ⟨b, 6, none⟩ = some pv) _ _ _ _ ?_
  have hS0 : (fun X : World => X.cell? ⟨b, 0, none⟩ = some (.int .i64 catt) ∧ X.cell? ⟨b, 1, none⟩ = some (.int .i64 crd) ∧ X.cell? ⟨b, 2, none⟩ = some (.int .i64 ckp) ∧ X.cell? ⟨b, 3, none⟩ = some (.int .i64 cdone) ∧ X.cell? ⟨b, 4, none⟩ = some (.int .i64 cnum) ∧ X.cell? ⟨b, 5, none⟩ = some (.int .i64 cnext) ∧ X.cell? ⟨b, 6, none⟩ = some pv) w2.drew := ⟨k0, k1, k2, k3, k4, k5, k6⟩
  clear d0 d1 d2 d3 d4 d5 d6 d7 k0 k1 k2 k3 k4 k5 k6 e3 ep ej hrj
  refine wpAnyH_take (i := 0) (v := ?_) rfl (by kernel_rfl) (by kernel_rfl) (by kernel_rfl) (fun _ _ _ h => h) (Or.inl ⟨by rfl, ?_⟩) hS0 ?_
  rotate_left
  · intro w hSw; (try dsimp only at hSw); go_simp; (first | done | with_reducible rfl)
  simp only [Act.put, List.getElem_toArray, List.getElem_cons_zero, List.setIfInBounds_toArray, List.set_cons_zero, List.set_cons_succ]
  refine wpAnyH_take (i := 1) (v := ?_) rfl (by kernel_rfl) (by kernel_rfl) (by kernel_rfl) (fun _ _ _ h => h) (Or.inl ⟨by rfl, ?_⟩) hS0 ?_
  rotate_left
  · intro w hSw; (try dsimp only at hSw); go_simp; (first | done | with_reducible rfl)
  simp only [Act.put, List.getElem_toArray, List.getElem_cons_zero, List.getElem_cons_succ, List.setIfInBounds_toArray, List.set_cons_zero, List.set_cons_succ]
  refine wpAnyH_take (i := 2) (v := ?_) rfl (by kernel_rfl) (by kernel_rfl) (by kernel_rfl) (fun _ _ _ h => h) (Or.inl ⟨by rfl, ?_⟩) hS0 ?_
  rotate_left
  · intro w hSw; (try dsimp only at hSw); go_simp; (first | done | with_reducible rfl)
  simp only [Act.put, List.getElem_toArray, List.getElem_cons_zero, List.getElem_cons_succ, List.setIfInBounds_toArray, List.set_cons_zero, List.set_cons_succ]
  refine wpAnyH_take (i := 3) (v := ?_) rfl (by kernel_rfl) (by kernel_rfl) (by kernel_rfl) (fun _ _ _ h => h) (Or.inl ⟨by rfl, ?_⟩) hS0 ?_
  rotate_left
  · intro w hSw; (try dsimp only at hSw); go_simp; (first | done | with_reducible rfl)
  simp only [Act.put, List.getElem_toArray, List.getElem_cons_zero, List.getElem_cons_succ, List.setIfInBounds_toArray, List.set_cons_zero, List.set_cons_succ]
  refine wpAnyH_take (i := 4) (v := ?_) rfl (by kernel_rfl) (by kernel_rfl) (by kernel_rfl) (fun _ _ _ h => h) (Or.inl ⟨by rfl, ?_⟩) hS0 ?_
  rotate_left
  · intro w hSw; (try dsimp only at hSw); go_simp; (first | done | with_reducible rfl)
  simp only [Act.put, List.getElem_toArray, List.getElem_cons_zero, List.getElem_cons_succ, List.setIfInBounds_toArray, List.set_cons_zero, List.set_cons_succ]
  refine wpAnyH_take (i := 5) (v := ?_) rfl (by kernel_rfl) (by kernel_rfl) (by kernel_rfl) (fun _ _ _ h => h) (Or.inl ⟨by rfl, ?_⟩) hS0 ?_
  rotate_left
  · intro w hSw; (try dsimp only at hSw); go_simp; (first | done | with_reducible rfl)
  simp only [Act.put, List.getElem_toArray, List.getElem_cons_zero, List.getElem_cons_succ, List.setIfInBounds_toArray, List.set_cons_zero, List.set_cons_succ]
  refine wpAnyH_take (i := 6) (v := ?_) rfl (by kernel_rfl) (by kernel_rfl) (by kernel_rfl) (fun _ _ _ h => h) (Or.inl ⟨by rfl, ?_⟩) hS0 ?_
  rotate_left
  · intro w hSw; (try dsimp only at hSw); go_simp; (first | done | with_reducible rfl)
  simp only [Act.put, List.getElem_toArray, List.getElem_cons_zero, List.getElem_cons_succ, List.setIfInBounds_toArray, List.set_cons_zero, List.set_cons_succ]
  refine wpAnyH_take (i := 7) (v := ?_) rfl (by kernel_rfl) (by kernel_rfl) (by kernel_rfl) (fun _ _ _ h => h) (Or.inl ⟨by rfl, ?_⟩) hS0 ?_
  rotate_left
  · intro w hSw; (try dsimp only at hSw); go_simp; (first | done | with_reducible rfl)
  simp only [Act.put, List.getElem_toArray, List.getElem_cons_zero, List.getElem_cons_succ, List.setIfInBounds_toArray, List.set_cons_zero, List.set_cons_succ]
  refine wpAnyH_take (i := 8) (v := ?_) rfl (by kernel_rfl) (by kernel_rfl) (by kernel_rfl) (fun _ _ _ h => h) (Or.inl ⟨by rfl, ?_⟩) hS0 ?_
  rotate_left
  · intro w hSw; (try dsimp only at hSw); go_simp; (first | done | with_reducible rfl)
  simp only [Act.put, List.getElem_toArray, List.getElem_cons_zero, List.getElem_cons_succ, List.setIfInBounds_toArray, List.set_cons_zero, List.set_cons_succ]
  refine wpAnyH_take (i := 9) (v := ?_) rfl (by kernel_rfl) (by kernel_rfl) (by kernel_rfl) (fun _ _ _ h => h) (Or.inl ⟨by rfl, ?_⟩) hS0 ?_
  rotate_left
  · intro w hSw; (try dsimp only at hSw); go_simp; (first | done | with_reducible rfl)
  simp only [Act.put, List.getElem_toArray, List.getElem_cons_zero, List.getElem_cons_succ, List.setIfInBounds_toArray, List.set_cons_zero, List.set_cons_succ]
  refine wpAnyH_take (i := 10) (v := ?_) rfl (by kernel_rfl) (by kernel_rfl) (by kernel_rfl) (fun _ _ _ h => h) (Or.inl ⟨by rfl, ?_⟩) hS0 ?_
  rotate_left
  · intro w hSw; (try dsimp only at hSw); go_simp; (first | done | with_reducible rfl)
  simp only [Act.put, List.getElem_toArray, List.getElem_cons_zero, List.getElem_cons_succ, List.setIfInBounds_toArray, List.set_cons_zero, List.set_cons_succ]
  refine wpAnyH_take (i := 11) (v := ?_) rfl (by kernel_rfl) (by kernel_rfl) (by kernel_rfl) (fun _ _ _ h => h) (Or.inl ⟨by rfl, ?_⟩) hS0 ?_
  rotate_left
  · intro w hSw; (try dsimp only at hSw); go_simp; (first | done | with_reducible rfl)
  simp only [Act.put, List.getElem_toArray, List.getElem_cons_zero, List.getElem_cons_succ, List.setIfInBounds_toArray, List.set_cons_zero, List.set_cons_succ]
  refine wpAnyH_take (i := 12) (v := ?_) rfl (by kernel_rfl) (by kernel_rfl) (by kernel_rfl) (fun _ _ _ h => h) (Or.inl ⟨by rfl, ?_⟩) hS0 ?_
  rotate_left
  · intro w hSw; (try dsimp only at hSw); go_simp; (first | done | with_reducible rfl)
  simp only [Act.put, List.getElem_toArray, List.getElem_cons_zero, List.getElem_cons_succ, List.setIfInBounds_toArray, List.set_cons_zero, List.set_cons_succ]
  refine wpAnyH_take (i := 13) (v := ?_) rfl (by kernel_rfl) (by kernel_rfl) (by kernel_rfl) (fun _ _ _ h => h) (Or.inl ⟨by rfl, ?_⟩) hS0 ?_
  rotate_left
  · intro w hSw; (try dsimp only at hSw); go_simp; (first | done | with_reducible rfl)
  simp only [Act.put, List.getElem_toArray, List.getElem_cons_zero, List.getElem_cons_succ, List.setIfInBounds_toArray, List.set_cons_zero, List.set_cons_succ]
  refine wpAnyH_take (i := 14) (v := ?_) rfl (by kernel_rfl) (by kernel_rfl) (by kernel_rfl) (fun _ _ _ h => h) (Or.inl ⟨by rfl, ?_⟩) hS0 ?_
  rotate_left
  · intro w hSw; (try dsimp only at hSw); go_simp; (first | done | with_reducible rfl)
  simp only [Act.put, List.getElem_toArray, List.getElem_cons_zero, List.getElem_cons_succ, List.setIfInBounds_toArray, List.set_cons_zero, List.set_cons_succ]
  refine wpAnyH_take (i := 15) (v := ?_) rfl (by kernel_rfl) (by kernel_rfl) (by kernel_rfl) (fun _ _ _ h => h) (Or.inl ⟨by rfl, ?_⟩) hS0 ?_
  rotate_left
  · intro w hSw; (try dsimp only at hSw); go_simp; (first | done | with_reducible rfl)
  simp only [Act.put, List.getElem_toArray, List.getElem_cons_zero, List.getElem_cons_succ, List.setIfInBounds_toArray, List.set_cons_zero, List.set_cons_succ]
  refine wpAnyH_take (i := 16) (v := ?_) rfl (by kernel_rfl) (by kernel_rfl) (by kernel_rfl) (fun _ _ _ h => h) (Or.inl ⟨by rfl, ?_⟩) hS0 ?_
  rotate_left
  · intro w hSw; (try dsimp only at hSw); go_simp; (first | done | with_reducible rfl)
  simp only [Act.put, List.getElem_toArray, List.getElem_cons_zero, List.getElem_cons_succ, List.setIfInBounds_toArray, List.set_cons_zero, List.set_cons_succ]
  refine wpAnyH_take (i := 17) (v := ?_) rfl (by kernel_rfl) (by kernel_rfl) (by kernel_rfl) (fun _ _ _ h => h) (Or.inl ⟨by rfl, ?_⟩) hS0 ?_
  rotate_left
  · intro w hSw; (try dsimp only at hSw); go_simp; (first | done | with_reducible rfl)
  simp only [Act.put, List.getElem_toArray, List.getElem_cons_zero, List.getElem_cons_succ, List.setIfInBounds_toArray, List.set_cons_zero, List.set_cons_succ]
  refine wpAnyH_take (i := 18) (v := ?_) rfl (by kernel_rfl) (by kernel_rfl) (by kernel_rfl) (fun _ _ _ h => h) (Or.inl ⟨by rfl, ?_⟩) hS0 ?_
  rotate_left
  · intro w hSw; (try dsimp only at hSw); go_simp; (first | done | with_reducible rfl)
  simp only [Act.put, List.getElem_toArray, List.getElem_cons_zero, List.getElem_cons_succ, List.setIfInBounds_toArray, List.set_cons_zero, List.set_cons_succ]
  refine wpAnyH_take (i := 19) (v := ?_) rfl (by kernel_rfl) (by kernel_rfl) (by kernel_rfl) (fun _ _ _ h => h) (Or.inl ⟨by rfl, ?_⟩) hS0 ?_
  rotate_left
  · intro w hSw; (try dsimp only at hSw); go_simp; (first | done | with_reducible rfl)
  simp only [Act.put, List.getElem_toArray, List.getElem_cons_zero, List.getElem_cons_succ, List.setIfInBounds_toArray, List.set_cons_zero, List.set_cons_succ]
  refine wpAnyH_take (i := 20) (v := ?_) rfl (by kernel_rfl) (by kernel_rfl) (by kernel_rfl) (fun _ _ _ h => h) (Or.inl ⟨by rfl, ?_⟩) hS0 ?_
  rotate_left
  · intro w hSw; (try dsimp only at hSw); go_simp; (first | done | with_reducible rfl)
  simp only [Act.put, List.getElem_toArray, List.getElem_cons_zero, List.getElem_cons_succ, List.setIfInBounds_toArray, List.set_cons_zero, List.set_cons_succ]
  refine wpAnyH_take (i := 21) (v := ?_) rfl (by kernel_rfl) (by kernel_rfl) (by kernel_rfl) (fun _ _ _ h => h) (Or.inl ⟨by rfl, ?_⟩) hS0 ?_
  rotate_left
  · intro w hSw; (try dsimp only at hSw); go_simp; (first | done | with_reducible rfl)
  simp only [Act.put, List.getElem_toArray, List.getElem_cons_zero, List.getElem_cons_succ, List.setIfInBounds_toArray, List.set_cons_zero, List.set_cons_succ]
  refine wpAnyH_take (i := 22) (v := ?_) rfl (by kernel_rfl) (by kernel_rfl) (by kernel_rfl) (fun _ _ _ h => h) (Or.inl ⟨by rfl, ?_⟩) hS0 ?_
  rotate_left
  · intro w hSw; (try dsimp only at hSw); go_simp; (first | done | with_reducible rfl)
  simp only [Act.put, List.getElem_toArray, List.getElem_cons_zero, List.getElem_cons_succ, List.setIfInBounds_toArray, List.set_cons_zero, List.set_cons_succ]
  refine wpAnyH_take (i := 23) (v := ?_) rfl (by kernel_rfl) (by kernel_rfl) (by kernel_rfl) (fun _ _ _ h => h) (Or.inl ⟨by rfl, ?_⟩) hS0 ?_
  rotate_left
  · intro w hSw; (try dsimp only at hSw); go_simp; (first | done | with_reducible rfl)
  simp only [Act.put, List.getElem_toArray, List.getElem_cons_zero, List.getElem_cons_succ, List.setIfInBounds_toArray, List.set_cons_zero, List.set_cons_succ]
  refine wpAnyH_take (i := 24) (v := ?_) rfl (by kernel_rfl) (by kernel_rfl) (by kernel_rfl) (fun _ _ _ h => h) (Or.inl ⟨by rfl, ?_⟩) hS0 ?_
  rotate_left
  · intro w hSw; (try dsimp only at hSw); go_simp; (first | done | with_reducible rfl)
  simp only [Act.put, List.getElem_toArray, List.getElem_cons_zero, List.getElem_cons_succ, List.setIfInBounds_toArray, List.set_cons_zero, List.set_cons_succ]
  refine wpAnyH_take (i := 25) (v := ?_) rfl (by kernel_rfl) (by kernel_rfl) (by kernel_rfl) (fun _ _ _ h => h) (Or.inl ⟨by rfl, ?_⟩) hS0 ?_
  rotate_left
  · intro w hSw; (try dsimp only at hSw); go_simp; (first | done | with_reducible rfl)
  simp only [Act.put, List.getElem_toArray, List.getElem_cons_zero, List.getElem_cons_succ, List.setIfInBounds_toArray, List.set_cons_zero, List.set_cons_succ]
  refine wpAnyH_take (i := 26) (v := ?_) rfl (by kernel_rfl) (by kernel_rfl) (by kernel_rfl) (fun _ _ _ h => h) (Or.inl ⟨by rfl, ?_⟩) hS0 ?_
  rotate_left
  · intro w hSw; (try dsimp only at hSw); go_simp; (first | done | with_reducible rfl)
  simp only [Act.put, List.getElem_toArray, List.getElem_cons_zero, List.getElem_cons_succ, List.setIfInBounds_toArray, List.set_cons_zero, List.set_cons_succ]
  refine wpAnyH_take (i := 27) (v := ?_) rfl (by kernel_rfl) (by kernel_rfl) (by kernel_rfl) (fun _ _ _ h => h) (Or.inl ⟨by rfl, ?_⟩) hS0 ?_
  rotate_left
  · intro w hSw; (try dsimp only at hSw); go_simp; (first | done | with_reducible rfl)
  simp only [Act.put, List.getElem_toArray, List.getElem_cons_zero, List.getElem_cons_succ, List.setIfInBounds_toArray, List.set_cons_zero, List.set_cons_succ]
  refine wpAnyH_take (i := 29) (v := ?_) rfl (by kernel_rfl) (by kernel_rfl) (by kernel_rfl) (fun _ _ _ h => h) (Or.inl ⟨by rfl, ?_⟩) hS0 ?_
  rotate_left
  · intro w hSw; (try dsimp only at hSw); go_simp; (first | done | with_reducible rfl)
  simp only [Act.put, List.getElem_toArray, List.getElem_cons_zero, List.getElem_cons_succ, List.setIfInBounds_toArray, List.set_cons_zero, List.set_cons_succ]
  refine wpAnyH_ready (rs := [28]) (by kernel_rfl) (by simp) ?_
  refine AllReadyH.cons rfl (fun K hK => ?_) AllReadyH.nil
  go_simp
  (with_reducible refine (cloneInts_calls pv _ _ _ (SliceAt.below HPl.out (((balloc (box_below _ _) _).trans (HB2.out.mono (by simp; omega))).drew)) (by simpa using HLE.out) (by simp) (by intro u hu; obtain ⟨k, -, rfl⟩ := List.mem_map.1 hu; simp [Value.oneCell'])).mono ?_)
  rintro e w3 ⟨qv, rfl, hqv, hB3⟩
  obtain ⟨Aq, cq, rfl, -, -, -, -⟩ := own_form hqv
  refine hK.out _ _ ⟨kc hB3 hS0.1, kc hB3 hS0.2.1, kc hB3 hS0.2.2.1, kc hB3 hS0.2.2.2.1, kc hB3 hS0.2.2.2.2.1, kc hB3 hS0.2.2.2.2.2.1, kc hB3 hS0.2.2.2.2.2.2⟩ (fun hS3 => ?_)
  clear hK K
  try simp only [Act.put, List.setIfInBounds_toArray, List.set_cons_zero, List.set_cons_succ]
  refine wpAnyH_ready (rs := [30]) (by kernel_rfl) (by simp) ?_
  refine AllReadyH.cons rfl (fun K hK => ?_) AllReadyH.nil
  go_simp
  refine hK.out _ _ hS3 (fun hS4 => ?_)
  clear hK K
  try simp only [Act.put, List.setIfInBounds_toArray, List.set_cons_zero, List.set_cons_succ]
  refine wpAnyH_done (by kernel_rfl) ?_ _
  show wpList _ _ _ _ _ _
  have hBB : Below (w.alloc (.cells #[.int .i64 0, .int .i64 0, .int .i64 0, .int .i64 0, .int .i64 0, .int .i64 0, .slice none 0 0, .slice none 0 0] 55)).heap.size (w.alloc (.cells #[.int .i64 0, .int .i64 0, .int .i64 0, .int .i64 0, .int .i64 0, .int .i64 0, .slice none 0 0, .slice none 0 0] 55)) w3 := go (go (box_below _ _) HB2.out).drew hB3
  have z : ∀ (j : Nat) (u : Value), #[Value.int .i64 0, .int .i64 0, .int .i64 0, .int .i64 0, .int .i64 0, .int .i64 0, .slice none 0 0, .slice none 0 0][j]? = some u → w3.cell? ⟨w.heap.size, j, none⟩ = some u ∧ w3.frozen? ⟨w.heap.size, j, none⟩ = false := fun j u hj => ⟨kc hBB (cell_new rfl hj), kf hBB (v := u) (cell_new rfl hj) (frozen_new (by simp))⟩
  obtain ⟨z0, y0⟩ := z 0 _ rfl
  obtain ⟨z1, y1⟩ := z 1 _ rfl
  obtain ⟨z2, y2⟩ := z 2 _ rfl
  obtain ⟨z3, y3⟩ := z 3 _ rfl
  obtain ⟨z4, y4⟩ := z 4 _ rfl
  obtain ⟨z5, y5⟩ := z 5 _ rfl
  obtain ⟨z6, y6⟩ := z 6 _ rfl
  obtain ⟨z7, y7⟩ := z 7 _ rfl
  have HQ := Lib.hid hqv
  have HB3 := Lib.hid hB3
  have HBB := Lib.hid hBB
  have HLU := Lib.hid (show w.heap.size < ((w.alloc (.cells #[.int .i64 0, .int .i64 0, .int .i64 0, .int .i64 0, .int .i64 0, .int .i64 0, .slice none 0 0, .slice none 0 0] 55)).alloc (.cells #[.map mo] 120)).heap.size from by simp; omega)
  have HLT := Lib.hid (show w.heap.size < w2.drew.heap.size from by have h1 := HB2.out.size; have h2 := HLU.out; exact Nat.lt_of_lt_of_le h2 h1)
  clear hqv hB3 hBB z
  go_wp2
  have hb0 : w3.heap[w.heap.size]? = some (.cells #[.int .i64 0, .int .i64 0, .int .i64 0, .int .i64 0, .int .i64 0, .int .i64 0, .slice none 0 0, .slice none 0 0] 55) := (HBB.out.block _ (by simp)).trans (heap_new _ _)
  have hb1 := set_cell_heap (i := 0) (.int .i64 catt) hb0
  have hb2 := set_cell_heap (i := 1) (.int .i64 crd) hb1
  have hb3 := set_cell_heap (i := 2) (.int .i64 ckp) hb2
  have hb4 := set_cell_heap (i := 3) (.int .i64 cdone) hb3
  have hb5 := set_cell_heap (i := 4) (.int .i64 cnum) hb4
  have hb6 := set_cell_heap (i := 5) (.int .i64 cnext) hb5
  have hb7 := set_cell_heap (i := 6) (.slice Aq cplaces.length cq) hb6
  have hb8 := set_cell_heap (i := 7) (.slice Av cacked.length cv) hb7
  simp only [List.setIfInBounds_toArray, List.set_cons_zero, List.set_cons_succ] at hb8
  have HF := Lib.hid (own_put (b := w.heap.size) (i := 7) (own_put (b := w.heap.size) (i := 6) (own_put (b := w.heap.size) (i := 5) (own_put (b := w.heap.size) (i := 4) (own_put (b := w.heap.size) (i := 3) (own_put (b := w.heap.size) (i := 2) (own_put (b := w.heap.size) (i := 1) (own_put (b := w.heap.size) (i := 0) HQ.out (.int .i64 catt) HLT.out) (.int .i64 crd) HLT.out) (.int .i64 ckp) HLT.out) (.int .i64 cdone) HLT.out) (.int .i64 cnum) HLT.out) (.int .i64 cnext) HLT.out) (.slice Aq cplaces.length cq) HLT.out) (.slice Av cacked.length cv) HLT.out)
  have HG := Lib.hid (own_put (b := w.heap.size) (i := 7) (own_put (b := w.heap.size) (i := 6) (own_put (b := w.heap.size) (i := 5) (own_put (b := w.heap.size) (i := 4) (own_put (b := w.heap.size) (i := 3) (own_put (b := w.heap.size) (i := 2) (own_put (b := w.heap.size) (i := 1) (own_put (b := w.heap.size) (i := 0) (own_kept HAV.out ((Below.refl _ _).drew.trans HB3.out)) (.int .i64 catt) HLU.out) (.int .i64 crd) HLU.out) (.int .i64 ckp) HLU.out) (.int .i64 cdone) HLU.out) (.int .i64 cnum) HLU.out) (.int .i64 cnext) HLU.out) (.slice Aq cplaces.length cq) HLU.out) (.slice Av cacked.length cv) HLU.out)
  have HBW : Below w.heap.size w ((((((((w3.setCell ⟨w.heap.size, 0, none⟩ (.int .i64 catt)).setCell ⟨w.heap.size, 1, none⟩ (.int .i64 crd)).setCell ⟨w.heap.size, 2, none⟩ (.int .i64 ckp)).setCell ⟨w.heap.size, 3, none⟩ (.int .i64 cdone)).setCell ⟨w.heap.size, 4, none⟩ (.int .i64 cnum)).setCell ⟨w.heap.size, 5, none⟩ (.int .i64 cnext)).setCell ⟨w.heap.size, 6, none⟩ (.slice Aq cplaces.length cq)).setCell ⟨w.heap.size, 7, none⟩ (.slice Av cacked.length cv)) := by
    exact (((((((((go (box_below _ _) HBB.out : Below w.heap.size w w3).setCell (p := ⟨w.heap.size, 0, none⟩) (Nat.le_refl _) _).setCell (p := ⟨w.heap.size, 1, none⟩) (Nat.le_refl _) _).setCell (p := ⟨w.heap.size, 2, none⟩) (Nat.le_refl _) _).setCell (p := ⟨w.heap.size, 3, none⟩) (Nat.le_refl _) _).setCell (p := ⟨w.heap.size, 4, none⟩) (Nat.le_refl _) _).setCell (p := ⟨w.heap.size, 5, none⟩) (Nat.le_refl _) _).setCell (p := ⟨w.heap.size, 6, none⟩) (Nat.le_refl _) _).setCell (p := ⟨w.heap.size, 7, none⟩) (Nat.le_refl _) _)
  obtain ⟨W8, hW8⟩ : ∃ W8, ((((((((w3.setCell ⟨w.heap.size, 0, none⟩ (.int .i64 catt)).setCell ⟨w.heap.size, 1, none⟩ (.int .i64 crd)).setCell ⟨w.heap.size, 2, none⟩ (.int .i64 ckp)).setCell ⟨w.heap.size, 3, none⟩ (.int .i64 cdone)).setCell ⟨w.heap.size, 4, none⟩ (.int .i64 cnum)).setCell ⟨w.heap.size, 5, none⟩ (.int .i64 cnext)).setCell ⟨w.heap.size, 6, none⟩ (.slice Aq cplaces.length cq)).setCell ⟨w.heap.size, 7, none⟩ (.slice Av cacked.length cv)) = W8 := ⟨_, rfl⟩
  rw [hW8] at hb8 HF HG HBW ⊢
  have HBW := Lib.hid HBW
  clear hW8 hb0 hb1 hb2 hb3 hb4 hb5 hb6 hb7
  have v0 : W8.cell? ⟨w.heap.size, 0, none⟩ = some (.int .i64 catt) := by rw [cell_of_row _ _ _ _ _ _ hb8]; rfl
  have v1 : W8.cell? ⟨w.heap.size, 1, none⟩ = some (.int .i64 crd) := by rw [cell_of_row _ _ _ _ _ _ hb8]; rfl
  have v2 : W8.cell? ⟨w.heap.size, 2, none⟩ = some (.int .i64 ckp) := by rw [cell_of_row _ _ _ _ _ _ hb8]; rfl
  have v3 : W8.cell? ⟨w.heap.size, 3, none⟩ = some (.int .i64 cdone) := by rw [cell_of_row _ _ _ _ _ _ hb8]; rfl
  have v4 : W8.cell? ⟨w.heap.size, 4, none⟩ = some (.int .i64 cnum) := by rw [cell_of_row _ _ _ _ _ _ hb8]; rfl
  have v5 : W8.cell? ⟨w.heap.size, 5, none⟩ = some (.int .i64 cnext) := by rw [cell_of_row _ _ _ _ _ _ hb8]; rfl
  have v6 : W8.cell? ⟨w.heap.size, 6, none⟩ = some (.slice Aq cplaces.length cq) := by rw [cell_of_row _ _ _ _ _ _ hb8]; rfl
  have v7 : W8.cell? ⟨w.heap.size, 7, none⟩ = some (.slice Av cacked.length cv) := by rw [cell_of_row _ _ _ _ _ _ hb8]; rfl
  clear z0 z1 z2 z3 z4 z5 z6 z7 y0 y1 y2 y3 y4 y5 y6 y7
  refine bodyPost_ret (v := .tuple #[jobV ⟨catt, crd, ckp, cdone, cnum, cnext, cplaces, cacked⟩ (.slice Aq cplaces.length cq) (.slice Av cacked.length cv), .int .i64 0]) ?_ rfl ?_
  · unfold jobV
    simp [results, Tryz.f33]
    go_simp
  · exact ⟨_, _, rfl, HBW.out, own_base HF.out (Nat.le_of_lt HLT.out), own_base HG.out (Nat.le_of_lt HLU.out)⟩
end
end Go.Proofs.YtkjajlolfcioiaaGreatDoor.Control

/- control.New: what lies in memory, round by round. -/
namespace Go.Proofs.YtkjajlolfcioiaaGreatDoor.Control
open Go Go.RowKit Go.MapKept Go.Maps Go.Proofs Go.Proofs.YtkjajlolfcioiaaGreatDoor Go.Proofs.YtkjajlolfcioiaaGreatDoor.Expr Go.Proofs.YtkjajlolfcioiaaGreatDoor.Own Go.Proofs.YtkjajlolfcioiaaGreatDoor.Tail Go.Proofs.YtkjajlolfcioiaaGreatDoor.Mp Go.Proofs.YtkjajlolfcioiaaGreatDoor.Ints Go.Proofs.YtkjajlolfcioiaaGreatDoor.Plan Go.Proofs.YtkjajlolfcioiaaGreatDoor.Check Go.Proofs.YtkjajlolfcioiaaGreatDoor.Graph Go.Proofs.YtkjajlolfcioiaaGreatDoor.Ctl
theorem own_kp {S : Nat → Prop} {w W : World} {base E size n : Nat} {v : Value} {xs : List Value} (h : w.ownsRow base E size v n xs) (k : Kp S w W) (hS : ∀ g cur, w.heap[g]? = some (.cells cur E) → base ≤ g → ¬ S g) : W.ownsRow base E size v n xs := by
  refine ⟨h.1, ?_⟩
  rcases h.2 with hn | ⟨g, cap, cur, hv, hg, hh, rest⟩
  · exact .inl hn
  · exact .inr ⟨g, cap, cur, hv, hg, (k.block g (Array.getElem?_eq_some_iff.1 hh).1 (hS g cur hh hg)).trans hh, rest⟩
theorem own_type {w : World} {base E size n : Nat} {v : Value} {xs : List Value} (h : w.ownsRow base E size v n xs) {g : Nat} (hg : some g = v.ownBlock) : ∃ cur, w.heap[g]? = some (.cells cur E) := by
  rcases h.2 with ⟨rfl, _⟩ | ⟨g', cap, cur, rfl, _, hh, _⟩
  · cases hg
  · obtain rfl : g = g' := by simpa [Value.ownBlock] using hg
    exact ⟨cur, hh⟩
theorem own_other {w W : World} {base E size n : Nat} {v : Value} {xs : List Value} {base2 E2 size2 n2 : Nat} {v2 : Value} {xs2 : List Value} (h : w.ownsRow base E size v n xs) (h2 : w.ownsRow base2 E2 size2 v2 n2 xs2) (hne : E ≠ E2) (hg : w.grownBy W v2.ownBlock) : W.ownsRow base E size v n xs := by
  refine ⟨h.1, ?_⟩
  rcases h.2 with hn | ⟨g, cap, cur, hv, hb, hh, rest⟩
  · exact .inl hn
  · refine .inr ⟨g, cap, cur, hv, hb, (hg.block g (Array.getElem?_eq_some_iff.1 hh).1 fun e => ?_).trans hh, rest⟩
    obtain ⟨cur2, hc⟩ := own_type h2 e
    rw [hh] at hc
    simp only [Option.some.injEq, Obj.cells.injEq] at hc
    exact hne hc.2.1
theorem Kp.of_grown {S : Nat → Prop} {w W : World} {row : Option Nat} (hg : w.grownBy W row) (hr : ∀ b, row = some b → S b) : Kp S w W :=
  ⟨hg.os, hg.tape, hg.output, hg.size, fun k hk hs => hg.block k hk fun e => hs (hr k e.symm)⟩
theorem Kp.set {S : Nat → Prop} (w : World) {b i : Nat} (v : Value) (hb : S b) : Kp S w (w.setCell ⟨b, i, none⟩ v) := Kp.of_but ((But.refl b w).setCell i v) hb
theorem Kp.then {S : Nat → Prop} {a b c : World} (h : Kp S a b) (k : Kp S b c) : Kp S a c := h.trans k fun _ _ e => e
theorem cell_grew {a b : World} {row : Option Nat} {p : Addr} {v : Value} (hg : a.grownBy b row) (hp : row ≠ some p.block) (h : a.cell? p = some v) : b.cell? p = some v :=
  (World.cell?_of_block (hg.block _ (lt_of_cell h) (fun e => hp e.symm))).trans h
def newJ (f : Flw) : Jb := ⟨0, f.readers, f.keepers, 0, 0, 1, [], []⟩
structure NewAt (w : World) (B cb lm : Nat) (tv : Value) (tops : List Top) (fl : List FlwV) (k : Nat) (fv jv : Value) (flk : List FlwV) (xs : List JV) (wr : World) : Prop where
  bel : Below w.heap.size w wr
  ctl : wr.heap[cb]? = some (.cells #[tv, fv, .map (some lm), jv] 115)
  map : wr.heap[lm]? = some (.map #[] 0)
  tops : wr.ownsRow w.heap.size 66 2 tv tops.length (tops.flatMap topCells)
  flows : wr.ownsRow B 71 12 fv flk.length (flk.flatMap flwvCells)
  ptrs : wr.ownsRow B 119 1 jv xs.length (xs.map fun x => .pointer (some ⟨x.b, 0, none⟩))
  fs : flk.map (·.f) = (fl.take k).map (·.f)
  js : xs.map (·.j) = ((fl.take k).map (·.f)).map newJ
  pre : ∀ x ∈ flk, wr.ownsRow B 118 3 x.pv x.f.pre.length (x.f.pre.flatMap stpCells)
  post : ∀ x ∈ flk, wr.ownsRow B 118 3 x.qv x.f.post.length (x.f.post.flatMap stpCells)
  job : ∀ x ∈ xs, x.pv = .slice none 0 0 ∧ x.mo = none ∧ B ≤ x.b ∧ JobBox wr x.b x.j x.pv x.mo
  apart : xs.Pairwise fun x y => x.b ≠ y.b
  at0 : w.heap.size ≤ lm ∧ lm < cb ∧ cb < B ∧ B ≤ wr.heap.size
/-- what a round may turn of what was there. -/
def NewS (cb : Nat) (fv jv : Value) (i : Nat) : Prop := i = cb ∨ some i = fv.ownBlock ∨ some i = jv.ownBlock
section
variable {w wr W : World} {B cb lm : Nat} {tv : Value} {tops : List Top} {fl : List FlwV} {k : Nat} {fv jv : Value} {flk : List FlwV} {xs : List JV}
theorem NewAt.notS (h : NewAt w B cb lm tv tops fl k fv jv flk xs wr) {g : Nat} {o : Obj} (hg : wr.heap[g]? = some o) (h1 : ∀ cur, o ≠ .cells cur 71) (h2 : ∀ cur, o ≠ .cells cur 119) (h3 : ∀ cur, o ≠ .cells cur 115) : ¬ NewS cb fv jv g := by
  rintro (e | e | e)
  · subst e
    have := h.ctl
    rw [hg] at this
    exact h3 _ (Option.some.inj this)
  · obtain ⟨cur, hc⟩ := own_type h.flows e
    rw [hg] at hc
    exact h1 _ (Option.some.inj hc)
  · obtain ⟨cur, hc⟩ := own_type h.ptrs e
    rw [hg] at hc
    exact h2 _ (Option.some.inj hc)
theorem NewAt.step (h : NewAt w B cb lm tv tops fl k fv jv flk xs wr) (hk : Kp (NewS cb fv jv) wr W) {x : FlwV} (hx : fl[k]? = some x) {fv' jv' pv qv : Value} {b : Nat}
    (hc : W.heap[cb]? = some (.cells #[tv, fv', .map (some lm), jv'] 115)) (hf : W.ownsRow B 71 12 fv' (flk.length + 1) (flk.flatMap flwvCells ++ flwvCells ⟨x.f, pv, qv⟩))
    (hj : W.ownsRow B 119 1 jv' (xs.length + 1) ((xs.map fun x => .pointer (some ⟨x.b, 0, none⟩)) ++ [.pointer (some ⟨b, 0, none⟩)]))
    (hp : W.ownsRow B 118 3 pv x.f.pre.length (x.f.pre.flatMap stpCells)) (hq : W.ownsRow B 118 3 qv x.f.post.length (x.f.post.flatMap stpCells))
    (hb : wr.heap.size ≤ b) (hbox : JobBox W b (newJ x.f) (.slice none 0 0) none) :
    NewAt w B cb lm tv tops fl (k + 1) fv' jv' (flk ++ [⟨x.f, pv, qv⟩]) (xs ++ [⟨newJ x.f, .slice none 0 0, none, b⟩]) W := by
  have hB := h.at0
  have htake : fl.take (k + 1) = fl.take k ++ [x] := by rw [List.take_add_one, hx]; rfl
  refine ⟨h.bel.trans (hk.below (B := w.heap.size) (Nat.le_trans hB.1 (by omega)) ?_), hc, (hk.block lm (by omega) (h.notS h.map (fun _ e => by cases e) (fun _ e => by cases e) (fun _ e => by cases e))).trans h.map, own_kp h.tops hk fun g cur hg _ => h.notS hg (fun _ e => by cases e) (fun _ e => by cases e) (fun _ e => by cases e), ?_, ?_, ?_, ?_, ?_, ?_, ?_, ?_, ⟨hB.1, hB.2.1, hB.2.2.1, Nat.le_trans hB.2.2.2 hk.size⟩⟩
  · rintro i (e | e | e)
    · omega
    · have := own_blk h.flows i e.symm
      omega
    · have := own_blk h.ptrs i e.symm
      omega
  · simpa using hf
  · simpa using hj
  · rw [htake, List.map_append, List.map_append, h.fs]
    rfl
  · rw [htake, List.map_append, List.map_append, List.map_append, h.js]
    rfl
  · intro y hy
    rcases List.mem_append.1 hy with hy | hy
    · exact own_kp (h.pre y hy) hk fun g cur hg _ => h.notS hg (fun _ e => by cases e) (fun _ e => by cases e) (fun _ e => by cases e)
    · rw [List.mem_singleton] at hy
      subst hy
      exact hp
  · intro y hy
    rcases List.mem_append.1 hy with hy | hy
    · exact own_kp (h.post y hy) hk fun g cur hg _ => h.notS hg (fun _ e => by cases e) (fun _ e => by cases e) (fun _ e => by cases e)
    · rw [List.mem_singleton] at hy
      subst hy
      exact hq
  · intro y hy
    rcases List.mem_append.1 hy with hy | hy
    · obtain ⟨h1, h2, h3, h4⟩ := h.job y hy
      exact ⟨h1, h2, h3, h4.block (hk.block _ h4.lt (h.notS h4 (fun _ e => by cases e) (fun _ e => by cases e) (fun _ e => by cases e)))⟩
    · rw [List.mem_singleton] at hy
      subst hy
      exact ⟨rfl, rfl, by show B ≤ b; omega, hbox⟩
  · rw [List.pairwise_append]
    refine ⟨h.apart, List.pairwise_singleton _ _, fun y hy z hz => ?_⟩
    rw [List.mem_singleton] at hz
    subst hz
    have := (h.job y hy).2.2.2.lt
    show y.b ≠ b
    omega
theorem NewAt.end (h : NewAt w B cb lm tv tops fl fl.length fv jv flk xs W) (hT : Tab w) (hg : 5 < w.heap.size) (hS : SmallFlows fl) : CtlIs W cb (newC tops (fl.map (·.f))) (fun i => w.heap.size ≤ i ∧ i < W.heap.size) tv fv lm jv flk xs := by
  have hB := h.at0
  have hfs : flk.map (·.f) = fl.map (·.f) := by rw [h.fs, List.take_length]
  have hmut : ∀ i, Mut lm xs i → i = lm ∨ ∃ x ∈ xs, i = x.b := by
    rintro i (e | ⟨x, hx, e | e⟩)
    · exact .inl e
    · exact .inr ⟨x, hx, e⟩
    · rw [(h.job x hx).2.1] at e
      cases e
  have hnm : ∀ g o, W.heap[g]? = some o → (∀ es c, o ≠ .map es c) → (∀ cur, o ≠ .cells cur 122) → ¬ Mut lm xs g := by
    intro g o ho h1 h2 hm
    rcases hmut g hm with e | ⟨x, hx, e⟩
    · subst e
      rw [h.map] at ho
      exact h1 _ _ (Option.some.inj ho).symm
    · have := (h.job x hx).2.2.2
      unfold JobBox at this
      rw [← e, ho] at this
      exact h2 _ (Option.some.inj this)
  have hown : ∀ {base E size n : Nat} {v : Value} {l : List Value} {X : World}, W.ownsRow base E size v n l → w.heap.size ≤ base → E ≠ 122 → (∀ i, (w.heap.size ≤ i ∧ i < W.heap.size) → ¬ Mut lm xs i → X.heap[i]? = W.heap[i]?) → SliceAt X v n l := by
    intro base E size n v l X ho hb hE hX
    refine sliceAt_own' (w := X) (base := base) (E := E) (size := size) ⟨ho.1, ?_⟩
    rcases ho.2 with hn | ⟨g, cap, cur, hv, hg, hh, rest⟩
    · exact .inl hn
    · refine .inr ⟨g, cap, cur, hv, hg, (hX g ⟨by omega, (Array.getElem?_eq_some_iff.1 hh).1⟩ (hnm g _ hh (fun _ _ e => by cases e) (fun cur e => ?_))).trans hh, rest⟩
      simp only [Obj.cells.injEq] at e
      exact hE e.2.1
  have hcbl : cb < W.heap.size := by omega
  refine ⟨hfs, ?_, ?_, ?_, fun x hx => (h.job x hx).2.2.2, ?_, ?_, ?_, ⟨by omega, hcbl⟩, fun i hi => hi.2, ?_, ?_, tab_block hT (h.bel.block _ hg), fun e => by omega⟩
  · intro x hx
    have : x.f ∈ fl.map (·.f) := by rw [← hfs]; exact List.mem_map_of_mem hx
    obtain ⟨y, hy, e⟩ := List.mem_map.1 this
    rw [← e]
    exact hS y hy
  · rw [h.js, List.take_length]
    rfl
  · have e : livF (fun _ => (0 : Int)) = fun _ => none := by
      funext v
      cases v <;> try rfl
      rename_i q n
      cases q <;> rfl
    show MapF W (.int .i64) lm (livF fun _ => 0)
    rw [e]
    exact ⟨#[], 0, h.map, stamped_empty 0, by simp, by simp, by simp⟩
  · intro x hx
    rw [(h.job x hx).2.1]
    have : x.j ∈ xs.map (·.j) := List.mem_map_of_mem hx
    rw [h.js] at this
    obtain ⟨f, -, e⟩ := List.mem_map.1 this
    rw [← e]
    rfl
  · intro X hX
    refine ⟨⟨hown h.tops (Nat.le_refl _) (by decide) hX, hown h.flows (by omega) (by decide) hX, fun x hx => hown (h.pre x hx) (by omega) (by decide) hX, fun x hx => hown (h.post x hx) (by omega) (by decide) hX⟩, hown h.ptrs (by omega) (by decide) hX, fun x hx => ?_, (hX cb ⟨by omega, hcbl⟩ (hnm cb _ h.ctl (fun _ _ e => by cases e) (fun _ e => by cases e))).trans h.ctl⟩
    have : x.j ∈ xs.map (·.j) := List.mem_map_of_mem hx
    rw [h.js] at this
    obtain ⟨f, -, e⟩ := List.mem_map.1 this
    rw [(h.job x hx).1, ← e]
    exact nil_ints X
  · intro i hi
    rcases hmut i hi with e | ⟨x, hx, e⟩
    · subst e
      exact ⟨hB.1, by omega⟩
    · have := (h.job x hx).2.2
      have := this.2.lt
      exact ⟨by omega, by omega⟩
  · refine h.apart.imp_of_mem fun {x y} hx hy hne => ⟨hne, fun m hm => ?_⟩
    rw [(h.job x hx).2.1] at hm
    cases hm
  · intro x hx
    rw [(h.job x hx).2.1]
    simp
end
end Go.Proofs.YtkjajlolfcioiaaGreatDoor.Control
