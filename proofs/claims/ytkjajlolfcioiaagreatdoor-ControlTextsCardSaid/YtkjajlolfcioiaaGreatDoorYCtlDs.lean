/- control.Do, walked: commands of jobs. -/
import Derived.Test.YtkjajlolfcioiaaGreatDoorYCtlDo
namespace Go.Proofs.YtkjajlolfcioiaaGreatDoor.Control
open Go Go.RowKit Go.MapKept Go.Proofs Go.Proofs.YtkjajlolfcioiaaGreatDoor Go.Proofs.YtkjajlolfcioiaaGreatDoor.Expr Go.Proofs.YtkjajlolfcioiaaGreatDoor.Own Go.Proofs.YtkjajlolfcioiaaGreatDoor.Tail Go.Proofs.YtkjajlolfcioiaaGreatDoor.Mp Go.Proofs.YtkjajlolfcioiaaGreatDoor.Mk Go.Proofs.YtkjajlolfcioiaaGreatDoor.Ints Go.Proofs.YtkjajlolfcioiaaGreatDoor.Plan Go.Proofs.YtkjajlolfcioiaaGreatDoor.Check Go.Proofs.YtkjajlolfcioiaaGreatDoor.Graph Go.Proofs.YtkjajlolfcioiaaGreatDoor.Ctl
section
variable {w W X : World} {cb : Nat} {c : Ct} {U : Nat → Prop} {tv fv : Value} {lm : Nat} {jv : Value} {fl : List FlwV} {xs : List JV} {i : Nat} {x : JV}
set_option maxHeartbeats 4000000 in
set_option maxRecDepth 100000 in
theorem doStart_calls (h : CtlIs w cb c U tv fv lm jv fl xs) {n : Int} (hok : CtOk n c) (hn : n ≤ 1000) (hx : xs[i]? = some x) (cmd : Cmd) (v : Value) (hk : cmd.kind = 3) (hfl : cmd.flow = (i : Int)) :
    Calls Tryz.prog 34 #[.pointer (some ⟨cb, 0, none⟩), .agg (cmdCells cmd v)] w (DoPost w cb U ({ c with jobs := c.jobs.set i (startJ (liveL c.lives) x.j).1 }, (startJ (liveL c.lives) x.j).2)) := by
  have qf : ∀ W0 : World, (binOp .eql 134 (.func (.func 76) #[] #[.pointer (some ⟨w.heap.size, 0, none⟩)]) .nilFunc).run Tryz.prog W0 = .ok (.bool false) W0 := fun W0 => by kernel_rfl
  have hmm := @run_makeMap Tryz.prog
  have hmf : ∀ (fn : Fn) (first cap : Array Value) (w : World), (Instr.makeFunc fn first cap).run Tryz.prog w = .ok (.func fn first cap) w := fun _ _ _ _ => rfl
  have HD := Lib.hid fun (W X : World) (k : Below w.heap.size w W) (r : Jb × Int) (e : Ending) => JobPost.done (X := X) (i := i) h k (r := r) (e := e)
  obtain ⟨kind, flow, att, num, wk, rd, kp, parts⟩ := cmd
  simp only at hk hfl
  subst hk hfl
  have hjo := (hok.jobs _ (List.mem_of_getElem? (h.job hx))).1
  have HT := Lib.hid fun (W : World) (k : Below w.heap.size w W) (hpc : W.cell? ⟨w.heap.size, 0, none⟩ = some (.pointer (some ⟨cb, 0, none⟩))) (hcm : CmdBox W (w.heap.size + 1) ⟨3, (i : Int), att, num, wk, rd, kp, parts⟩ v) => start_calls (h.below k) hok.out hx hjo hn w.heap.size hpc
  unfold cmdCells
  have hm0 := MapF.made ((w.alloc (.cells #[.pointer (some ⟨cb, 0, none⟩)] 49)).alloc (.cells #[.int .i64 3, .int .i64 (i : Int), .int .i64 att, .int .i64 num, .int .i64 wk, .int .i64 rd, .int .i64 kp, v] 60)) (.int .i64)
  have hsz : ((w.alloc (.cells #[.pointer (some ⟨cb, 0, none⟩)] 49)).alloc (.cells #[.int .i64 3, .int .i64 (i : Int), .int .i64 att, .int .i64 num, .int .i64 wk, .int .i64 rd, .int .i64 kp, v] 60)).heap.size = w.heap.size + 1 + 1 := by simp
  rw [hsz] at hm0
  have HM := Lib.hid hm0
  have B1 : Below w.heap.size w (((w.alloc (.cells #[.pointer (some ⟨cb, 0, none⟩)] 49)).alloc (.cells #[.int .i64 3, .int .i64 (i : Int), .int .i64 att, .int .i64 num, .int .i64 wk, .int .i64 rd, .int .i64 kp, v] 60)).alloc (.map #[] 0)) := balloc (balloc (box_below _ _) _) _
  have p0 := kc (box_below ((w.alloc (.cells #[.pointer (some ⟨cb, 0, none⟩)] 49)).alloc (.cells #[.int .i64 3, .int .i64 (i : Int), .int .i64 att, .int .i64 num, .int .i64 wk, .int .i64 rd, .int .i64 kp, v] 60)) (.map #[] 0)) (kc (box_below _ _) (cell_new (X := w) (g := w.heap.size) (cs := #[.pointer (some ⟨cb, 0, none⟩)]) (T := 49) (j := 0) rfl rfl))
  have q0 := kc (box_below ((w.alloc (.cells #[.pointer (some ⟨cb, 0, none⟩)] 49)).alloc (.cells #[.int .i64 3, .int .i64 (i : Int), .int .i64 att, .int .i64 num, .int .i64 wk, .int .i64 rd, .int .i64 kp, v] 60)) (.map #[] 0)) (cell_new (g := w.heap.size + 1) (j := 0) (v := .int .i64 3) (by simp) rfl)
  have q1 := kc (box_below ((w.alloc (.cells #[.pointer (some ⟨cb, 0, none⟩)] 49)).alloc (.cells #[.int .i64 3, .int .i64 (i : Int), .int .i64 att, .int .i64 num, .int .i64 wk, .int .i64 rd, .int .i64 kp, v] 60)) (.map #[] 0)) (cell_new (g := w.heap.size + 1) (j := 1) (v := .int .i64 (i : Int)) (by simp) rfl)
  have hil : i < xs.length := (List.getElem?_eq_some_iff.1 hx).1
  have hx8 : xs.length ≤ 8 := by
    have e1 : xs.length = c.jobs.length := by rw [← h.jobs]; simp
    have e2 := hok.len
    have e3 := (plan_len hok.plan).2
    omega
  obtain ⟨A, cp, rfl, -, hrow⟩ := h.now.ptrs
  obtain ⟨bj, oj, rfl, hcells⟩ := hrow (by omega)
  have jx := hcells i _ (by rw [List.getElem?_map, hx]; rfl)
  have hbj : bj < w.heap.size := lt_of_cell jx
  have jx1 := kc B1 jx
  have t1 : decide ((i : Int) < 0) = false := by simp
  have t2 : decide ((xs.length : Int) ≤ (i : Int)) = false := by simp; omega
  have hiI : (i : Int) < xs.length := by omega
  have k3 : w.cell? ⟨cb, 3, none⟩ = some (.slice (some ⟨bj, oj, none⟩) xs.length cp) := by rw [cell_of_row _ _ _ _ _ _ h.now.ctl]; simp
  have j3 := kc B1 k3
  have hcbl : cb < w.heap.size := h.lt cb h.cbU
  have hblk : (((w.alloc (.cells #[.pointer (some ⟨cb, 0, none⟩)] 49)).alloc (.cells #[.int .i64 3, .int .i64 (i : Int), .int .i64 att, .int .i64 num, .int .i64 wk, .int .i64 rd, .int .i64 kp, v] 60)).alloc (.map #[] 0)).heap[w.heap.size + 1]? = some (.cells #[.int .i64 3, .int .i64 (i : Int), .int .i64 att, .int .i64 num, .int .i64 wk, .int .i64 rd, .int .i64 kp, v] 60) := heap_up (heap_at (by simp))
  have HBLK := Lib.hid hblk
  clear hblk
  have HBT := Lib.hid (But.refl (w.heap.size + 1 + 1) (((w.alloc (.cells #[.pointer (some ⟨cb, 0, none⟩)] 49)).alloc (.cells #[.int .i64 3, .int .i64 (i : Int), .int .i64 att, .int .i64 num, .int .i64 wk, .int .i64 rd, .int .i64 kp, v] 60)).alloc (.map #[] 0)))
  have HB1 := Lib.hid B1
  have H := Lib.hid h
  clear hm0 hsz B1 k3 h hok hx hrow hcells jx hjo
  go_enter Tryz.func34, Tryz.ntmps34
  go_wp2_with (first | (at_lookup; refine list_look HM.out Tryz.underlying137 Tryz.underlying3 (z := .nilFunc) (by kernel_rfl) (by kernel_rfl) _ _ false rfl rfl (key := .int .i64 3) rfl rfl (v := .func (.func 76) #[] #[.pointer (some ⟨w.heap.size, 0, none⟩)]) (by kernel_rfl) ?_) | (with_reducible refine list_ins HM.out Tryz.underlying137 Tryz.underlying3 (by kernel_rfl) _ _ _ rfl rfl rfl rfl ?_; intro w9 hm9 hb9; have HM := Lib.hid hm9; have p0 := hb9.cell (by simp; try omega) p0; have q0 := hb9.cell (by simp) q0; have q1 := hb9.cell (by simp) q1; have j3 := hb9.cell (by simp; omega) j3; have jx1 := hb9.cell (by simp; omega) jx1; have HBT := Lib.hid (HBT.out.trans hb9); clear hm9 hb9))
  go_quiet (fail)
  go_wp2
  refine draws_tail 9 (by kernel_rfl) (by kernel_rfl) ?_
  simp only [List.take_succ_cons, List.take_zero, List.drop_succ_cons, List.drop_zero]
  repeat (go_big_quiet_step (fail))
  refine wpQuiet_nil ?_
  rintro X ⟨nx, rfl⟩
  have BW := HB1.out.grown HBT.out HB1.out.size (fun k e => by cases e; omega)
  have HBW := Lib.hid (bdrewN BW (nq + nx))
  have hb9 := (HBT.out.block (w.heap.size + 1) (by simp) (fun e => by have := Option.some.inj e; omega)).trans HBLK.out
  have HCM := Lib.hid (show CmdBox (w9.drewN (nq + nx)) (w.heap.size + 1) ⟨3, (i : Int), att, num, wk, rd, kp, parts⟩ v from ⟨(cell_of_row _ _ _ _ _ _ hb9).trans (by simp), (cell_of_row _ _ _ _ _ _ hb9).trans (by simp), (cell_of_row _ _ _ _ _ _ hb9).trans (by simp), (cell_of_row _ _ _ _ _ _ hb9).trans (by simp), (cell_of_row _ _ _ _ _ _ hb9).trans (by simp), (cell_of_row _ _ _ _ _ _ hb9).trans (by simp), (cell_of_row _ _ _ _ _ _ hb9).trans (by simp), (cell_of_row _ _ _ _ _ _ hb9).trans (by simp)⟩)
  clear BW hb9
  go_wp2_with fail
  refine (HT.out _ HBW.out p0 HCM.out).mono ?_
  rintro e w2 hp
  obtain ⟨rfl, hp2⟩ := id hp
  have HP := Lib.hid hp
  clear hp hp2
  go_wp2
  go_ret
  exact HD.out _ _ HBW.out _ _ HP.out
set_option maxHeartbeats 4000000 in
set_option maxRecDepth 100000 in
theorem doFail_calls (h : CtlIs w cb c U tv fv lm jv fl xs) {n : Int} (hok : CtOk n c) (hn : n ≤ 1000) (hx : xs[i]? = some x) (cmd : Cmd) (v : Value) (hk : cmd.kind = 4) (hfl : cmd.flow = (i : Int)) :
    Calls Tryz.prog 34 #[.pointer (some ⟨cb, 0, none⟩), .agg (cmdCells cmd v)] w (DoPost w cb U ({ c with jobs := c.jobs.set i (failJ (liveL c.lives) cmd x.j).1 }, (failJ (liveL c.lives) cmd x.j).2)) := by
  have qf : ∀ W0 : World, (binOp .eql 134 (.func (.func 78) #[] #[.pointer (some ⟨w.heap.size + 1, 0, none⟩), .pointer (some ⟨w.heap.size, 0, none⟩)]) .nilFunc).run Tryz.prog W0 = .ok (.bool false) W0 := fun W0 => by kernel_rfl
  have hmm := @run_makeMap Tryz.prog
  have hmf : ∀ (fn : Fn) (first cap : Array Value) (w : World), (Instr.makeFunc fn first cap).run Tryz.prog w = .ok (.func fn first cap) w := fun _ _ _ _ => rfl
  have HD := Lib.hid fun (W X : World) (k : Below w.heap.size w W) (r : Jb × Int) (e : Ending) => JobPost.done (X := X) (i := i) h k (r := r) (e := e)
  obtain ⟨kind, flow, att, num, wk, rd, kp, parts⟩ := cmd
  simp only at hk hfl
  subst hk hfl
  have hjo := (hok.jobs _ (List.mem_of_getElem? (h.job hx))).1
  have HT := Lib.hid fun (W : World) (k : Below w.heap.size w W) (hpc : W.cell? ⟨w.heap.size, 0, none⟩ = some (.pointer (some ⟨cb, 0, none⟩))) (hcm : CmdBox W (w.heap.size + 1) ⟨4, (i : Int), att, num, wk, rd, kp, parts⟩ v) => fail_calls (h.below k) hok.out hx hjo hn w.heap.size (w.heap.size + 1) hpc ⟨4, (i : Int), att, num, wk, rd, kp, parts⟩ v hcm
  unfold cmdCells
  have hm0 := MapF.made ((w.alloc (.cells #[.pointer (some ⟨cb, 0, none⟩)] 49)).alloc (.cells #[.int .i64 4, .int .i64 (i : Int), .int .i64 att, .int .i64 num, .int .i64 wk, .int .i64 rd, .int .i64 kp, v] 60)) (.int .i64)
  have hsz : ((w.alloc (.cells #[.pointer (some ⟨cb, 0, none⟩)] 49)).alloc (.cells #[.int .i64 4, .int .i64 (i : Int), .int .i64 att, .int .i64 num, .int .i64 wk, .int .i64 rd, .int .i64 kp, v] 60)).heap.size = w.heap.size + 1 + 1 := by simp
  rw [hsz] at hm0
  have HM := Lib.hid hm0
  have B1 : Below w.heap.size w (((w.alloc (.cells #[.pointer (some ⟨cb, 0, none⟩)] 49)).alloc (.cells #[.int .i64 4, .int .i64 (i : Int), .int .i64 att, .int .i64 num, .int .i64 wk, .int .i64 rd, .int .i64 kp, v] 60)).alloc (.map #[] 0)) := balloc (balloc (box_below _ _) _) _
  have p0 := kc (box_below ((w.alloc (.cells #[.pointer (some ⟨cb, 0, none⟩)] 49)).alloc (.cells #[.int .i64 4, .int .i64 (i : Int), .int .i64 att, .int .i64 num, .int .i64 wk, .int .i64 rd, .int .i64 kp, v] 60)) (.map #[] 0)) (kc (box_below _ _) (cell_new (X := w) (g := w.heap.size) (cs := #[.pointer (some ⟨cb, 0, none⟩)]) (T := 49) (j := 0) rfl rfl))
  have q0 := kc (box_below ((w.alloc (.cells #[.pointer (some ⟨cb, 0, none⟩)] 49)).alloc (.cells #[.int .i64 4, .int .i64 (i : Int), .int .i64 att, .int .i64 num, .int .i64 wk, .int .i64 rd, .int .i64 kp, v] 60)) (.map #[] 0)) (cell_new (g := w.heap.size + 1) (j := 0) (v := .int .i64 4) (by simp) rfl)
  have q1 := kc (box_below ((w.alloc (.cells #[.pointer (some ⟨cb, 0, none⟩)] 49)).alloc (.cells #[.int .i64 4, .int .i64 (i : Int), .int .i64 att, .int .i64 num, .int .i64 wk, .int .i64 rd, .int .i64 kp, v] 60)) (.map #[] 0)) (cell_new (g := w.heap.size + 1) (j := 1) (v := .int .i64 (i : Int)) (by simp) rfl)
  have hil : i < xs.length := (List.getElem?_eq_some_iff.1 hx).1
  have hx8 : xs.length ≤ 8 := by
    have e1 : xs.length = c.jobs.length := by rw [← h.jobs]; simp
    have e2 := hok.len
    have e3 := (plan_len hok.plan).2
    omega
  obtain ⟨A, cp, rfl, -, hrow⟩ := h.now.ptrs
  obtain ⟨bj, oj, rfl, hcells⟩ := hrow (by omega)
  have jx := hcells i _ (by rw [List.getElem?_map, hx]; rfl)
  have hbj : bj < w.heap.size := lt_of_cell jx
  have jx1 := kc B1 jx
  have t1 : decide ((i : Int) < 0) = false := by simp
  have t2 : decide ((xs.length : Int) ≤ (i : Int)) = false := by simp; omega
  have hiI : (i : Int) < xs.length := by omega
  have k3 : w.cell? ⟨cb, 3, none⟩ = some (.slice (some ⟨bj, oj, none⟩) xs.length cp) := by rw [cell_of_row _ _ _ _ _ _ h.now.ctl]; simp
  have j3 := kc B1 k3
  have hcbl : cb < w.heap.size := h.lt cb h.cbU
  have hblk : (((w.alloc (.cells #[.pointer (some ⟨cb, 0, none⟩)] 49)).alloc (.cells #[.int .i64 4, .int .i64 (i : Int), .int .i64 att, .int .i64 num, .int .i64 wk, .int .i64 rd, .int .i64 kp, v] 60)).alloc (.map #[] 0)).heap[w.heap.size + 1]? = some (.cells #[.int .i64 4, .int .i64 (i : Int), .int .i64 att, .int .i64 num, .int .i64 wk, .int .i64 rd, .int .i64 kp, v] 60) := heap_up (heap_at (by simp))
  have HBLK := Lib.hid hblk
  clear hblk
  have HBT := Lib.hid (But.refl (w.heap.size + 1 + 1) (((w.alloc (.cells #[.pointer (some ⟨cb, 0, none⟩)] 49)).alloc (.cells #[.int .i64 4, .int .i64 (i : Int), .int .i64 att, .int .i64 num, .int .i64 wk, .int .i64 rd, .int .i64 kp, v] 60)).alloc (.map #[] 0)))
  have HB1 := Lib.hid B1
  have H := Lib.hid h
  clear hm0 hsz B1 k3 h hok hx hrow hcells jx hjo
  go_enter Tryz.func34, Tryz.ntmps34
  go_wp2_with (first | (at_lookup; refine list_look HM.out Tryz.underlying137 Tryz.underlying3 (z := .nilFunc) (by kernel_rfl) (by kernel_rfl) _ _ false rfl rfl (key := .int .i64 4) rfl rfl (v := .func (.func 78) #[] #[.pointer (some ⟨w.heap.size + 1, 0, none⟩), .pointer (some ⟨w.heap.size, 0, none⟩)]) (by kernel_rfl) ?_) | (with_reducible refine list_ins HM.out Tryz.underlying137 Tryz.underlying3 (by kernel_rfl) _ _ _ rfl rfl rfl rfl ?_; intro w9 hm9 hb9; have HM := Lib.hid hm9; have p0 := hb9.cell (by simp; try omega) p0; have q0 := hb9.cell (by simp) q0; have q1 := hb9.cell (by simp) q1; have j3 := hb9.cell (by simp; omega) j3; have jx1 := hb9.cell (by simp; omega) jx1; have HBT := Lib.hid (HBT.out.trans hb9); clear hm9 hb9))
  go_quiet (fail)
  go_wp2
  refine draws_tail 9 (by kernel_rfl) (by kernel_rfl) ?_
  simp only [List.take_succ_cons, List.take_zero, List.drop_succ_cons, List.drop_zero]
  repeat (go_big_quiet_step (fail))
  refine wpQuiet_nil ?_
  rintro X ⟨nx, rfl⟩
  have BW := HB1.out.grown HBT.out HB1.out.size (fun k e => by cases e; omega)
  have HBW := Lib.hid (bdrewN BW (nq + nx))
  have hb9 := (HBT.out.block (w.heap.size + 1) (by simp) (fun e => by have := Option.some.inj e; omega)).trans HBLK.out
  have HCM := Lib.hid (show CmdBox (w9.drewN (nq + nx)) (w.heap.size + 1) ⟨4, (i : Int), att, num, wk, rd, kp, parts⟩ v from ⟨(cell_of_row _ _ _ _ _ _ hb9).trans (by simp), (cell_of_row _ _ _ _ _ _ hb9).trans (by simp), (cell_of_row _ _ _ _ _ _ hb9).trans (by simp), (cell_of_row _ _ _ _ _ _ hb9).trans (by simp), (cell_of_row _ _ _ _ _ _ hb9).trans (by simp), (cell_of_row _ _ _ _ _ _ hb9).trans (by simp), (cell_of_row _ _ _ _ _ _ hb9).trans (by simp), (cell_of_row _ _ _ _ _ _ hb9).trans (by simp)⟩)
  clear BW hb9
  go_wp2_with fail
  refine (HT.out _ HBW.out p0 HCM.out).mono ?_
  rintro e w2 hp
  obtain ⟨rfl, hp2⟩ := id hp
  have HP := Lib.hid hp
  clear hp hp2
  go_wp2
  go_ret
  exact HD.out _ _ HBW.out _ _ HP.out
set_option maxHeartbeats 4000000 in
set_option maxRecDepth 100000 in
theorem doScale2_calls (h : CtlIs w cb c U tv fv lm jv fl xs) {n : Int} (hok : CtOk n c) (hn : n ≤ 1000) (hx : xs[i]? = some x) (cmd : Cmd) (v : Value) (hk : cmd.kind = 5) (hfl : cmd.flow = (i : Int)) :
    Calls Tryz.prog 34 #[.pointer (some ⟨cb, 0, none⟩), .agg (cmdCells cmd v)] w (DoPost w cb U ({ c with jobs := c.jobs.set i (scaleJ c.tops c.flows (liveL c.lives) cmd x.j).1 }, (scaleJ c.tops c.flows (liveL c.lives) cmd x.j).2)) := by
  have qf : ∀ W0 : World, (binOp .eql 134 (.func (.func 79) #[] #[.pointer (some ⟨w.heap.size, 0, none⟩), .pointer (some ⟨w.heap.size + 1, 0, none⟩)]) .nilFunc).run Tryz.prog W0 = .ok (.bool false) W0 := fun W0 => by kernel_rfl
  have hmm := @run_makeMap Tryz.prog
  have hmf : ∀ (fn : Fn) (first cap : Array Value) (w : World), (Instr.makeFunc fn first cap).run Tryz.prog w = .ok (.func fn first cap) w := fun _ _ _ _ => rfl
  have HD := Lib.hid fun (W X : World) (k : Below w.heap.size w W) (r : Jb × Int) (e : Ending) => JobPost.done (X := X) (i := i) h k (r := r) (e := e)
  obtain ⟨kind, flow, att, num, wk, rd, kp, parts⟩ := cmd
  simp only at hk hfl
  subst hk hfl
  have hjo := (hok.jobs _ (List.mem_of_getElem? (h.job hx))).1
  have HT := Lib.hid fun (W : World) (k : Below w.heap.size w W) (hpc : W.cell? ⟨w.heap.size, 0, none⟩ = some (.pointer (some ⟨cb, 0, none⟩))) (hcm : CmdBox W (w.heap.size + 1) ⟨5, (i : Int), att, num, wk, rd, kp, parts⟩ v) => doScale_calls (h.below k) hok.out hx hjo hn hok.len (plan_len hok.plan).2 ⟨5, (i : Int), att, num, wk, rd, kp, parts⟩ v rfl w.heap.size (w.heap.size + 1) hpc hcm
  unfold cmdCells
  have hm0 := MapF.made ((w.alloc (.cells #[.pointer (some ⟨cb, 0, none⟩)] 49)).alloc (.cells #[.int .i64 5, .int .i64 (i : Int), .int .i64 att, .int .i64 num, .int .i64 wk, .int .i64 rd, .int .i64 kp, v] 60)) (.int .i64)
  have hsz : ((w.alloc (.cells #[.pointer (some ⟨cb, 0, none⟩)] 49)).alloc (.cells #[.int .i64 5, .int .i64 (i : Int), .int .i64 att, .int .i64 num, .int .i64 wk, .int .i64 rd, .int .i64 kp, v] 60)).heap.size = w.heap.size + 1 + 1 := by simp
  rw [hsz] at hm0
  have HM := Lib.hid hm0
  have B1 : Below w.heap.size w (((w.alloc (.cells #[.pointer (some ⟨cb, 0, none⟩)] 49)).alloc (.cells #[.int .i64 5, .int .i64 (i : Int), .int .i64 att, .int .i64 num, .int .i64 wk, .int .i64 rd, .int .i64 kp, v] 60)).alloc (.map #[] 0)) := balloc (balloc (box_below _ _) _) _
  have p0 := kc (box_below ((w.alloc (.cells #[.pointer (some ⟨cb, 0, none⟩)] 49)).alloc (.cells #[.int .i64 5, .int .i64 (i : Int), .int .i64 att, .int .i64 num, .int .i64 wk, .int .i64 rd, .int .i64 kp, v] 60)) (.map #[] 0)) (kc (box_below _ _) (cell_new (X := w) (g := w.heap.size) (cs := #[.pointer (some ⟨cb, 0, none⟩)]) (T := 49) (j := 0) rfl rfl))
  have q0 := kc (box_below ((w.alloc (.cells #[.pointer (some ⟨cb, 0, none⟩)] 49)).alloc (.cells #[.int .i64 5, .int .i64 (i : Int), .int .i64 att, .int .i64 num, .int .i64 wk, .int .i64 rd, .int .i64 kp, v] 60)) (.map #[] 0)) (cell_new (g := w.heap.size + 1) (j := 0) (v := .int .i64 5) (by simp) rfl)
  have q1 := kc (box_below ((w.alloc (.cells #[.pointer (some ⟨cb, 0, none⟩)] 49)).alloc (.cells #[.int .i64 5, .int .i64 (i : Int), .int .i64 att, .int .i64 num, .int .i64 wk, .int .i64 rd, .int .i64 kp, v] 60)) (.map #[] 0)) (cell_new (g := w.heap.size + 1) (j := 1) (v := .int .i64 (i : Int)) (by simp) rfl)
  have hil : i < xs.length := (List.getElem?_eq_some_iff.1 hx).1
  have hx8 : xs.length ≤ 8 := by
    have e1 : xs.length = c.jobs.length := by rw [← h.jobs]; simp
    have e2 := hok.len
    have e3 := (plan_len hok.plan).2
    omega
  obtain ⟨A, cp, rfl, -, hrow⟩ := h.now.ptrs
  obtain ⟨bj, oj, rfl, hcells⟩ := hrow (by omega)
  have jx := hcells i _ (by rw [List.getElem?_map, hx]; rfl)
  have hbj : bj < w.heap.size := lt_of_cell jx
  have jx1 := kc B1 jx
  have t1 : decide ((i : Int) < 0) = false := by simp
  have t2 : decide ((xs.length : Int) ≤ (i : Int)) = false := by simp; omega
  have hiI : (i : Int) < xs.length := by omega
  have k3 : w.cell? ⟨cb, 3, none⟩ = some (.slice (some ⟨bj, oj, none⟩) xs.length cp) := by rw [cell_of_row _ _ _ _ _ _ h.now.ctl]; simp
  have j3 := kc B1 k3
  have hcbl : cb < w.heap.size := h.lt cb h.cbU
  have hblk : (((w.alloc (.cells #[.pointer (some ⟨cb, 0, none⟩)] 49)).alloc (.cells #[.int .i64 5, .int .i64 (i : Int), .int .i64 att, .int .i64 num, .int .i64 wk, .int .i64 rd, .int .i64 kp, v] 60)).alloc (.map #[] 0)).heap[w.heap.size + 1]? = some (.cells #[.int .i64 5, .int .i64 (i : Int), .int .i64 att, .int .i64 num, .int .i64 wk, .int .i64 rd, .int .i64 kp, v] 60) := heap_up (heap_at (by simp))
  have HBLK := Lib.hid hblk
  clear hblk
  have HBT := Lib.hid (But.refl (w.heap.size + 1 + 1) (((w.alloc (.cells #[.pointer (some ⟨cb, 0, none⟩)] 49)).alloc (.cells #[.int .i64 5, .int .i64 (i : Int), .int .i64 att, .int .i64 num, .int .i64 wk, .int .i64 rd, .int .i64 kp, v] 60)).alloc (.map #[] 0)))
  have HB1 := Lib.hid B1
  have H := Lib.hid h
  clear hm0 hsz B1 k3 h hok hx hrow hcells jx hjo
  go_enter Tryz.func34, Tryz.ntmps34
  go_wp2_with (first | (at_lookup; refine list_look HM.out Tryz.underlying137 Tryz.underlying3 (z := .nilFunc) (by kernel_rfl) (by kernel_rfl) _ _ false rfl rfl (key := .int .i64 5) rfl rfl (v := .func (.func 79) #[] #[.pointer (some ⟨w.heap.size, 0, none⟩), .pointer (some ⟨w.heap.size + 1, 0, none⟩)]) (by kernel_rfl) ?_) | (with_reducible refine list_ins HM.out Tryz.underlying137 Tryz.underlying3 (by kernel_rfl) _ _ _ rfl rfl rfl rfl ?_; intro w9 hm9 hb9; have HM := Lib.hid hm9; have p0 := hb9.cell (by simp; try omega) p0; have q0 := hb9.cell (by simp) q0; have q1 := hb9.cell (by simp) q1; have j3 := hb9.cell (by simp; omega) j3; have jx1 := hb9.cell (by simp; omega) jx1; have HBT := Lib.hid (HBT.out.trans hb9); clear hm9 hb9))
  go_quiet (fail)
  go_wp2
  refine draws_tail 9 (by kernel_rfl) (by kernel_rfl) ?_
  simp only [List.take_succ_cons, List.take_zero, List.drop_succ_cons, List.drop_zero]
  repeat (go_big_quiet_step (fail))
  refine wpQuiet_nil ?_
  rintro X ⟨nx, rfl⟩
  have BW := HB1.out.grown HBT.out HB1.out.size (fun k e => by cases e; omega)
  have HBW := Lib.hid (bdrewN BW (nq + nx))
  have hb9 := (HBT.out.block (w.heap.size + 1) (by simp) (fun e => by have := Option.some.inj e; omega)).trans HBLK.out
  have HCM := Lib.hid (show CmdBox (w9.drewN (nq + nx)) (w.heap.size + 1) ⟨5, (i : Int), att, num, wk, rd, kp, parts⟩ v from ⟨(cell_of_row _ _ _ _ _ _ hb9).trans (by simp), (cell_of_row _ _ _ _ _ _ hb9).trans (by simp), (cell_of_row _ _ _ _ _ _ hb9).trans (by simp), (cell_of_row _ _ _ _ _ _ hb9).trans (by simp), (cell_of_row _ _ _ _ _ _ hb9).trans (by simp), (cell_of_row _ _ _ _ _ _ hb9).trans (by simp), (cell_of_row _ _ _ _ _ _ hb9).trans (by simp), (cell_of_row _ _ _ _ _ _ hb9).trans (by simp)⟩)
  clear BW hb9
  go_wp2_with fail
  refine (HT.out _ HBW.out p0 HCM.out).mono ?_
  rintro e w2 hp
  obtain ⟨rfl, hp2⟩ := id hp
  have HP := Lib.hid hp
  clear hp hp2
  go_wp2
  go_ret
  exact HD.out _ _ HBW.out _ _ HP.out
set_option maxHeartbeats 4000000 in
set_option maxRecDepth 100000 in
theorem doAck2_calls (h : CtlIs w cb c U tv fv lm jv fl xs) {n : Int} (hok : CtOk n c) (hn : n ≤ 1000) (hx : xs[i]? = some x) (cmd : Cmd) (v : Value) (hk : cmd.kind = 7) (hfl : cmd.flow = (i : Int)) (hpt : ∀ X, Kp U w X → PartsAt X v cmd.parts) (hpl : cmd.parts.length ≤ 1000) :
    Calls Tryz.prog 34 #[.pointer (some ⟨cb, 0, none⟩), .agg (cmdCells cmd v)] w (DoPost w cb U ({ c with jobs := c.jobs.set i (ackJ (partsAt c i) cmd x.j).1 }, (ackJ (partsAt c i) cmd x.j).2)) := by
  have qf : ∀ W0 : World, (binOp .eql 134 (.func (.func 82) #[] #[.pointer (some ⟨w.heap.size, 0, none⟩), .pointer (some ⟨w.heap.size + 1, 0, none⟩)]) .nilFunc).run Tryz.prog W0 = .ok (.bool false) W0 := fun W0 => by kernel_rfl
  have hmm := @run_makeMap Tryz.prog
  have hmf : ∀ (fn : Fn) (first cap : Array Value) (w : World), (Instr.makeFunc fn first cap).run Tryz.prog w = .ok (.func fn first cap) w := fun _ _ _ _ => rfl
  have HD := Lib.hid fun (W X : World) (k : Below w.heap.size w W) (r : Jb × Int) (e : Ending) => JobPost.done (X := X) (i := i) h k (r := r) (e := e)
  obtain ⟨kind, flow, att, num, wk, rd, kp, parts⟩ := cmd
  simp only at hk hfl
  subst hk hfl
  have hjo := (hok.jobs _ (List.mem_of_getElem? (h.job hx))).1
  simp only at hpt hpl
  have hifl : i < fl.length := by
    have e1 : fl.length = c.flows.length := by rw [← h.flows]; simp
    have e2 : c.jobs[i]? = some x.j := h.job hx
    have e3 := (List.getElem?_eq_some_iff.1 e2).1
    have e4 := hok.len
    omega
  have HT := Lib.hid fun (W : World) (k : Below w.heap.size w W) (hpc : W.cell? ⟨w.heap.size, 0, none⟩ = some (.pointer (some ⟨cb, 0, none⟩))) (hcm : CmdBox W (w.heap.size + 1) ⟨7, (i : Int), att, num, wk, rd, kp, parts⟩ v) => doAck_calls (h.below k) hx hjo hok.plan hifl ⟨7, (i : Int), att, num, wk, rd, kp, parts⟩ v rfl (fun X hX => hpt X ((Kp.of_below (U := U) k).trans hX (fun _ _ e => e))) hpl w.heap.size (w.heap.size + 1) hpc hcm
  unfold cmdCells
  have hm0 := MapF.made ((w.alloc (.cells #[.pointer (some ⟨cb, 0, none⟩)] 49)).alloc (.cells #[.int .i64 7, .int .i64 (i : Int), .int .i64 att, .int .i64 num, .int .i64 wk, .int .i64 rd, .int .i64 kp, v] 60)) (.int .i64)
  have hsz : ((w.alloc (.cells #[.pointer (some ⟨cb, 0, none⟩)] 49)).alloc (.cells #[.int .i64 7, .int .i64 (i : Int), .int .i64 att, .int .i64 num, .int .i64 wk, .int .i64 rd, .int .i64 kp, v] 60)).heap.size = w.heap.size + 1 + 1 := by simp
  rw [hsz] at hm0
  have HM := Lib.hid hm0
  have B1 : Below w.heap.size w (((w.alloc (.cells #[.pointer (some ⟨cb, 0, none⟩)] 49)).alloc (.cells #[.int .i64 7, .int .i64 (i : Int), .int .i64 att, .int .i64 num, .int .i64 wk, .int .i64 rd, .int .i64 kp, v] 60)).alloc (.map #[] 0)) := balloc (balloc (box_below _ _) _) _
  have p0 := kc (box_below ((w.alloc (.cells #[.pointer (some ⟨cb, 0, none⟩)] 49)).alloc (.cells #[.int .i64 7, .int .i64 (i : Int), .int .i64 att, .int .i64 num, .int .i64 wk, .int .i64 rd, .int .i64 kp, v] 60)) (.map #[] 0)) (kc (box_below _ _) (cell_new (X := w) (g := w.heap.size) (cs := #[.pointer (some ⟨cb, 0, none⟩)]) (T := 49) (j := 0) rfl rfl))
  have q0 := kc (box_below ((w.alloc (.cells #[.pointer (some ⟨cb, 0, none⟩)] 49)).alloc (.cells #[.int .i64 7, .int .i64 (i : Int), .int .i64 att, .int .i64 num, .int .i64 wk, .int .i64 rd, .int .i64 kp, v] 60)) (.map #[] 0)) (cell_new (g := w.heap.size + 1) (j := 0) (v := .int .i64 7) (by simp) rfl)
  have q1 := kc (box_below ((w.alloc (.cells #[.pointer (some ⟨cb, 0, none⟩)] 49)).alloc (.cells #[.int .i64 7, .int .i64 (i : Int), .int .i64 att, .int .i64 num, .int .i64 wk, .int .i64 rd, .int .i64 kp, v] 60)) (.map #[] 0)) (cell_new (g := w.heap.size + 1) (j := 1) (v := .int .i64 (i : Int)) (by simp) rfl)
  have hil : i < xs.length := (List.getElem?_eq_some_iff.1 hx).1
  have hx8 : xs.length ≤ 8 := by
    have e1 : xs.length = c.jobs.length := by rw [← h.jobs]; simp
    have e2 := hok.len
    have e3 := (plan_len hok.plan).2
    omega
  obtain ⟨A, cp, rfl, -, hrow⟩ := h.now.ptrs
  obtain ⟨bj, oj, rfl, hcells⟩ := hrow (by omega)
  have jx := hcells i _ (by rw [List.getElem?_map, hx]; rfl)
  have hbj : bj < w.heap.size := lt_of_cell jx
  have jx1 := kc B1 jx
  have t1 : decide ((i : Int) < 0) = false := by simp
  have t2 : decide ((xs.length : Int) ≤ (i : Int)) = false := by simp; omega
  have hiI : (i : Int) < xs.length := by omega
  have k3 : w.cell? ⟨cb, 3, none⟩ = some (.slice (some ⟨bj, oj, none⟩) xs.length cp) := by rw [cell_of_row _ _ _ _ _ _ h.now.ctl]; simp
  have j3 := kc B1 k3
  have hcbl : cb < w.heap.size := h.lt cb h.cbU
  have hblk : (((w.alloc (.cells #[.pointer (some ⟨cb, 0, none⟩)] 49)).alloc (.cells #[.int .i64 7, .int .i64 (i : Int), .int .i64 att, .int .i64 num, .int .i64 wk, .int .i64 rd, .int .i64 kp, v] 60)).alloc (.map #[] 0)).heap[w.heap.size + 1]? = some (.cells #[.int .i64 7, .int .i64 (i : Int), .int .i64 att, .int .i64 num, .int .i64 wk, .int .i64 rd, .int .i64 kp, v] 60) := heap_up (heap_at (by simp))
  have HBLK := Lib.hid hblk
  clear hblk
  have HBT := Lib.hid (But.refl (w.heap.size + 1 + 1) (((w.alloc (.cells #[.pointer (some ⟨cb, 0, none⟩)] 49)).alloc (.cells #[.int .i64 7, .int .i64 (i : Int), .int .i64 att, .int .i64 num, .int .i64 wk, .int .i64 rd, .int .i64 kp, v] 60)).alloc (.map #[] 0)))
  have HB1 := Lib.hid B1
  have H := Lib.hid h
  clear hm0 hsz B1 k3 h hok hx hrow hcells jx hjo hpt hpl hifl
  go_enter Tryz.func34, Tryz.ntmps34
  go_wp2_with (first | (at_lookup; refine list_look HM.out Tryz.underlying137 Tryz.underlying3 (z := .nilFunc) (by kernel_rfl) (by kernel_rfl) _ _ false rfl rfl (key := .int .i64 7) rfl rfl (v := .func (.func 82) #[] #[.pointer (some ⟨w.heap.size, 0, none⟩), .pointer (some ⟨w.heap.size + 1, 0, none⟩)]) (by kernel_rfl) ?_) | (with_reducible refine list_ins HM.out Tryz.underlying137 Tryz.underlying3 (by kernel_rfl) _ _ _ rfl rfl rfl rfl ?_; intro w9 hm9 hb9; have HM := Lib.hid hm9; have p0 := hb9.cell (by simp; try omega) p0; have q0 := hb9.cell (by simp) q0; have q1 := hb9.cell (by simp) q1; have j3 := hb9.cell (by simp; omega) j3; have jx1 := hb9.cell (by simp; omega) jx1; have HBT := Lib.hid (HBT.out.trans hb9); clear hm9 hb9))
  go_quiet (fail)
  go_wp2
  refine draws_tail 9 (by kernel_rfl) (by kernel_rfl) ?_
  simp only [List.take_succ_cons, List.take_zero, List.drop_succ_cons, List.drop_zero]
  repeat (go_big_quiet_step (fail))
  refine wpQuiet_nil ?_
  rintro X ⟨nx, rfl⟩
  have BW := HB1.out.grown HBT.out HB1.out.size (fun k e => by cases e; omega)
  have HBW := Lib.hid (bdrewN BW (nq + nx))
  have hb9 := (HBT.out.block (w.heap.size + 1) (by simp) (fun e => by have := Option.some.inj e; omega)).trans HBLK.out
  have HCM := Lib.hid (show CmdBox (w9.drewN (nq + nx)) (w.heap.size + 1) ⟨7, (i : Int), att, num, wk, rd, kp, parts⟩ v from ⟨(cell_of_row _ _ _ _ _ _ hb9).trans (by simp), (cell_of_row _ _ _ _ _ _ hb9).trans (by simp), (cell_of_row _ _ _ _ _ _ hb9).trans (by simp), (cell_of_row _ _ _ _ _ _ hb9).trans (by simp), (cell_of_row _ _ _ _ _ _ hb9).trans (by simp), (cell_of_row _ _ _ _ _ _ hb9).trans (by simp), (cell_of_row _ _ _ _ _ _ hb9).trans (by simp), (cell_of_row _ _ _ _ _ _ hb9).trans (by simp)⟩)
  clear BW hb9
  go_wp2_with fail
  refine (HT.out _ HBW.out p0 HCM.out).mono ?_
  rintro e w2 hp
  obtain ⟨rfl, hp2⟩ := id hp
  have HP := Lib.hid hp
  clear hp hp2
  go_wp2
  go_ret
  exact HD.out _ _ HBW.out _ _ HP.out
set_option maxHeartbeats 4000000 in
set_option maxRecDepth 100000 in
theorem doGive_calls (h : CtlIs w cb c U tv fv lm jv fl xs) {n : Int} (hok : CtOk n c) (hn : n ≤ 1000) (hx : xs[i]? = some x) (cmd : Cmd) (v : Value) (hk : cmd.kind = 8) (hfl : cmd.flow = (i : Int)) :
    Calls Tryz.prog 34 #[.pointer (some ⟨cb, 0, none⟩), .agg (cmdCells cmd v)] w (DoPost w cb U ({ c with jobs := c.jobs.set i (giveJ cmd x.j).1 }, (giveJ cmd x.j).2)) := by
  have qf : ∀ W0 : World, (binOp .eql 134 (.func (.func 84) #[] #[.pointer (some ⟨w.heap.size + 1, 0, none⟩)]) .nilFunc).run Tryz.prog W0 = .ok (.bool false) W0 := fun W0 => by kernel_rfl
  have hmm := @run_makeMap Tryz.prog
  have hmf : ∀ (fn : Fn) (first cap : Array Value) (w : World), (Instr.makeFunc fn first cap).run Tryz.prog w = .ok (.func fn first cap) w := fun _ _ _ _ => rfl
  have HD := Lib.hid fun (W X : World) (k : Below w.heap.size w W) (r : Jb × Int) (e : Ending) => JobPost.done (X := X) (i := i) h k (r := r) (e := e)
  obtain ⟨kind, flow, att, num, wk, rd, kp, parts⟩ := cmd
  simp only at hk hfl
  subst hk hfl
  have hjo := (hok.jobs _ (List.mem_of_getElem? (h.job hx))).1
  have HT := Lib.hid fun (W : World) (k : Below w.heap.size w W) (hpc : W.cell? ⟨w.heap.size, 0, none⟩ = some (.pointer (some ⟨cb, 0, none⟩))) (hcm : CmdBox W (w.heap.size + 1) ⟨8, (i : Int), att, num, wk, rd, kp, parts⟩ v) => give_calls (h.below k) hx (w.heap.size + 1) ⟨8, (i : Int), att, num, wk, rd, kp, parts⟩ v hcm
  unfold cmdCells
  have hm0 := MapF.made ((w.alloc (.cells #[.pointer (some ⟨cb, 0, none⟩)] 49)).alloc (.cells #[.int .i64 8, .int .i64 (i : Int), .int .i64 att, .int .i64 num, .int .i64 wk, .int .i64 rd, .int .i64 kp, v] 60)) (.int .i64)
  have hsz : ((w.alloc (.cells #[.pointer (some ⟨cb, 0, none⟩)] 49)).alloc (.cells #[.int .i64 8, .int .i64 (i : Int), .int .i64 att, .int .i64 num, .int .i64 wk, .int .i64 rd, .int .i64 kp, v] 60)).heap.size = w.heap.size + 1 + 1 := by simp
  rw [hsz] at hm0
  have HM := Lib.hid hm0
  have B1 : Below w.heap.size w (((w.alloc (.cells #[.pointer (some ⟨cb, 0, none⟩)] 49)).alloc (.cells #[.int .i64 8, .int .i64 (i : Int), .int .i64 att, .int .i64 num, .int .i64 wk, .int .i64 rd, .int .i64 kp, v] 60)).alloc (.map #[] 0)) := balloc (balloc (box_below _ _) _) _
  have p0 := kc (box_below ((w.alloc (.cells #[.pointer (some ⟨cb, 0, none⟩)] 49)).alloc (.cells #[.int .i64 8, .int .i64 (i : Int), .int .i64 att, .int .i64 num, .int .i64 wk, .int .i64 rd, .int .i64 kp, v] 60)) (.map #[] 0)) (kc (box_below _ _) (cell_new (X := w) (g := w.heap.size) (cs := #[.pointer (some ⟨cb, 0, none⟩)]) (T := 49) (j := 0) rfl rfl))
  have q0 := kc (box_below ((w.alloc (.cells #[.pointer (some ⟨cb, 0, none⟩)] 49)).alloc (.cells #[.int .i64 8, .int .i64 (i : Int), .int .i64 att, .int .i64 num, .int .i64 wk, .int .i64 rd, .int .i64 kp, v] 60)) (.map #[] 0)) (cell_new (g := w.heap.size + 1) (j := 0) (v := .int .i64 8) (by simp) rfl)
  have q1 := kc (box_below ((w.alloc (.cells #[.pointer (some ⟨cb, 0, none⟩)] 49)).alloc (.cells #[.int .i64 8, .int .i64 (i : Int), .int .i64 att, .int .i64 num, .int .i64 wk, .int .i64 rd, .int .i64 kp, v] 60)) (.map #[] 0)) (cell_new (g := w.heap.size + 1) (j := 1) (v := .int .i64 (i : Int)) (by simp) rfl)
  have hil : i < xs.length := (List.getElem?_eq_some_iff.1 hx).1
  have hx8 : xs.length ≤ 8 := by
    have e1 : xs.length = c.jobs.length := by rw [← h.jobs]; simp
    have e2 := hok.len
    have e3 := (plan_len hok.plan).2
    omega
  obtain ⟨A, cp, rfl, -, hrow⟩ := h.now.ptrs
  obtain ⟨bj, oj, rfl, hcells⟩ := hrow (by omega)
  have jx := hcells i _ (by rw [List.getElem?_map, hx]; rfl)
  have hbj : bj < w.heap.size := lt_of_cell jx
  have jx1 := kc B1 jx
  have t1 : decide ((i : Int) < 0) = false := by simp
  have t2 : decide ((xs.length : Int) ≤ (i : Int)) = false := by simp; omega
  have hiI : (i : Int) < xs.length := by omega
  have k3 : w.cell? ⟨cb, 3, none⟩ = some (.slice (some ⟨bj, oj, none⟩) xs.length cp) := by rw [cell_of_row _ _ _ _ _ _ h.now.ctl]; simp
  have j3 := kc B1 k3
  have hcbl : cb < w.heap.size := h.lt cb h.cbU
  have hblk : (((w.alloc (.cells #[.pointer (some ⟨cb, 0, none⟩)] 49)).alloc (.cells #[.int .i64 8, .int .i64 (i : Int), .int .i64 att, .int .i64 num, .int .i64 wk, .int .i64 rd, .int .i64 kp, v] 60)).alloc (.map #[] 0)).heap[w.heap.size + 1]? = some (.cells #[.int .i64 8, .int .i64 (i : Int), .int .i64 att, .int .i64 num, .int .i64 wk, .int .i64 rd, .int .i64 kp, v] 60) := heap_up (heap_at (by simp))
  have HBLK := Lib.hid hblk
  clear hblk
  have HBT := Lib.hid (But.refl (w.heap.size + 1 + 1) (((w.alloc (.cells #[.pointer (some ⟨cb, 0, none⟩)] 49)).alloc (.cells #[.int .i64 8, .int .i64 (i : Int), .int .i64 att, .int .i64 num, .int .i64 wk, .int .i64 rd, .int .i64 kp, v] 60)).alloc (.map #[] 0)))
  have HB1 := Lib.hid B1
  have H := Lib.hid h
  clear hm0 hsz B1 k3 h hok hx hrow hcells jx hjo
  go_enter Tryz.func34, Tryz.ntmps34
  go_wp2_with (first | (at_lookup; refine list_look HM.out Tryz.underlying137 Tryz.underlying3 (z := .nilFunc) (by kernel_rfl) (by kernel_rfl) _ _ false rfl rfl (key := .int .i64 8) rfl rfl (v := .func (.func 84) #[] #[.pointer (some ⟨w.heap.size + 1, 0, none⟩)]) (by kernel_rfl) ?_) | (with_reducible refine list_ins HM.out Tryz.underlying137 Tryz.underlying3 (by kernel_rfl) _ _ _ rfl rfl rfl rfl ?_; intro w9 hm9 hb9; have HM := Lib.hid hm9; have p0 := hb9.cell (by simp; try omega) p0; have q0 := hb9.cell (by simp) q0; have q1 := hb9.cell (by simp) q1; have j3 := hb9.cell (by simp; omega) j3; have jx1 := hb9.cell (by simp; omega) jx1; have HBT := Lib.hid (HBT.out.trans hb9); clear hm9 hb9))
  go_quiet (fail)
  go_wp2
  refine draws_tail 9 (by kernel_rfl) (by kernel_rfl) ?_
  simp only [List.take_succ_cons, List.take_zero, List.drop_succ_cons, List.drop_zero]
  repeat (go_big_quiet_step (fail))
  refine wpQuiet_nil ?_
  rintro X ⟨nx, rfl⟩
  have BW := HB1.out.grown HBT.out HB1.out.size (fun k e => by cases e; omega)
  have HBW := Lib.hid (bdrewN BW (nq + nx))
  have hb9 := (HBT.out.block (w.heap.size + 1) (by simp) (fun e => by have := Option.some.inj e; omega)).trans HBLK.out
  have HCM := Lib.hid (show CmdBox (w9.drewN (nq + nx)) (w.heap.size + 1) ⟨8, (i : Int), att, num, wk, rd, kp, parts⟩ v from ⟨(cell_of_row _ _ _ _ _ _ hb9).trans (by simp), (cell_of_row _ _ _ _ _ _ hb9).trans (by simp), (cell_of_row _ _ _ _ _ _ hb9).trans (by simp), (cell_of_row _ _ _ _ _ _ hb9).trans (by simp), (cell_of_row _ _ _ _ _ _ hb9).trans (by simp), (cell_of_row _ _ _ _ _ _ hb9).trans (by simp), (cell_of_row _ _ _ _ _ _ hb9).trans (by simp), (cell_of_row _ _ _ _ _ _ hb9).trans (by simp)⟩)
  clear BW hb9
  go_wp2_with fail
  refine (HT.out _ HBW.out p0 HCM.out).mono ?_
  rintro e w2 hp
  obtain ⟨rfl, hp2⟩ := id hp
  have HP := Lib.hid hp
  clear hp hp2
  go_wp2
  go_ret
  exact HD.out _ _ HBW.out _ _ HP.out
end
end Go.Proofs.YtkjajlolfcioiaaGreatDoor.Control
