/- control.Do, walked: a kind that is none. -/
import Derived.Test.YtkjajlolfcioiaaGreatDoorYCtlDs
namespace Go.Proofs.YtkjajlolfcioiaaGreatDoor.Control
open Go Go.RowKit Go.MapKept Go.Proofs Go.Proofs.YtkjajlolfcioiaaGreatDoor Go.Proofs.YtkjajlolfcioiaaGreatDoor.Expr Go.Proofs.YtkjajlolfcioiaaGreatDoor.Own Go.Proofs.YtkjajlolfcioiaaGreatDoor.Tail Go.Proofs.YtkjajlolfcioiaaGreatDoor.Mp Go.Proofs.YtkjajlolfcioiaaGreatDoor.Mk Go.Proofs.YtkjajlolfcioiaaGreatDoor.Ints Go.Proofs.YtkjajlolfcioiaaGreatDoor.Plan Go.Proofs.YtkjajlolfcioiaaGreatDoor.Check Go.Proofs.YtkjajlolfcioiaaGreatDoor.Graph Go.Proofs.YtkjajlolfcioiaaGreatDoor.Ctl
section
variable {w W X : World} {cb : Nat} {c : Ct} {U : Nat → Prop} {tv fv : Value} {lm : Nat} {jv : Value} {fl : List FlwV} {xs : List JV} {i : Nat} {x : JV}
set_option maxHeartbeats 4000000 in
set_option maxRecDepth 100000 in
theorem doNone_calls (h : CtlIs w cb c U tv fv lm jv fl xs) {n : Int} (hok : CtOk n c) (hn : n ≤ 1000) (cmd : Cmd) (v : Value) (hk : cmd.kind < 1 ∨ 8 < cmd.kind) :
    Calls Tryz.prog 34 #[.pointer (some ⟨cb, 0, none⟩), .agg (cmdCells cmd v)] w (DoPost w cb U (c, 1)) := by
  have qf : ∀ W0 : World, (binOp .eql 134 .nilFunc .nilFunc).run Tryz.prog W0 = .ok (.bool true) W0 := fun W0 => by kernel_rfl
  have hmm := @run_makeMap Tryz.prog
  have hmf : ∀ (fn : Fn) (first cap : Array Value) (w : World), (Instr.makeFunc fn first cap).run Tryz.prog w = .ok (.func fn first cap) w := fun _ _ _ _ => rfl
  have HS := Lib.hid fun X k n => DoPost.same (X := X) h k n
  obtain ⟨kind, flow, att, num, wk, rd, kp, parts⟩ := cmd
  simp only at hk
  have z1 : (kind == 1) = false := by simp; omega
  have z2 : (kind == 2) = false := by simp; omega
  have hne : ∀ k : Int, 3 ≤ k → k ≤ 8 → Value.int .i64 kind ≠ .int .i64 k := fun k h1 h2 e => by
    have e : kind = k := by simpa using e
    omega
  have HNE := Lib.hid hne
  clear hne
  unfold cmdCells
  have hm0 := MapF.made ((w.alloc (.cells #[.pointer (some ⟨cb, 0, none⟩)] 49)).alloc (.cells #[.int .i64 kind, .int .i64 flow, .int .i64 att, .int .i64 num, .int .i64 wk, .int .i64 rd, .int .i64 kp, v] 60)) (.int .i64)
  have hsz : ((w.alloc (.cells #[.pointer (some ⟨cb, 0, none⟩)] 49)).alloc (.cells #[.int .i64 kind, .int .i64 flow, .int .i64 att, .int .i64 num, .int .i64 wk, .int .i64 rd, .int .i64 kp, v] 60)).heap.size = w.heap.size + 1 + 1 := by simp
  rw [hsz] at hm0
  have HM := Lib.hid hm0
  have B1 : Below w.heap.size w (((w.alloc (.cells #[.pointer (some ⟨cb, 0, none⟩)] 49)).alloc (.cells #[.int .i64 kind, .int .i64 flow, .int .i64 att, .int .i64 num, .int .i64 wk, .int .i64 rd, .int .i64 kp, v] 60)).alloc (.map #[] 0)) := balloc (balloc (box_below _ _) _) _
  have p0 := kc (box_below ((w.alloc (.cells #[.pointer (some ⟨cb, 0, none⟩)] 49)).alloc (.cells #[.int .i64 kind, .int .i64 flow, .int .i64 att, .int .i64 num, .int .i64 wk, .int .i64 rd, .int .i64 kp, v] 60)) (.map #[] 0)) (kc (box_below _ _) (cell_new (X := w) (g := w.heap.size) (cs := #[.pointer (some ⟨cb, 0, none⟩)]) (T := 49) (j := 0) rfl rfl))
  have q0 := kc (box_below ((w.alloc (.cells #[.pointer (some ⟨cb, 0, none⟩)] 49)).alloc (.cells #[.int .i64 kind, .int .i64 flow, .int .i64 att, .int .i64 num, .int .i64 wk, .int .i64 rd, .int .i64 kp, v] 60)) (.map #[] 0)) (cell_new (g := w.heap.size + 1) (j := 0) (v := .int .i64 kind) (by simp) rfl)
  have q1 := kc (box_below ((w.alloc (.cells #[.pointer (some ⟨cb, 0, none⟩)] 49)).alloc (.cells #[.int .i64 kind, .int .i64 flow, .int .i64 att, .int .i64 num, .int .i64 wk, .int .i64 rd, .int .i64 kp, v] 60)) (.map #[] 0)) (cell_new (g := w.heap.size + 1) (j := 1) (v := .int .i64 flow) (by simp) rfl)
  have hcbl : cb < w.heap.size := h.lt cb h.cbU
  have HBT := Lib.hid (But.refl (w.heap.size + 1 + 1) (((w.alloc (.cells #[.pointer (some ⟨cb, 0, none⟩)] 49)).alloc (.cells #[.int .i64 kind, .int .i64 flow, .int .i64 att, .int .i64 num, .int .i64 wk, .int .i64 rd, .int .i64 kp, v] 60)).alloc (.map #[] 0)))
  have HB1 := Lib.hid B1
  have H := Lib.hid h
  clear hm0 hsz B1 h hok hk H
  go_enter Tryz.func34, Tryz.ntmps34
  go_wp2_with (first | (at_lookup; refine list_look HM.out Tryz.underlying137 Tryz.underlying3 (z := .nilFunc) (by kernel_rfl) (by kernel_rfl) _ _ false rfl rfl (key := .int .i64 kind) rfl rfl (v := .nilFunc) (by rw [if_neg (by decide), putI_other _ _ _ _ (HNE.out 8 (by decide) (by decide)), putI_other _ _ _ _ (HNE.out 7 (by decide) (by decide)), putI_other _ _ _ _ (HNE.out 6 (by decide) (by decide)), putI_other _ _ _ _ (HNE.out 5 (by decide) (by decide)), putI_other _ _ _ _ (HNE.out 4 (by decide) (by decide)), putI_other _ _ _ _ (HNE.out 3 (by decide) (by decide))]; rfl) ?_) | (with_reducible refine list_ins HM.out Tryz.underlying137 Tryz.underlying3 (by kernel_rfl) _ _ _ rfl rfl rfl rfl ?_; intro w9 hm9 hb9; have HM := Lib.hid hm9; have p0 := hb9.cell (by simp; try omega) p0; have q0 := hb9.cell (by simp) q0; have q1 := hb9.cell (by simp) q1; have HBT := Lib.hid (HBT.out.trans hb9); clear hm9 hb9))
  go_quiet (fail)
  go_wp2
  go_ret
  have BW := HB1.out.grown HBT.out HB1.out.size (fun k e => by cases e; omega)
  exact HS.out _ (bdrewN BW _) 1
end
end Go.Proofs.YtkjajlolfcioiaaGreatDoor.Control

/- control.Do, walked: a flow that is none. -/
namespace Go.Proofs.YtkjajlolfcioiaaGreatDoor.Control
open Go Go.RowKit Go.MapKept Go.Proofs Go.Proofs.YtkjajlolfcioiaaGreatDoor Go.Proofs.YtkjajlolfcioiaaGreatDoor.Expr Go.Proofs.YtkjajlolfcioiaaGreatDoor.Own Go.Proofs.YtkjajlolfcioiaaGreatDoor.Tail Go.Proofs.YtkjajlolfcioiaaGreatDoor.Mp Go.Proofs.YtkjajlolfcioiaaGreatDoor.Mk Go.Proofs.YtkjajlolfcioiaaGreatDoor.Ints Go.Proofs.YtkjajlolfcioiaaGreatDoor.Plan Go.Proofs.YtkjajlolfcioiaaGreatDoor.Check Go.Proofs.YtkjajlolfcioiaaGreatDoor.Graph Go.Proofs.YtkjajlolfcioiaaGreatDoor.Ctl
section
variable {w W X : World} {cb : Nat} {c : Ct} {U : Nat → Prop} {tv fv : Value} {lm : Nat} {jv : Value} {fl : List FlwV} {xs : List JV} {i : Nat} {x : JV}
set_option maxHeartbeats 4000000 in
set_option maxRecDepth 100000 in
theorem doOut3_calls (h : CtlIs w cb c U tv fv lm jv fl xs) {n : Int} (hok : CtOk n c) (hn : n ≤ 1000) (cmd : Cmd) (v : Value) (hk : cmd.kind = 3) (hfl : cmd.flow < 0 ∨ (c.jobs.length : Int) ≤ cmd.flow) :
    Calls Tryz.prog 34 #[.pointer (some ⟨cb, 0, none⟩), .agg (cmdCells cmd v)] w (DoPost w cb U (c, 1)) := by
  have qf : ∀ W0 : World, (binOp .eql 134 (.func (.func 76) #[] #[.pointer (some ⟨w.heap.size, 0, none⟩)]) .nilFunc).run Tryz.prog W0 = .ok (.bool false) W0 := fun W0 => by kernel_rfl
  have hmm := @run_makeMap Tryz.prog
  have hmf : ∀ (fn : Fn) (first cap : Array Value) (w : World), (Instr.makeFunc fn first cap).run Tryz.prog w = .ok (.func fn first cap) w := fun _ _ _ _ => rfl
  have HS := Lib.hid fun X k n => DoPost.same (X := X) h k n
  have hxl : xs.length = c.jobs.length := by rw [← h.jobs]; simp
  obtain ⟨kind, flow, att, num, wk, rd, kp, parts⟩ := cmd
  simp only at hk hfl
  subst hk
  unfold cmdCells
  have hm0 := MapF.made ((w.alloc (.cells #[.pointer (some ⟨cb, 0, none⟩)] 49)).alloc (.cells #[.int .i64 3, .int .i64 flow, .int .i64 att, .int .i64 num, .int .i64 wk, .int .i64 rd, .int .i64 kp, v] 60)) (.int .i64)
  have hsz : ((w.alloc (.cells #[.pointer (some ⟨cb, 0, none⟩)] 49)).alloc (.cells #[.int .i64 3, .int .i64 flow, .int .i64 att, .int .i64 num, .int .i64 wk, .int .i64 rd, .int .i64 kp, v] 60)).heap.size = w.heap.size + 1 + 1 := by simp
  rw [hsz] at hm0
  have HM := Lib.hid hm0
  have B1 : Below w.heap.size w (((w.alloc (.cells #[.pointer (some ⟨cb, 0, none⟩)] 49)).alloc (.cells #[.int .i64 3, .int .i64 flow, .int .i64 att, .int .i64 num, .int .i64 wk, .int .i64 rd, .int .i64 kp, v] 60)).alloc (.map #[] 0)) := balloc (balloc (box_below _ _) _) _
  have p0 := kc (box_below ((w.alloc (.cells #[.pointer (some ⟨cb, 0, none⟩)] 49)).alloc (.cells #[.int .i64 3, .int .i64 flow, .int .i64 att, .int .i64 num, .int .i64 wk, .int .i64 rd, .int .i64 kp, v] 60)) (.map #[] 0)) (kc (box_below _ _) (cell_new (X := w) (g := w.heap.size) (cs := #[.pointer (some ⟨cb, 0, none⟩)]) (T := 49) (j := 0) rfl rfl))
  have q0 := kc (box_below ((w.alloc (.cells #[.pointer (some ⟨cb, 0, none⟩)] 49)).alloc (.cells #[.int .i64 3, .int .i64 flow, .int .i64 att, .int .i64 num, .int .i64 wk, .int .i64 rd, .int .i64 kp, v] 60)) (.map #[] 0)) (cell_new (g := w.heap.size + 1) (j := 0) (v := .int .i64 3) (by simp) rfl)
  have q1 := kc (box_below ((w.alloc (.cells #[.pointer (some ⟨cb, 0, none⟩)] 49)).alloc (.cells #[.int .i64 3, .int .i64 flow, .int .i64 att, .int .i64 num, .int .i64 wk, .int .i64 rd, .int .i64 kp, v] 60)) (.map #[] 0)) (cell_new (g := w.heap.size + 1) (j := 1) (v := .int .i64 flow) (by simp) rfl)
  have hx8 : xs.length ≤ 8 := by
    have e1 : xs.length = c.jobs.length := by rw [← h.jobs]; simp
    have e2 := hok.len
    have e3 := (plan_len hok.plan).2
    omega
  obtain ⟨A, cp, rfl, -, hrow⟩ := h.now.ptrs
  have k3 : w.cell? ⟨cb, 3, none⟩ = some (.slice A xs.length cp) := by rw [cell_of_row _ _ _ _ _ _ h.now.ctl]; simp
  have j3 := kc B1 k3
  have hcbl : cb < w.heap.size := h.lt cb h.cbU
  have HBT := Lib.hid (But.refl (w.heap.size + 1 + 1) (((w.alloc (.cells #[.pointer (some ⟨cb, 0, none⟩)] 49)).alloc (.cells #[.int .i64 3, .int .i64 flow, .int .i64 att, .int .i64 num, .int .i64 wk, .int .i64 rd, .int .i64 kp, v] 60)).alloc (.map #[] 0)))
  have HB1 := Lib.hid B1
  have H := Lib.hid h
  clear hm0 hsz B1 k3 h hok hrow H
  go_enter Tryz.func34, Tryz.ntmps34
  go_wp2_with (first | (at_lookup; refine list_look HM.out Tryz.underlying137 Tryz.underlying3 (z := .nilFunc) (by kernel_rfl) (by kernel_rfl) _ _ false rfl rfl (key := .int .i64 3) rfl rfl (v := .func (.func 76) #[] #[.pointer (some ⟨w.heap.size, 0, none⟩)]) (by kernel_rfl) ?_) | (with_reducible refine list_ins HM.out Tryz.underlying137 Tryz.underlying3 (by kernel_rfl) _ _ _ rfl rfl rfl rfl ?_; intro w9 hm9 hb9; have HM := Lib.hid hm9; have p0 := hb9.cell (by simp; try omega) p0; have q0 := hb9.cell (by simp) q0; have q1 := hb9.cell (by simp) q1; have j3 := hb9.cell (by simp; omega) j3; have HBT := Lib.hid (HBT.out.trans hb9); clear hm9 hb9))
  have BW := Lib.hid (HB1.out.grown HBT.out HB1.out.size (fun k e => by cases e; omega))
  by_cases hf0 : flow < 0
  · have t1 : decide (flow < 0) = true := by simpa using hf0
    go_quiet (fail)
    go_wp2
    go_ret
    exact HS.out _ (bdrewN BW.out _) 1
  · have t1 : decide (flow < 0) = false := by simpa using hf0
    have t2 : decide ((xs.length : Int) ≤ flow) = true := by simp; omega
    clear hxl hfl
    go_quiet (fail)
    go_wp2
    go_ret
    exact HS.out _ (bdrewN BW.out _) 1
set_option maxHeartbeats 4000000 in
set_option maxRecDepth 100000 in
theorem doOut4_calls (h : CtlIs w cb c U tv fv lm jv fl xs) {n : Int} (hok : CtOk n c) (hn : n ≤ 1000) (cmd : Cmd) (v : Value) (hk : cmd.kind = 4) (hfl : cmd.flow < 0 ∨ (c.jobs.length : Int) ≤ cmd.flow) :
    Calls Tryz.prog 34 #[.pointer (some ⟨cb, 0, none⟩), .agg (cmdCells cmd v)] w (DoPost w cb U (c, 1)) := by
  have qf : ∀ W0 : World, (binOp .eql 134 (.func (.func 78) #[] #[.pointer (some ⟨w.heap.size + 1, 0, none⟩), .pointer (some ⟨w.heap.size, 0, none⟩)]) .nilFunc).run Tryz.prog W0 = .ok (.bool false) W0 := fun W0 => by kernel_rfl
  have hmm := @run_makeMap Tryz.prog
  have hmf : ∀ (fn : Fn) (first cap : Array Value) (w : World), (Instr.makeFunc fn first cap).run Tryz.prog w = .ok (.func fn first cap) w := fun _ _ _ _ => rfl
  have HS := Lib.hid fun X k n => DoPost.same (X := X) h k n
  have hxl : xs.length = c.jobs.length := by rw [← h.jobs]; simp
  obtain ⟨kind, flow, att, num, wk, rd, kp, parts⟩ := cmd
  simp only at hk hfl
  subst hk
  unfold cmdCells
  have hm0 := MapF.made ((w.alloc (.cells #[.pointer (some ⟨cb, 0, none⟩)] 49)).alloc (.cells #[.int .i64 4, .int .i64 flow, .int .i64 att, .int .i64 num, .int .i64 wk, .int .i64 rd, .int .i64 kp, v] 60)) (.int .i64)
  have hsz : ((w.alloc (.cells #[.pointer (some ⟨cb, 0, none⟩)] 49)).alloc (.cells #[.int .i64 4, .int .i64 flow, .int .i64 att, .int .i64 num, .int .i64 wk, .int .i64 rd, .int .i64 kp, v] 60)).heap.size = w.heap.size + 1 + 1 := by simp
  rw [hsz] at hm0
  have HM := Lib.hid hm0
  have B1 : Below w.heap.size w (((w.alloc (.cells #[.pointer (some ⟨cb, 0, none⟩)] 49)).alloc (.cells #[.int .i64 4, .int .i64 flow, .int .i64 att, .int .i64 num, .int .i64 wk, .int .i64 rd, .int .i64 kp, v] 60)).alloc (.map #[] 0)) := balloc (balloc (box_below _ _) _) _
  have p0 := kc (box_below ((w.alloc (.cells #[.pointer (some ⟨cb, 0, none⟩)] 49)).alloc (.cells #[.int .i64 4, .int .i64 flow, .int .i64 att, .int .i64 num, .int .i64 wk, .int .i64 rd, .int .i64 kp, v] 60)) (.map #[] 0)) (kc (box_below _ _) (cell_new (X := w) (g := w.heap.size) (cs := #[.pointer (some ⟨cb, 0, none⟩)]) (T := 49) (j := 0) rfl rfl))
  have q0 := kc (box_below ((w.alloc (.cells #[.pointer (some ⟨cb, 0, none⟩)] 49)).alloc (.cells #[.int .i64 4, .int .i64 flow, .int .i64 att, .int .i64 num, .int .i64 wk, .int .i64 rd, .int .i64 kp, v] 60)) (.map #[] 0)) (cell_new (g := w.heap.size + 1) (j := 0) (v := .int .i64 4) (by simp) rfl)
  have q1 := kc (box_below ((w.alloc (.cells #[.pointer (some ⟨cb, 0, none⟩)] 49)).alloc (.cells #[.int .i64 4, .int .i64 flow, .int .i64 att, .int .i64 num, .int .i64 wk, .int .i64 rd, .int .i64 kp, v] 60)) (.map #[] 0)) (cell_new (g := w.heap.size + 1) (j := 1) (v := .int .i64 flow) (by simp) rfl)
  have hx8 : xs.length ≤ 8 := by
    have e1 : xs.length = c.jobs.length := by rw [← h.jobs]; simp
    have e2 := hok.len
    have e3 := (plan_len hok.plan).2
    omega
  obtain ⟨A, cp, rfl, -, hrow⟩ := h.now.ptrs
  have k3 : w.cell? ⟨cb, 3, none⟩ = some (.slice A xs.length cp) := by rw [cell_of_row _ _ _ _ _ _ h.now.ctl]; simp
  have j3 := kc B1 k3
  have hcbl : cb < w.heap.size := h.lt cb h.cbU
  have HBT := Lib.hid (But.refl (w.heap.size + 1 + 1) (((w.alloc (.cells #[.pointer (some ⟨cb, 0, none⟩)] 49)).alloc (.cells #[.int .i64 4, .int .i64 flow, .int .i64 att, .int .i64 num, .int .i64 wk, .int .i64 rd, .int .i64 kp, v] 60)).alloc (.map #[] 0)))
  have HB1 := Lib.hid B1
  have H := Lib.hid h
  clear hm0 hsz B1 k3 h hok hrow H
  go_enter Tryz.func34, Tryz.ntmps34
  go_wp2_with (first | (at_lookup; refine list_look HM.out Tryz.underlying137 Tryz.underlying3 (z := .nilFunc) (by kernel_rfl) (by kernel_rfl) _ _ false rfl rfl (key := .int .i64 4) rfl rfl (v := .func (.func 78) #[] #[.pointer (some ⟨w.heap.size + 1, 0, none⟩), .pointer (some ⟨w.heap.size, 0, none⟩)]) (by kernel_rfl) ?_) | (with_reducible refine list_ins HM.out Tryz.underlying137 Tryz.underlying3 (by kernel_rfl) _ _ _ rfl rfl rfl rfl ?_; intro w9 hm9 hb9; have HM := Lib.hid hm9; have p0 := hb9.cell (by simp; try omega) p0; have q0 := hb9.cell (by simp) q0; have q1 := hb9.cell (by simp) q1; have j3 := hb9.cell (by simp; omega) j3; have HBT := Lib.hid (HBT.out.trans hb9); clear hm9 hb9))
  have BW := Lib.hid (HB1.out.grown HBT.out HB1.out.size (fun k e => by cases e; omega))
  by_cases hf0 : flow < 0
  · have t1 : decide (flow < 0) = true := by simpa using hf0
    go_quiet (fail)
    go_wp2
    go_ret
    exact HS.out _ (bdrewN BW.out _) 1
  · have t1 : decide (flow < 0) = false := by simpa using hf0
    have t2 : decide ((xs.length : Int) ≤ flow) = true := by simp; omega
    clear hxl hfl
    go_quiet (fail)
    go_wp2
    go_ret
    exact HS.out _ (bdrewN BW.out _) 1
set_option maxHeartbeats 4000000 in
set_option maxRecDepth 100000 in
theorem doOut5_calls (h : CtlIs w cb c U tv fv lm jv fl xs) {n : Int} (hok : CtOk n c) (hn : n ≤ 1000) (cmd : Cmd) (v : Value) (hk : cmd.kind = 5) (hfl : cmd.flow < 0 ∨ (c.jobs.length : Int) ≤ cmd.flow) :
    Calls Tryz.prog 34 #[.pointer (some ⟨cb, 0, none⟩), .agg (cmdCells cmd v)] w (DoPost w cb U (c, 1)) := by
  have qf : ∀ W0 : World, (binOp .eql 134 (.func (.func 79) #[] #[.pointer (some ⟨w.heap.size, 0, none⟩), .pointer (some ⟨w.heap.size + 1, 0, none⟩)]) .nilFunc).run Tryz.prog W0 = .ok (.bool false) W0 := fun W0 => by kernel_rfl
  have hmm := @run_makeMap Tryz.prog
  have hmf : ∀ (fn : Fn) (first cap : Array Value) (w : World), (Instr.makeFunc fn first cap).run Tryz.prog w = .ok (.func fn first cap) w := fun _ _ _ _ => rfl
  have HS := Lib.hid fun X k n => DoPost.same (X := X) h k n
  have hxl : xs.length = c.jobs.length := by rw [← h.jobs]; simp
  obtain ⟨kind, flow, att, num, wk, rd, kp, parts⟩ := cmd
  simp only at hk hfl
  subst hk
  unfold cmdCells
  have hm0 := MapF.made ((w.alloc (.cells #[.pointer (some ⟨cb, 0, none⟩)] 49)).alloc (.cells #[.int .i64 5, .int .i64 flow, .int .i64 att, .int .i64 num, .int .i64 wk, .int .i64 rd, .int .i64 kp, v] 60)) (.int .i64)
  have hsz : ((w.alloc (.cells #[.pointer (some ⟨cb, 0, none⟩)] 49)).alloc (.cells #[.int .i64 5, .int .i64 flow, .int .i64 att, .int .i64 num, .int .i64 wk, .int .i64 rd, .int .i64 kp, v] 60)).heap.size = w.heap.size + 1 + 1 := by simp
  rw [hsz] at hm0
  have HM := Lib.hid hm0
  have B1 : Below w.heap.size w (((w.alloc (.cells #[.pointer (some ⟨cb, 0, none⟩)] 49)).alloc (.cells #[.int .i64 5, .int .i64 flow, .int .i64 att, .int .i64 num, .int .i64 wk, .int .i64 rd, .int .i64 kp, v] 60)).alloc (.map #[] 0)) := balloc (balloc (box_below _ _) _) _
  have p0 := kc (box_below ((w.alloc (.cells #[.pointer (some ⟨cb, 0, none⟩)] 49)).alloc (.cells #[.int .i64 5, .int .i64 flow, .int .i64 att, .int .i64 num, .int .i64 wk, .int .i64 rd, .int .i64 kp, v] 60)) (.map #[] 0)) (kc (box_below _ _) (cell_new (X := w) (g := w.heap.size) (cs := #[.pointer (some ⟨cb, 0, none⟩)]) (T := 49) (j := 0) rfl rfl))
  have q0 := kc (box_below ((w.alloc (.cells #[.pointer (some ⟨cb, 0, none⟩)] 49)).alloc (.cells #[.int .i64 5, .int .i64 flow, .int .i64 att, .int .i64 num, .int .i64 wk, .int .i64 rd, .int .i64 kp, v] 60)) (.map #[] 0)) (cell_new (g := w.heap.size + 1) (j := 0) (v := .int .i64 5) (by simp) rfl)
  have q1 := kc (box_below ((w.alloc (.cells #[.pointer (some ⟨cb, 0, none⟩)] 49)).alloc (.cells #[.int .i64 5, .int .i64 flow, .int .i64 att, .int .i64 num, .int .i64 wk, .int .i64 rd, .int .i64 kp, v] 60)) (.map #[] 0)) (cell_new (g := w.heap.size + 1) (j := 1) (v := .int .i64 flow) (by simp) rfl)
  have hx8 : xs.length ≤ 8 := by
    have e1 : xs.length = c.jobs.length := by rw [← h.jobs]; simp
    have e2 := hok.len
    have e3 := (plan_len hok.plan).2
    omega
  obtain ⟨A, cp, rfl, -, hrow⟩ := h.now.ptrs
  have k3 : w.cell? ⟨cb, 3, none⟩ = some (.slice A xs.length cp) := by rw [cell_of_row _ _ _ _ _ _ h.now.ctl]; simp
  have j3 := kc B1 k3
  have hcbl : cb < w.heap.size := h.lt cb h.cbU
  have HBT := Lib.hid (But.refl (w.heap.size + 1 + 1) (((w.alloc (.cells #[.pointer (some ⟨cb, 0, none⟩)] 49)).alloc (.cells #[.int .i64 5, .int .i64 flow, .int .i64 att, .int .i64 num, .int .i64 wk, .int .i64 rd, .int .i64 kp, v] 60)).alloc (.map #[] 0)))
  have HB1 := Lib.hid B1
  have H := Lib.hid h
  clear hm0 hsz B1 k3 h hok hrow H
  go_enter Tryz.func34, Tryz.ntmps34
  go_wp2_with (first | (at_lookup; refine list_look HM.out Tryz.underlying137 Tryz.underlying3 (z := .nilFunc) (by kernel_rfl) (by kernel_rfl) _ _ false rfl rfl (key := .int .i64 5) rfl rfl (v := .func (.func 79) #[] #[.pointer (some ⟨w.heap.size, 0, none⟩), .pointer (some ⟨w.heap.size + 1, 0, none⟩)]) (by kernel_rfl) ?_) | (with_reducible refine list_ins HM.out Tryz.underlying137 Tryz.underlying3 (by kernel_rfl) _ _ _ rfl rfl rfl rfl ?_; intro w9 hm9 hb9; have HM := Lib.hid hm9; have p0 := hb9.cell (by simp; try omega) p0; have q0 := hb9.cell (by simp) q0; have q1 := hb9.cell (by simp) q1; have j3 := hb9.cell (by simp; omega) j3; have HBT := Lib.hid (HBT.out.trans hb9); clear hm9 hb9))
  have BW := Lib.hid (HB1.out.grown HBT.out HB1.out.size (fun k e => by cases e; omega))
  by_cases hf0 : flow < 0
  · have t1 : decide (flow < 0) = true := by simpa using hf0
    go_quiet (fail)
    go_wp2
    go_ret
    exact HS.out _ (bdrewN BW.out _) 1
  · have t1 : decide (flow < 0) = false := by simpa using hf0
    have t2 : decide ((xs.length : Int) ≤ flow) = true := by simp; omega
    clear hxl hfl
    go_quiet (fail)
    go_wp2
    go_ret
    exact HS.out _ (bdrewN BW.out _) 1
set_option maxHeartbeats 4000000 in
set_option maxRecDepth 100000 in
theorem doOut6_calls (h : CtlIs w cb c U tv fv lm jv fl xs) {n : Int} (hok : CtOk n c) (hn : n ≤ 1000) (cmd : Cmd) (v : Value) (hk : cmd.kind = 6) (hfl : cmd.flow < 0 ∨ (c.jobs.length : Int) ≤ cmd.flow) :
    Calls Tryz.prog 34 #[.pointer (some ⟨cb, 0, none⟩), .agg (cmdCells cmd v)] w (DoPost w cb U (c, 1)) := by
  have qf : ∀ W0 : World, (binOp .eql 134 (.func (.func 81) #[] #[]) .nilFunc).run Tryz.prog W0 = .ok (.bool false) W0 := fun W0 => by kernel_rfl
  have hmm := @run_makeMap Tryz.prog
  have hmf : ∀ (fn : Fn) (first cap : Array Value) (w : World), (Instr.makeFunc fn first cap).run Tryz.prog w = .ok (.func fn first cap) w := fun _ _ _ _ => rfl
  have HS := Lib.hid fun X k n => DoPost.same (X := X) h k n
  have hxl : xs.length = c.jobs.length := by rw [← h.jobs]; simp
  obtain ⟨kind, flow, att, num, wk, rd, kp, parts⟩ := cmd
  simp only at hk hfl
  subst hk
  unfold cmdCells
  have hm0 := MapF.made ((w.alloc (.cells #[.pointer (some ⟨cb, 0, none⟩)] 49)).alloc (.cells #[.int .i64 6, .int .i64 flow, .int .i64 att, .int .i64 num, .int .i64 wk, .int .i64 rd, .int .i64 kp, v] 60)) (.int .i64)
  have hsz : ((w.alloc (.cells #[.pointer (some ⟨cb, 0, none⟩)] 49)).alloc (.cells #[.int .i64 6, .int .i64 flow, .int .i64 att, .int .i64 num, .int .i64 wk, .int .i64 rd, .int .i64 kp, v] 60)).heap.size = w.heap.size + 1 + 1 := by simp
  rw [hsz] at hm0
  have HM := Lib.hid hm0
  have B1 : Below w.heap.size w (((w.alloc (.cells #[.pointer (some ⟨cb, 0, none⟩)] 49)).alloc (.cells #[.int .i64 6, .int .i64 flow, .int .i64 att, .int .i64 num, .int .i64 wk, .int .i64 rd, .int .i64 kp, v] 60)).alloc (.map #[] 0)) := balloc (balloc (box_below _ _) _) _
  have p0 := kc (box_below ((w.alloc (.cells #[.pointer (some ⟨cb, 0, none⟩)] 49)).alloc (.cells #[.int .i64 6, .int .i64 flow, .int .i64 att, .int .i64 num, .int .i64 wk, .int .i64 rd, .int .i64 kp, v] 60)) (.map #[] 0)) (kc (box_below _ _) (cell_new (X := w) (g := w.heap.size) (cs := #[.pointer (some ⟨cb, 0, none⟩)]) (T := 49) (j := 0) rfl rfl))
  have q0 := kc (box_below ((w.alloc (.cells #[.pointer (some ⟨cb, 0, none⟩)] 49)).alloc (.cells #[.int .i64 6, .int .i64 flow, .int .i64 att, .int .i64 num, .int .i64 wk, .int .i64 rd, .int .i64 kp, v] 60)) (.map #[] 0)) (cell_new (g := w.heap.size + 1) (j := 0) (v := .int .i64 6) (by simp) rfl)
  have q1 := kc (box_below ((w.alloc (.cells #[.pointer (some ⟨cb, 0, none⟩)] 49)).alloc (.cells #[.int .i64 6, .int .i64 flow, .int .i64 att, .int .i64 num, .int .i64 wk, .int .i64 rd, .int .i64 kp, v] 60)) (.map #[] 0)) (cell_new (g := w.heap.size + 1) (j := 1) (v := .int .i64 flow) (by simp) rfl)
  have hx8 : xs.length ≤ 8 := by
    have e1 : xs.length = c.jobs.length := by rw [← h.jobs]; simp
    have e2 := hok.len
    have e3 := (plan_len hok.plan).2
    omega
  obtain ⟨A, cp, rfl, -, hrow⟩ := h.now.ptrs
  have k3 : w.cell? ⟨cb, 3, none⟩ = some (.slice A xs.length cp) := by rw [cell_of_row _ _ _ _ _ _ h.now.ctl]; simp
  have j3 := kc B1 k3
  have hcbl : cb < w.heap.size := h.lt cb h.cbU
  have HBT := Lib.hid (But.refl (w.heap.size + 1 + 1) (((w.alloc (.cells #[.pointer (some ⟨cb, 0, none⟩)] 49)).alloc (.cells #[.int .i64 6, .int .i64 flow, .int .i64 att, .int .i64 num, .int .i64 wk, .int .i64 rd, .int .i64 kp, v] 60)).alloc (.map #[] 0)))
  have HB1 := Lib.hid B1
  have H := Lib.hid h
  clear hm0 hsz B1 k3 h hok hrow H
  go_enter Tryz.func34, Tryz.ntmps34
  go_wp2_with (first | (at_lookup; refine list_look HM.out Tryz.underlying137 Tryz.underlying3 (z := .nilFunc) (by kernel_rfl) (by kernel_rfl) _ _ false rfl rfl (key := .int .i64 6) rfl rfl (v := .func (.func 81) #[] #[]) (by kernel_rfl) ?_) | (with_reducible refine list_ins HM.out Tryz.underlying137 Tryz.underlying3 (by kernel_rfl) _ _ _ rfl rfl rfl rfl ?_; intro w9 hm9 hb9; have HM := Lib.hid hm9; have p0 := hb9.cell (by simp; try omega) p0; have q0 := hb9.cell (by simp) q0; have q1 := hb9.cell (by simp) q1; have j3 := hb9.cell (by simp; omega) j3; have HBT := Lib.hid (HBT.out.trans hb9); clear hm9 hb9))
  have BW := Lib.hid (HB1.out.grown HBT.out HB1.out.size (fun k e => by cases e; omega))
  by_cases hf0 : flow < 0
  · have t1 : decide (flow < 0) = true := by simpa using hf0
    go_quiet (fail)
    go_wp2
    go_ret
    exact HS.out _ (bdrewN BW.out _) 1
  · have t1 : decide (flow < 0) = false := by simpa using hf0
    have t2 : decide ((xs.length : Int) ≤ flow) = true := by simp; omega
    clear hxl hfl
    go_quiet (fail)
    go_wp2
    go_ret
    exact HS.out _ (bdrewN BW.out _) 1
set_option maxHeartbeats 4000000 in
set_option maxRecDepth 100000 in
theorem doOut7_calls (h : CtlIs w cb c U tv fv lm jv fl xs) {n : Int} (hok : CtOk n c) (hn : n ≤ 1000) (cmd : Cmd) (v : Value) (hk : cmd.kind = 7) (hfl : cmd.flow < 0 ∨ (c.jobs.length : Int) ≤ cmd.flow) :
    Calls Tryz.prog 34 #[.pointer (some ⟨cb, 0, none⟩), .agg (cmdCells cmd v)] w (DoPost w cb U (c, 1)) := by
  have qf : ∀ W0 : World, (binOp .eql 134 (.func (.func 82) #[] #[.pointer (some ⟨w.heap.size, 0, none⟩), .pointer (some ⟨w.heap.size + 1, 0, none⟩)]) .nilFunc).run Tryz.prog W0 = .ok (.bool false) W0 := fun W0 => by kernel_rfl
  have hmm := @run_makeMap Tryz.prog
  have hmf : ∀ (fn : Fn) (first cap : Array Value) (w : World), (Instr.makeFunc fn first cap).run Tryz.prog w = .ok (.func fn first cap) w := fun _ _ _ _ => rfl
  have HS := Lib.hid fun X k n => DoPost.same (X := X) h k n
  have hxl : xs.length = c.jobs.length := by rw [← h.jobs]; simp
  obtain ⟨kind, flow, att, num, wk, rd, kp, parts⟩ := cmd
  simp only at hk hfl
  subst hk
  unfold cmdCells
  have hm0 := MapF.made ((w.alloc (.cells #[.pointer (some ⟨cb, 0, none⟩)] 49)).alloc (.cells #[.int .i64 7, .int .i64 flow, .int .i64 att, .int .i64 num, .int .i64 wk, .int .i64 rd, .int .i64 kp, v] 60)) (.int .i64)
  have hsz : ((w.alloc (.cells #[.pointer (some ⟨cb, 0, none⟩)] 49)).alloc (.cells #[.int .i64 7, .int .i64 flow, .int .i64 att, .int .i64 num, .int .i64 wk, .int .i64 rd, .int .i64 kp, v] 60)).heap.size = w.heap.size + 1 + 1 := by simp
  rw [hsz] at hm0
  have HM := Lib.hid hm0
  have B1 : Below w.heap.size w (((w.alloc (.cells #[.pointer (some ⟨cb, 0, none⟩)] 49)).alloc (.cells #[.int .i64 7, .int .i64 flow, .int .i64 att, .int .i64 num, .int .i64 wk, .int .i64 rd, .int .i64 kp, v] 60)).alloc (.map #[] 0)) := balloc (balloc (box_below _ _) _) _
  have p0 := kc (box_below ((w.alloc (.cells #[.pointer (some ⟨cb, 0, none⟩)] 49)).alloc (.cells #[.int .i64 7, .int .i64 flow, .int .i64 att, .int .i64 num, .int .i64 wk, .int .i64 rd, .int .i64 kp, v] 60)) (.map #[] 0)) (kc (box_below _ _) (cell_new (X := w) (g := w.heap.size) (cs := #[.pointer (some ⟨cb, 0, none⟩)]) (T := 49) (j := 0) rfl rfl))
  have q0 := kc (box_below ((w.alloc (.cells #[.pointer (some ⟨cb, 0, none⟩)] 49)).alloc (.cells #[.int .i64 7, .int .i64 flow, .int .i64 att, .int .i64 num, .int .i64 wk, .int .i64 rd, .int .i64 kp, v] 60)) (.map #[] 0)) (cell_new (g := w.heap.size + 1) (j := 0) (v := .int .i64 7) (by simp) rfl)
  have q1 := kc (box_below ((w.alloc (.cells #[.pointer (some ⟨cb, 0, none⟩)] 49)).alloc (.cells #[.int .i64 7, .int .i64 flow, .int .i64 att, .int .i64 num, .int .i64 wk, .int .i64 rd, .int .i64 kp, v] 60)) (.map #[] 0)) (cell_new (g := w.heap.size + 1) (j := 1) (v := .int .i64 flow) (by simp) rfl)
  have hx8 : xs.length ≤ 8 := by
    have e1 : xs.length = c.jobs.length := by rw [← h.jobs]; simp
    have e2 := hok.len
    have e3 := (plan_len hok.plan).2
    omega
  obtain ⟨A, cp, rfl, -, hrow⟩ := h.now.ptrs
  have k3 : w.cell? ⟨cb, 3, none⟩ = some (.slice A xs.length cp) := by rw [cell_of_row _ _ _ _ _ _ h.now.ctl]; simp
  have j3 := kc B1 k3
  have hcbl : cb < w.heap.size := h.lt cb h.cbU
  have HBT := Lib.hid (But.refl (w.heap.size + 1 + 1) (((w.alloc (.cells #[.pointer (some ⟨cb, 0, none⟩)] 49)).alloc (.cells #[.int .i64 7, .int .i64 flow, .int .i64 att, .int .i64 num, .int .i64 wk, .int .i64 rd, .int .i64 kp, v] 60)).alloc (.map #[] 0)))
  have HB1 := Lib.hid B1
  have H := Lib.hid h
  clear hm0 hsz B1 k3 h hok hrow H
  go_enter Tryz.func34, Tryz.ntmps34
  go_wp2_with (first | (at_lookup; refine list_look HM.out Tryz.underlying137 Tryz.underlying3 (z := .nilFunc) (by kernel_rfl) (by kernel_rfl) _ _ false rfl rfl (key := .int .i64 7) rfl rfl (v := .func (.func 82) #[] #[.pointer (some ⟨w.heap.size, 0, none⟩), .pointer (some ⟨w.heap.size + 1, 0, none⟩)]) (by kernel_rfl) ?_) | (with_reducible refine list_ins HM.out Tryz.underlying137 Tryz.underlying3 (by kernel_rfl) _ _ _ rfl rfl rfl rfl ?_; intro w9 hm9 hb9; have HM := Lib.hid hm9; have p0 := hb9.cell (by simp; try omega) p0; have q0 := hb9.cell (by simp) q0; have q1 := hb9.cell (by simp) q1; have j3 := hb9.cell (by simp; omega) j3; have HBT := Lib.hid (HBT.out.trans hb9); clear hm9 hb9))
  have BW := Lib.hid (HB1.out.grown HBT.out HB1.out.size (fun k e => by cases e; omega))
  by_cases hf0 : flow < 0
  · have t1 : decide (flow < 0) = true := by simpa using hf0
    go_quiet (fail)
    go_wp2
    go_ret
    exact HS.out _ (bdrewN BW.out _) 1
  · have t1 : decide (flow < 0) = false := by simpa using hf0
    have t2 : decide ((xs.length : Int) ≤ flow) = true := by simp; omega
    clear hxl hfl
    go_quiet (fail)
    go_wp2
    go_ret
    exact HS.out _ (bdrewN BW.out _) 1
set_option maxHeartbeats 4000000 in
set_option maxRecDepth 100000 in
theorem doOut8_calls (h : CtlIs w cb c U tv fv lm jv fl xs) {n : Int} (hok : CtOk n c) (hn : n ≤ 1000) (cmd : Cmd) (v : Value) (hk : cmd.kind = 8) (hfl : cmd.flow < 0 ∨ (c.jobs.length : Int) ≤ cmd.flow) :
    Calls Tryz.prog 34 #[.pointer (some ⟨cb, 0, none⟩), .agg (cmdCells cmd v)] w (DoPost w cb U (c, 1)) := by
  have qf : ∀ W0 : World, (binOp .eql 134 (.func (.func 84) #[] #[.pointer (some ⟨w.heap.size + 1, 0, none⟩)]) .nilFunc).run Tryz.prog W0 = .ok (.bool false) W0 := fun W0 => by kernel_rfl
  have hmm := @run_makeMap Tryz.prog
  have hmf : ∀ (fn : Fn) (first cap : Array Value) (w : World), (Instr.makeFunc fn first cap).run Tryz.prog w = .ok (.func fn first cap) w := fun _ _ _ _ => rfl
  have HS := Lib.hid fun X k n => DoPost.same (X := X) h k n
  have hxl : xs.length = c.jobs.length := by rw [← h.jobs]; simp
  obtain ⟨kind, flow, att, num, wk, rd, kp, parts⟩ := cmd
  simp only at hk hfl
  subst hk
  unfold cmdCells
  have hm0 := MapF.made ((w.alloc (.cells #[.pointer (some ⟨cb, 0, none⟩)] 49)).alloc (.cells #[.int .i64 8, .int .i64 flow, .int .i64 att, .int .i64 num, .int .i64 wk, .int .i64 rd, .int .i64 kp, v] 60)) (.int .i64)
  have hsz : ((w.alloc (.cells #[.pointer (some ⟨cb, 0, none⟩)] 49)).alloc (.cells #[.int .i64 8, .int .i64 flow, .int .i64 att, .int .i64 num, .int .i64 wk, .int .i64 rd, .int .i64 kp, v] 60)).heap.size = w.heap.size + 1 + 1 := by simp
  rw [hsz] at hm0
  have HM := Lib.hid hm0
  have B1 : Below w.heap.size w (((w.alloc (.cells #[.pointer (some ⟨cb, 0, none⟩)] 49)).alloc (.cells #[.int .i64 8, .int .i64 flow, .int .i64 att, .int .i64 num, .int .i64 wk, .int .i64 rd, .int .i64 kp, v] 60)).alloc (.map #[] 0)) := balloc (balloc (box_below _ _) _) _
  have p0 := kc (box_below ((w.alloc (.cells #[.pointer (some ⟨cb, 0, none⟩)] 49)).alloc (.cells #[.int .i64 8, .int .i64 flow, .int .i64 att, .int .i64 num, .int .i64 wk, .int .i64 rd, .int .i64 kp, v] 60)) (.map #[] 0)) (kc (box_below _ _) (cell_new (X := w) (g := w.heap.size) (cs := #[.pointer (some ⟨cb, 0, none⟩)]) (T := 49) (j := 0) rfl rfl))
  have q0 := kc (box_below ((w.alloc (.cells #[.pointer (some ⟨cb, 0, none⟩)] 49)).alloc (.cells #[.int .i64 8, .int .i64 flow, .int .i64 att, .int .i64 num, .int .i64 wk, .int .i64 rd, .int .i64 kp, v] 60)) (.map #[] 0)) (cell_new (g := w.heap.size + 1) (j := 0) (v := .int .i64 8) (by simp) rfl)
  have q1 := kc (box_below ((w.alloc (.cells #[.pointer (some ⟨cb, 0, none⟩)] 49)).alloc (.cells #[.int .i64 8, .int .i64 flow, .int .i64 att, .int .i64 num, .int .i64 wk, .int .i64 rd, .int .i64 kp, v] 60)) (.map #[] 0)) (cell_new (g := w.heap.size + 1) (j := 1) (v := .int .i64 flow) (by simp) rfl)
  have hx8 : xs.length ≤ 8 := by
    have e1 : xs.length = c.jobs.length := by rw [← h.jobs]; simp
    have e2 := hok.len
    have e3 := (plan_len hok.plan).2
    omega
  obtain ⟨A, cp, rfl, -, hrow⟩ := h.now.ptrs
  have k3 : w.cell? ⟨cb, 3, none⟩ = some (.slice A xs.length cp) := by rw [cell_of_row _ _ _ _ _ _ h.now.ctl]; simp
  have j3 := kc B1 k3
  have hcbl : cb < w.heap.size := h.lt cb h.cbU
  have HBT := Lib.hid (But.refl (w.heap.size + 1 + 1) (((w.alloc (.cells #[.pointer (some ⟨cb, 0, none⟩)] 49)).alloc (.cells #[.int .i64 8, .int .i64 flow, .int .i64 att, .int .i64 num, .int .i64 wk, .int .i64 rd, .int .i64 kp, v] 60)).alloc (.map #[] 0)))
  have HB1 := Lib.hid B1
  have H := Lib.hid h
  clear hm0 hsz B1 k3 h hok hrow H
  go_enter Tryz.func34, Tryz.ntmps34
  go_wp2_with (first | (at_lookup; refine list_look HM.out Tryz.underlying137 Tryz.underlying3 (z := .nilFunc) (by kernel_rfl) (by kernel_rfl) _ _ false rfl rfl (key := .int .i64 8) rfl rfl (v := .func (.func 84) #[] #[.pointer (some ⟨w.heap.size + 1, 0, none⟩)]) (by kernel_rfl) ?_) | (with_reducible refine list_ins HM.out Tryz.underlying137 Tryz.underlying3 (by kernel_rfl) _ _ _ rfl rfl rfl rfl ?_; intro w9 hm9 hb9; have HM := Lib.hid hm9; have p0 := hb9.cell (by simp; try omega) p0; have q0 := hb9.cell (by simp) q0; have q1 := hb9.cell (by simp) q1; have j3 := hb9.cell (by simp; omega) j3; have HBT := Lib.hid (HBT.out.trans hb9); clear hm9 hb9))
  have BW := Lib.hid (HB1.out.grown HBT.out HB1.out.size (fun k e => by cases e; omega))
  by_cases hf0 : flow < 0
  · have t1 : decide (flow < 0) = true := by simpa using hf0
    go_quiet (fail)
    go_wp2
    go_ret
    exact HS.out _ (bdrewN BW.out _) 1
  · have t1 : decide (flow < 0) = false := by simpa using hf0
    have t2 : decide ((xs.length : Int) ≤ flow) = true := by simp; omega
    clear hxl hfl
    go_quiet (fail)
    go_wp2
    go_ret
    exact HS.out _ (bdrewN BW.out _) 1
end
end Go.Proofs.YtkjajlolfcioiaaGreatDoor.Control

/- control.Do, whole. -/
namespace Go.Proofs.YtkjajlolfcioiaaGreatDoor.Control
open Go Go.RowKit Go.MapKept Go.Proofs Go.Proofs.YtkjajlolfcioiaaGreatDoor Go.Proofs.YtkjajlolfcioiaaGreatDoor.Own Go.Proofs.YtkjajlolfcioiaaGreatDoor.Mp Go.Proofs.YtkjajlolfcioiaaGreatDoor.Plan Go.Proofs.YtkjajlolfcioiaaGreatDoor.Check Go.Proofs.YtkjajlolfcioiaaGreatDoor.Ctl
section
variable {w : World} {cb : Nat} {c : Ct} {U : Nat → Prop} {tv fv : Value} {lm : Nat} {jv : Value} {fl : List FlwV} {xs : List JV}
theorem do_calls (h : CtlIs w cb c U tv fv lm jv fl xs) {n : Int} (hok : CtOk n c) (hn : n ≤ 1000) (cmd : Cmd) (v : Value) (hpt : ∀ X, Kp U w X → PartsAt X v cmd.parts) (hpl : cmd.parts.length ≤ 1000) :
    Calls Tryz.prog 34 #[.pointer (some ⟨cb, 0, none⟩), .agg (cmdCells cmd v)] w (DoPost w cb U (doC c cmd)) := by
  by_cases h12 : cmd.kind = 1 ∨ cmd.kind = 2
  · exact doWorker_calls h hok hn cmd v h12
  by_cases hno : cmd.kind < 1 ∨ 8 < cmd.kind
  · have e : doC c cmd = (c, 1) := by unfold doC; rw [if_neg h12, if_pos (by omega)]
    rw [e]
    exact doNone_calls h hok hn cmd v hno
  have hk : cmd.kind = 3 ∨ cmd.kind = 4 ∨ cmd.kind = 5 ∨ cmd.kind = 6 ∨ cmd.kind = 7 ∨ cmd.kind = 8 := by omega
  by_cases hfl : cmd.flow < 0 ∨ (c.jobs.length : Int) ≤ cmd.flow
  · have e : doC c cmd = (c, 1) := by
      unfold doC
      rw [if_neg h12]
      by_cases hf : cmd.flow < 0
      · rw [if_pos (.inr (.inr hf))]
      · rw [if_neg (by omega), List.getElem?_eq_none (by omega)]
    rw [e]
    rcases hk with hk | hk | hk | hk | hk | hk
    · exact doOut3_calls h hok hn cmd v hk hfl
    · exact doOut4_calls h hok hn cmd v hk hfl
    · exact doOut5_calls h hok hn cmd v hk hfl
    · exact doOut6_calls h hok hn cmd v hk hfl
    · exact doOut7_calls h hok hn cmd v hk hfl
    · exact doOut8_calls h hok hn cmd v hk hfl
  · obtain ⟨i, hi⟩ : ∃ i : Nat, cmd.flow = (i : Int) := ⟨cmd.flow.toNat, by omega⟩
    have hxl : xs.length = c.jobs.length := by rw [← h.jobs]; simp
    obtain ⟨x, hx⟩ : ∃ x, xs[i]? = some x := ⟨_, List.getElem?_eq_getElem (by omega)⟩
    have e : doC c cmd = ({ c with jobs := c.jobs.set i (jobDo c cmd x.j).1 }, (jobDo c cmd x.j).2) := by
      unfold doC
      rw [if_neg h12, if_neg (by omega), hi, Int.toNat_natCast, h.job hx]
    rw [e]
    unfold jobDo
    rcases hk with hk | hk | hk | hk | hk | hk
    · rw [if_pos hk]
      exact doStart_calls h hok hn hx cmd v hk hi
    · rw [if_neg (by omega), if_pos hk]
      exact doFail_calls h hok hn hx cmd v hk hi
    · rw [if_neg (by omega), if_neg (by omega), if_pos hk]
      exact doScale2_calls h hok hn hx cmd v hk hi
    · rw [if_neg (by omega), if_neg (by omega), if_neg (by omega), if_pos hk]
      exact doTrigger_calls h hok hn hx cmd v hk hi
    · rw [if_neg (by omega), if_neg (by omega), if_neg (by omega), if_neg (by omega), if_pos hk, hi, Int.toNat_natCast]
      exact doAck2_calls h hok hn hx cmd v hk hi hpt hpl
    · rw [if_neg (by omega), if_neg (by omega), if_neg (by omega), if_neg (by omega), if_neg (by omega)]
      exact doGive_calls h hok hn hx cmd v hk hi
end
end Go.Proofs.YtkjajlolfcioiaaGreatDoor.Control

/- no control: what it answers. -/
namespace Go.Proofs.YtkjajlolfcioiaaGreatDoor.Control
open Go Go.RowKit Go.Proofs Go.Proofs.YtkjajlolfcioiaaGreatDoor Go.Proofs.YtkjajlolfcioiaaGreatDoor.Own Go.Proofs.YtkjajlolfcioiaaGreatDoor.Plan Go.Proofs.YtkjajlolfcioiaaGreatDoor.Check Go.Proofs.YtkjajlolfcioiaaGreatDoor.Ctl
set_option maxRecDepth 100000 in
theorem doNil_calls (a : Array Value) (w : World) : Calls Tryz.prog 34 #[.pointer none, .agg a] w fun e w' => e = .returned (.int .i64 3) ∧ Below w.heap.size w w' := by
  go_enter Tryz.func34, Tryz.ntmps34
  go_wp2
  go_ret
  exact ⟨rfl, balloc (box_below _ _) _⟩
set_option maxRecDepth 100000 in
theorem liveNil_calls (w : World) : Calls Tryz.prog 35 #[.pointer none] w fun e w' => e = .returned (.slice none 0 0) ∧ Below w.heap.size w w' := by
  go_enter Tryz.func35, Tryz.ntmps35
  go_wp2
  go_ret
  exact ⟨rfl, Below.refl _ _⟩
set_option maxRecDepth 100000 in
theorem lifeNil_calls (k : Int) (w : World) : Calls Tryz.prog 43 #[.pointer none, .int .i64 k] w fun e w' => e = .returned (.int .i64 0) ∧ Below w.heap.size w w' := by
  go_enter Tryz.func43, Tryz.ntmps43
  go_wp2
  go_ret
  exact ⟨rfl, Below.refl _ _⟩
end Go.Proofs.YtkjajlolfcioiaaGreatDoor.Control

/- no control: Job (begun). -/
namespace Go.Proofs.YtkjajlolfcioiaaGreatDoor.Control
open Go Go.RowKit Go.Proofs Go.Proofs.YtkjajlolfcioiaaGreatDoor Go.Proofs.YtkjajlolfcioiaaGreatDoor.Own Go.Proofs.YtkjajlolfcioiaaGreatDoor.Plan Go.Proofs.YtkjajlolfcioiaaGreatDoor.Check Go.Proofs.YtkjajlolfcioiaaGreatDoor.Ctl
/-- the zero job. -/
def zeroJob : Value := .agg #[.int .i64 0, .int .i64 0, .int .i64 0, .int .i64 0, .int .i64 0, .int .i64 0, .slice none 0 0, .slice none 0 0]
set_option maxRecDepth 100000 in
theorem jobNil_calls (k : Int) (w : World) : Calls Tryz.prog 33 #[.pointer none, .int .i64 k] w fun e w' => e = .returned (.tuple #[zeroJob, .int .i64 3]) ∧ Below w.heap.size w w' := by
  go_enter Tryz.func33, Tryz.ntmps33
  go_wp2
  refine bodyPost_ret (v := .tuple #[zeroJob, .int .i64 3]) ?_ rfl ?_
  · unfold zeroJob
    simp [results, Tryz.f33]
    go_simp
  · refine ⟨rfl, ?_⟩
    repeat (refine Below.setCell ?_ (p := ⟨w.heap.size, _, none⟩) (Nat.le_refl _) _)
    exact box_below _ _
end Go.Proofs.YtkjajlolfcioiaaGreatDoor.Control
