/- control.Do, walked. -/
import Derived.Test.YtkjajlolfcioiaaGreatDoorYCtlAc
namespace Go.Proofs.YtkjajlolfcioiaaGreatDoor.Control
open Go Go.RowKit Go.MapKept Go.Proofs Go.Proofs.YtkjajlolfcioiaaGreatDoor Go.Proofs.YtkjajlolfcioiaaGreatDoor.Expr Go.Proofs.YtkjajlolfcioiaaGreatDoor.Own Go.Proofs.YtkjajlolfcioiaaGreatDoor.Tail Go.Proofs.YtkjajlolfcioiaaGreatDoor.Mp Go.Proofs.YtkjajlolfcioiaaGreatDoor.Mk Go.Proofs.YtkjajlolfcioiaaGreatDoor.Ints Go.Proofs.YtkjajlolfcioiaaGreatDoor.Plan Go.Proofs.YtkjajlolfcioiaaGreatDoor.Check Go.Proofs.YtkjajlolfcioiaaGreatDoor.Graph Go.Proofs.YtkjajlolfcioiaaGreatDoor.Ctl
/-- the functions of the commands, by kind. -/
def doesF (pc px : Nat) (v : Value) : Option Value :=
  match v with
  | .int .i64 k =>
    if k = 3 then some (.func (.func 76) #[] #[.pointer (some ⟨pc, 0, none⟩)])
    else if k = 4 then some (.func (.func 78) #[] #[.pointer (some ⟨px, 0, none⟩), .pointer (some ⟨pc, 0, none⟩)])
    else if k = 5 then some (.func (.func 79) #[] #[.pointer (some ⟨pc, 0, none⟩), .pointer (some ⟨px, 0, none⟩)])
    else if k = 6 then some (.func (.func 81) #[] #[])
    else if k = 7 then some (.func (.func 82) #[] #[.pointer (some ⟨pc, 0, none⟩), .pointer (some ⟨px, 0, none⟩)])
    else if k = 8 then some (.func (.func 84) #[] #[.pointer (some ⟨px, 0, none⟩)])
    else none
  | _ => none
section
variable {w X : World} {cb : Nat} {c : Ct} {U : Nat → Prop} {tv fv : Value} {lm : Nat} {jv : Value} {fl : List FlwV} {xs : List JV} {i : Nat} {x : JV}
set_option maxHeartbeats 2000000 in
set_option maxRecDepth 100000 in
/-- Do's closure of scale. -/
theorem doScale_calls (h : CtlIs w cb c U tv fv lm jv fl xs) (hc : ∀ k, k < 1 ∨ 6 < k → c.lives k = 0) {n : Int} (hx : xs[i]? = some x) (hj : JobOk n x.j) (hn : n ≤ 1000) (hlen : c.jobs.length = c.flows.length) (h8 : c.flows.length ≤ 8) (cmd : Cmd) (v : Value) (hfl : cmd.flow = (i : Int)) (pc px : Nat) (hpc : w.cell? ⟨pc, 0, none⟩ = some (.pointer (some ⟨cb, 0, none⟩))) (hcm : CmdBox w px cmd v) :
    Calls Tryz.prog 79 #[.pointer (some ⟨x.b, 0, none⟩), .pointer (some ⟨pc, 0, none⟩), .pointer (some ⟨px, 0, none⟩)] w (JobPost w cb c U tv fv lm jv fl i (scaleJ c.tops c.flows (liveL c.lives) cmd x.j)) := by
  have HS := Lib.hid (scale_calls h hc hx hj hn hlen h8 cmd v hfl)
  obtain ⟨g0, g1, g2, g3, g4, g5, g6, g7⟩ := hcm
  unfold cmdCells at HS
  clear h hc hx hj hfl hlen h8 hn
  go_enter Tryz.func79, Tryz.ntmps79
  go_wp2_with fail
  refine HS.out.mono ?_
  rintro e w2 ⟨rfl, hp⟩
  go_wp2
  go_ret
  exact ⟨rfl, hp⟩
set_option maxHeartbeats 2000000 in
set_option maxRecDepth 100000 in
/-- Do's closure of ack. -/
theorem doAck_calls (h : CtlIs w cb c U tv fv lm jv fl xs) {n : Int} (hx : xs[i]? = some x) (hj : JobOk n x.j) (hp : planE ⟨c.tops, c.flows⟩ = 0) (hi : i < fl.length) (cmd : Cmd) (v : Value) (hfl : cmd.flow = (i : Int)) (hpt : ∀ X, Kp U w X → PartsAt X v cmd.parts) (hpl : cmd.parts.length ≤ 1000) (pc px : Nat) (hpc : w.cell? ⟨pc, 0, none⟩ = some (.pointer (some ⟨cb, 0, none⟩))) (hcm : CmdBox w px cmd v) :
    Calls Tryz.prog 82 #[.pointer (some ⟨x.b, 0, none⟩), .pointer (some ⟨pc, 0, none⟩), .pointer (some ⟨px, 0, none⟩)] w (JobPost w cb c U tv fv lm jv fl i (ackJ (partsAt c i) cmd x.j)) := by
  have HS := Lib.hid (ack_calls h hx hj hp hi cmd v hfl hpt hpl)
  obtain ⟨g0, g1, g2, g3, g4, g5, g6, g7⟩ := hcm
  unfold cmdCells at HS
  clear h hx hj hpt hfl hp hi hpl
  go_enter Tryz.func82, Tryz.ntmps82
  go_wp2_with fail
  refine HS.out.mono ?_
  rintro e w2 ⟨rfl, hp⟩
  go_wp2
  go_ret
  exact ⟨rfl, hp⟩
end
end Go.Proofs.YtkjajlolfcioiaaGreatDoor.Control

/- control.Do: laws for its map of functions; a command done in a later world. -/
namespace Go.Proofs.YtkjajlolfcioiaaGreatDoor.Control
open Go Go.RowKit Go.MapKept Go.Proofs Go.Proofs.YtkjajlolfcioiaaGreatDoor Go.Proofs.YtkjajlolfcioiaaGreatDoor.Expr Go.Proofs.YtkjajlolfcioiaaGreatDoor.Own Go.Proofs.YtkjajlolfcioiaaGreatDoor.Tail Go.Proofs.YtkjajlolfcioiaaGreatDoor.Mp Go.Proofs.YtkjajlolfcioiaaGreatDoor.Mk Go.Proofs.YtkjajlolfcioiaaGreatDoor.Ints Go.Proofs.YtkjajlolfcioiaaGreatDoor.Plan Go.Proofs.YtkjajlolfcioiaaGreatDoor.Check Go.Proofs.YtkjajlolfcioiaaGreatDoor.Graph Go.Proofs.YtkjajlolfcioiaaGreatDoor.Ctl
def putI (f : Value → Option Value) (k : Int) (v : Value) (y : Value) : Option Value :=
  match y with
  | .int .i64 n => if n = k then some v else f y
  | _ => f y
theorem putI_same (f : Value → Option Value) (k : Int) (v : Value) : putI f k v (.int .i64 k) = some v := by simp [putI]
theorem putI_other (f : Value → Option Value) (k : Int) (v : Value) (y : Value) (h : y ≠ .int .i64 k) : putI f k v y = f y := by
  cases y <;> try rfl
  rename_i q n
  cases q <;> try rfl
  have : n ≠ k := fun e => h (by rw [e])
  simp [putI, this]
section
variable {P : Program} {w : World} {b : Nat} {f : Value → Option Value} {t k e : TypeId} {ops : Array Oper} {rest : List Oper} {o : Oper} {a : Act} {Q : Exit → Act → World → Prop}
/-- a map literal's entry, of a map with int keys. -/
theorem list_ins (h : MapF w (.int .i64) b f) (ht : P.underlying t = some (.map k e)) (hd : P.underlying k = some (.int .i64)) (hw : Region.wanted o (yielded ops a.tmps) = true) (m x y : Operand) (hop : o.op = Op.insert t m x y) (hm : a.eval m = .map (some b)) {n : Int} (hx : a.eval x = .int .i64 n) {v : Value} (hy : a.eval y = v)
    (hK : ∀ w', MapF w' (.int .i64) b (putI f n v) → But b w w' → wpList P ops Q rest (a.put o.dst undef) w') : wpList P ops Q (o :: rest) a w := by
  refine BigFrame.wpList_want hw fun _ hK' => ?_
  obtain ⟨w', hr, r1, r2⟩ := h.update ht hd (key := .int .i64 n) rfl v (putI f n v) (putI_same f n v) (fun x hx => putI_other f n v x hx)
  unfold Oper.wp
  simp [execOp, hop, hm, hx, hy, hr, Result.andThen]
  exact hK' _ _ (hK w' r1 r2)
end
section
variable {w W X : World} {cb : Nat} {c : Ct} {U : Nat → Prop} {tv fv : Value} {lm : Nat} {jv : Value} {fl : List FlwV} {xs : List JV} {i : Nat} {x : JV}
theorem more_grow (h : CtlAt X cb c (more U W X)) (hW : w.heap.size ≤ W.heap.size) (hX : W.heap.size ≤ X.heap.size) (hl : ∀ i, U i → i < w.heap.size) (hg : ¬ U 5) (ht : Tab w) : CtlAt X cb c (more U w X) := by
  obtain ⟨tv, fv, lm, jv, fl, xs, h⟩ := h
  refine ⟨tv, fv, lm, jv, fl, xs, h.grow ?_ ?_ ?_⟩
  · rintro q (e | e)
    · exact .inl e
    · exact .inr ⟨Nat.le_trans hW e.1, e.2⟩
  · rintro q (e | e)
    · have := hl q e
      omega
    · exact e.2
  · rintro (e | e)
    · exact hg e
    · have := tab_lt ht
      omega
/-- done in a later world. -/
theorem DoPost.later (h : CtlIs w cb c U tv fv lm jv fl xs) (k : Below w.heap.size w W) {r : Ct × Int} {e : Ending} (hd : DoPost W cb U r e X) : DoPost w cb U r e X := by
  obtain ⟨h1, h2, h3⟩ := hd
  exact ⟨h1, (Kp.of_below (U := U) k).trans h2 (fun _ _ e => e), more_grow h3 k.size h2.size h.lt h.gU h.tab⟩
/-- a job's command is the control's. -/
theorem JobPost.done (h : CtlIs w cb c U tv fv lm jv fl xs) (k : Below w.heap.size w W) {r : Jb × Int} {e : Ending} (hd : JobPost W cb c U tv fv lm jv fl i r e X) : DoPost w cb U ({ c with jobs := c.jobs.set i r.1 }, r.2) e X := by
  obtain ⟨h1, h2, xs', h3⟩ := hd
  exact ⟨h1, (Kp.of_below (U := U) k).trans h2 (fun _ _ e => e), more_grow ⟨_, _, _, _, _, _, h3⟩ k.size h2.size h.lt h.gU h.tab⟩
end
end Go.Proofs.YtkjajlolfcioiaaGreatDoor.Control

/- control.Do, walked. -/
namespace Go.Proofs.YtkjajlolfcioiaaGreatDoor.Control
open Go Go.RowKit Go.MapKept Go.Proofs Go.Proofs.YtkjajlolfcioiaaGreatDoor Go.Proofs.YtkjajlolfcioiaaGreatDoor.Expr Go.Proofs.YtkjajlolfcioiaaGreatDoor.Own Go.Proofs.YtkjajlolfcioiaaGreatDoor.Tail Go.Proofs.YtkjajlolfcioiaaGreatDoor.Mp Go.Proofs.YtkjajlolfcioiaaGreatDoor.Mk Go.Proofs.YtkjajlolfcioiaaGreatDoor.Ints Go.Proofs.YtkjajlolfcioiaaGreatDoor.Plan Go.Proofs.YtkjajlolfcioiaaGreatDoor.Check Go.Proofs.YtkjajlolfcioiaaGreatDoor.Graph Go.Proofs.YtkjajlolfcioiaaGreatDoor.Ctl
section
variable {w W X : World} {cb : Nat} {c : Ct} {U : Nat → Prop} {tv fv : Value} {lm : Nat} {jv : Value} {fl : List FlwV} {xs : List JV} {i : Nat} {x : JV}
set_option maxHeartbeats 4000000 in
set_option maxRecDepth 100000 in
/-- a worker came or went. -/
theorem doWorker_calls (h : CtlIs w cb c U tv fv lm jv fl xs) {n : Int} (hok : CtOk n c) (hn : n ≤ 1000) (cmd : Cmd) (v : Value) (hk : cmd.kind = 1 ∨ cmd.kind = 2) :
    Calls Tryz.prog 34 #[.pointer (some ⟨cb, 0, none⟩), .agg (cmdCells cmd v)] w (DoPost w cb U (doC c cmd)) := by
  have hd : doC c cmd = workerC c cmd := by unfold doC; rw [if_pos hk]
  rw [hd]
  have hlat := fun (W X : World) (k : Below w.heap.size w W) (e : Ending) => DoPost.later (X := X) h k (r := workerC c cmd) (e := e)
  have hwk := fun W (k : Below w.heap.size w W) => worker_calls (h.below k) hok hn cmd v hk
  have HL := Lib.hid hlat
  have HW := Lib.hid hwk
  obtain ⟨kind, flow, att, num, wk, rd, kp, parts⟩ := cmd
  simp only at hk
  unfold cmdCells at HW ⊢
  simp only at HW ⊢
  clear h hok hn hd hlat hwk
  rcases hk with rfl | rfl
  all_goals
    go_enter Tryz.func34, Tryz.ntmps34
    go_wp2_with fail
    refine (HW.out _ (balloc (box_below _ _) _)).mono ?_
    rintro e w2 ⟨rfl, hp⟩
    go_wp2
    go_ret
    exact HL.out _ _ (balloc (box_below _ _) _) _ ⟨rfl, hp⟩
end
end Go.Proofs.YtkjajlolfcioiaaGreatDoor.Control

/- control.Do, walked: commands of jobs (begun: a trial at kind 6). -/
namespace Go.Proofs.YtkjajlolfcioiaaGreatDoor.Control
open Go Go.RowKit Go.MapKept Go.Proofs Go.Proofs.YtkjajlolfcioiaaGreatDoor Go.Proofs.YtkjajlolfcioiaaGreatDoor.Expr Go.Proofs.YtkjajlolfcioiaaGreatDoor.Own Go.Proofs.YtkjajlolfcioiaaGreatDoor.Tail Go.Proofs.YtkjajlolfcioiaaGreatDoor.Mp Go.Proofs.YtkjajlolfcioiaaGreatDoor.Mk Go.Proofs.YtkjajlolfcioiaaGreatDoor.Ints Go.Proofs.YtkjajlolfcioiaaGreatDoor.Plan Go.Proofs.YtkjajlolfcioiaaGreatDoor.Check Go.Proofs.YtkjajlolfcioiaaGreatDoor.Graph Go.Proofs.YtkjajlolfcioiaaGreatDoor.Ctl
section
variable {w W X : World} {cb : Nat} {c : Ct} {U : Nat → Prop} {tv fv : Value} {lm : Nat} {jv : Value} {fl : List FlwV} {xs : List JV} {i : Nat} {x : JV}
set_option maxHeartbeats 4000000 in
set_option maxRecDepth 100000 in
theorem doTrigger_calls (h : CtlIs w cb c U tv fv lm jv fl xs) {n : Int} (hok : CtOk n c) (hn : n ≤ 1000) (hx : xs[i]? = some x) (cmd : Cmd) (v : Value) (hk : cmd.kind = 6) (hfl : cmd.flow = (i : Int)) :
    Calls Tryz.prog 34 #[.pointer (some ⟨cb, 0, none⟩), .agg (cmdCells cmd v)] w (DoPost w cb U ({ c with jobs := c.jobs.set i (triggerJ x.j).1 }, (triggerJ x.j).2)) := by
  have qf : ∀ W0 : World, (binOp .eql 134 (.func (.func 81) #[] #[]) .nilFunc).run Tryz.prog W0 = .ok (.bool false) W0 := fun W0 => by kernel_rfl
  have hmm := @run_makeMap Tryz.prog
  have hmf : ∀ (fn : Fn) (first cap : Array Value) (w : World), (Instr.makeFunc fn first cap).run Tryz.prog w = .ok (.func fn first cap) w := fun _ _ _ _ => rfl
  have HT := Lib.hid fun W (k : Below w.heap.size w W) => trigger_calls (h.below k) hx (hok.jobs _ (List.mem_of_getElem? (h.job hx))).1 hn
  have HD := Lib.hid fun (W X : World) (k : Below w.heap.size w W) (r : Jb × Int) (e : Ending) => JobPost.done (X := X) (i := i) h k (r := r) (e := e)
  obtain ⟨kind, flow, att, num, wk, rd, kp, parts⟩ := cmd
  simp only at hk hfl
  subst hk hfl
  unfold cmdCells
  have hm0 := MapF.made ((w.alloc (.cells #[.pointer (some ⟨cb, 0, none⟩)] 49)).alloc (.cells #[.int .i64 6, .int .i64 (i : Int), .int .i64 att, .int .i64 num, .int .i64 wk, .int .i64 rd, .int .i64 kp, v] 60)) (.int .i64)
  have hsz : ((w.alloc (.cells #[.pointer (some ⟨cb, 0, none⟩)] 49)).alloc (.cells #[.int .i64 6, .int .i64 (i : Int), .int .i64 att, .int .i64 num, .int .i64 wk, .int .i64 rd, .int .i64 kp, v] 60)).heap.size = w.heap.size + 1 + 1 := by simp
  rw [hsz] at hm0
  have HM := Lib.hid hm0
  have B1 : Below w.heap.size w (((w.alloc (.cells #[.pointer (some ⟨cb, 0, none⟩)] 49)).alloc (.cells #[.int .i64 6, .int .i64 (i : Int), .int .i64 att, .int .i64 num, .int .i64 wk, .int .i64 rd, .int .i64 kp, v] 60)).alloc (.map #[] 0)) := balloc (balloc (box_below _ _) _) _
  have p0 := kc (box_below ((w.alloc (.cells #[.pointer (some ⟨cb, 0, none⟩)] 49)).alloc (.cells #[.int .i64 6, .int .i64 (i : Int), .int .i64 att, .int .i64 num, .int .i64 wk, .int .i64 rd, .int .i64 kp, v] 60)) (.map #[] 0)) (kc (box_below _ _) (cell_new (X := w) (g := w.heap.size) (cs := #[.pointer (some ⟨cb, 0, none⟩)]) (T := 49) (j := 0) rfl rfl))
  have q0 := kc (box_below ((w.alloc (.cells #[.pointer (some ⟨cb, 0, none⟩)] 49)).alloc (.cells #[.int .i64 6, .int .i64 (i : Int), .int .i64 att, .int .i64 num, .int .i64 wk, .int .i64 rd, .int .i64 kp, v] 60)) (.map #[] 0)) (cell_new (g := w.heap.size + 1) (j := 0) (v := .int .i64 6) (by simp) rfl)
  have q1 := kc (box_below ((w.alloc (.cells #[.pointer (some ⟨cb, 0, none⟩)] 49)).alloc (.cells #[.int .i64 6, .int .i64 (i : Int), .int .i64 att, .int .i64 num, .int .i64 wk, .int .i64 rd, .int .i64 kp, v] 60)) (.map #[] 0)) (cell_new (g := w.heap.size + 1) (j := 1) (v := .int .i64 (i : Int)) (by simp) rfl)
  have hil : i < xs.length := (List.getElem?_eq_some_iff.1 hx).1
  have hx8 : xs.length ≤ 8 := by
    have e1 : xs.length = c.jobs.length := by rw [← h.jobs]; simp
    have e2 := hok.len
    have e3 := (plan_len hok.plan).2
    omega
  obtain ⟨A, cp, rfl, -, hrow⟩ := h.now.ptrs
  obtain ⟨bj, oj, rfl, hcells⟩ := hrow (by omega)
  have jx := hcells i _ (by rw [List.getElem?_map, hx]; rfl)
  have hbj : bj < w.heap.size := lt_of_cell jx
  have jx1 := kc B1 jx
  have t1 : decide ((i : Int) < 0) = false := by simp
  have t2 : decide ((xs.length : Int) ≤ (i : Int)) = false := by simp; omega
  have hiI : (i : Int) < xs.length := by omega
  have k3 : w.cell? ⟨cb, 3, none⟩ = some (.slice (some ⟨bj, oj, none⟩) xs.length cp) := by rw [cell_of_row _ _ _ _ _ _ h.now.ctl]; simp
  have j3 := kc B1 k3
  have hcbl : cb < w.heap.size := h.lt cb h.cbU
  have HBT := Lib.hid (But.refl (w.heap.size + 1 + 1) (((w.alloc (.cells #[.pointer (some ⟨cb, 0, none⟩)] 49)).alloc (.cells #[.int .i64 6, .int .i64 (i : Int), .int .i64 att, .int .i64 num, .int .i64 wk, .int .i64 rd, .int .i64 kp, v] 60)).alloc (.map #[] 0)))
  have HB1 := Lib.hid B1
  have H := Lib.hid h
  clear hm0 hsz B1 k3 h hok hx hrow hcells jx
  go_enter Tryz.func34, Tryz.ntmps34
  go_wp2_with (first | (at_lookup; refine list_look HM.out Tryz.underlying137 Tryz.underlying3 (z := .nilFunc) (by kernel_rfl) (by kernel_rfl) _ _ false rfl rfl (key := .int .i64 6) rfl rfl (v := .func (.func 81) #[] #[]) (by kernel_rfl) ?_) | (with_reducible refine list_ins HM.out Tryz.underlying137 Tryz.underlying3 (by kernel_rfl) _ _ _ rfl rfl rfl rfl ?_; intro w9 hm9 hb9; have HM := Lib.hid hm9; have p0 := hb9.cell (by simp; try omega) p0; have q0 := hb9.cell (by simp) q0; have q1 := hb9.cell (by simp) q1; have j3 := hb9.cell (by simp; omega) j3; have jx1 := hb9.cell (by simp; omega) jx1; have HBT := Lib.hid (HBT.out.trans hb9); clear hm9 hb9))
  go_quiet (fail)
  go_wp2
  refine draws_tail 9 (by kernel_rfl) (by kernel_rfl) ?_
  simp only [List.take_succ_cons, List.take_zero, List.drop_succ_cons, List.drop_zero]
  repeat (go_big_quiet_step (fail))
  refine wpQuiet_nil ?_
  rintro X ⟨nx, rfl⟩
  have BW := HB1.out.grown HBT.out HB1.out.size (fun k e => by cases e; omega)
  have HBW := Lib.hid (bdrewN BW (nq + nx))
  clear BW
  go_wp2_with fail
  refine (HT.out _ HBW.out).mono ?_
  rintro e w2 hp
  obtain ⟨rfl, hp2⟩ := id hp
  have HP := Lib.hid hp
  clear hp hp2
  go_wp2
  go_ret
  exact HD.out _ _ HBW.out _ _ HP.out
end
end Go.Proofs.YtkjajlolfcioiaaGreatDoor.Control
