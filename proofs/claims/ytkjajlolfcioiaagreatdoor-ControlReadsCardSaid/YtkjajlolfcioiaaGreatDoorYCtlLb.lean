/- ControlApart, walked: true of any plan and commands. -/
import Derived.Test.YtkjajlolfcioiaaGreatDoorYCtlLa
namespace Go.Proofs.YtkjajlolfcioiaaGreatDoor.Control
open Go Go.RowKit Go.MapKept Go.Maps Go.Proofs Go.Proofs.YtkjajlolfcioiaaGreatDoor Go.Proofs.YtkjajlolfcioiaaGreatDoor.Expr Go.Proofs.YtkjajlolfcioiaaGreatDoor.Own Go.Proofs.YtkjajlolfcioiaaGreatDoor.Tail Go.Proofs.YtkjajlolfcioiaaGreatDoor.Mp Go.Proofs.YtkjajlolfcioiaaGreatDoor.Ints Go.Proofs.YtkjajlolfcioiaaGreatDoor.Plan Go.Proofs.YtkjajlolfcioiaaGreatDoor.Check Go.Proofs.YtkjajlolfcioiaaGreatDoor.Graph Go.Proofs.YtkjajlolfcioiaaGreatDoor.Ctl Go.Proofs.YtkjajlolfcioiaaGreatDoor.Rw
theorem sliceOfJob : SliceOf Tryz.prog 52 55 8 96 := sliceOf (z := .agg #[.int .i64 0, .int .i64 0, .int .i64 0, .int .i64 0, .int .i64 0, .int .i64 0, .slice none 0 0, .slice none 0 0]) Tryz.underlying52 (by kernel_rfl) rfl (by decide)
theorem order_plan {tops : List Top} {fl : List FlwV} (h : (orderR (plnOf tops fl)).2 = 0) : planE (plnOf tops fl) = 0 := by
  apply Decidable.byContradiction
  intro hn
  unfold orderR at h
  rw [if_pos hn] at h
  exact hn h
theorem hok_len {n : Int} {c : Ct} (h : CtOk n c) {i : Nat} {j : Jb} (hj : c.jobs[i]? = some j) : j.places.length ≤ 1000 ∧ j.acked.length ≤ 1000 := by
  have hjo := (h.jobs j (List.mem_of_getElem? hj)).1
  refine ⟨?_, by have := acked_len hjo; omega⟩
  rcases hjo.len with e | e
  · rw [e]; simp
  · have := hjo.rd; have := hjo.kp; omega
/-- a control made, or refused. -/
def NewGot (tops : List Top) (fl : List FlwV) (w : World) (e : Ending) (w' : World) : Prop :=
  (∃ E : Int, E ≠ 0 ∧ e = .returned (.tuple #[.pointer none, .int .i64 E]) ∧ Below w.heap.size w w') ∨
  (∃ cb, e = .returned (.tuple #[.pointer (some ⟨cb, 0, none⟩), .int .i64 0]) ∧ Aw w w' cb (newC tops (fl.map (·.f))) ∧ CtOk 0 (newC tops (fl.map (·.f))))
theorem new_got (tops : List Top) (fl : List FlwV) (cl : List CmdV) (tv fv : Value) (w : World) (hP : PlanAt w tv fv tops fl) (hS : SmallFlows fl) (hT : Tab w) (hg : 5 < w.heap.size) (hm : Small tops fl cl) :
    Calls Tryz.prog 31 #[.agg #[tv, fv]] w (NewGot tops fl w) := by
  by_cases hE : (orderR (plnOf tops fl)).2 = 0
  · refine (new_good tops fl tv fv w hP hS hT hg hE (by have := hm.tops; omega) (by have := hm.flows; omega) (fun x hx => by have := hm.steps x hx; omega)).mono ?_
    rintro e w' (⟨h, -, -⟩ | ⟨-, cb, rfl, hc, hB⟩)
    · exact absurd hE h
    · exact .inr ⟨cb, rfl, ⟨_, hc, fun i hi => hi.1, hB⟩, newC_ok (order_plan hE)⟩
  · refine (new_bad tops fl tv fv w hP hS hT hg hE).mono ?_
    rintro e w' (⟨h, rfl, hB⟩ | ⟨h, -⟩)
    · exact .inl ⟨_, h, rfl, hB⟩
    · exact absurd h hE
set_option maxHeartbeats 8000000 in
set_option maxRecDepth 100000 in
theorem lawApart_calls (tops : List Top) (fl : List FlwV) (cl : List CmdV) (tv fv cv : Value) (w : World) (hP : PlanAt w tv fv tops fl) (hS : SmallFlows fl) (hC : SliceAt w cv cl.length (cl.flatMap cmdvCells)) (hp : ∀ x ∈ cl, PartsAt w x.v x.c.parts) (hT : Tab w) (hg : 5 < w.heap.size) :
    Calls Tryz.prog 7 #[.agg #[tv, fv], cv] w (AwakePost w) := by
  have CS := Lib.hid (fun (X : World) (k : Below w.heap.size w X) => small_calls tops fl cl tv fv cv X (hP.below k) (hC.below k) (fun x hx => (hp x hx).below k))
  have CN := Lib.hid (fun (X : World) (k : Below w.heap.size w X) (hm : Small tops fl cl) => new_got tops fl cl tv fv X (hP.below k) hS (hT.below k) (Nat.lt_of_lt_of_le hg k.size) hm)
  have CA := Lib.hid (fun (X : World) (k : Below w.heap.size w X) => awake_calls X (hT.below k) (Nat.lt_of_lt_of_le hg k.size))
  obtain ⟨A1, c1, rfl, hc1, -⟩ := hP.tops
  obtain ⟨A2, c2, rfl, hc2, -⟩ := hP.flows
  obtain ⟨A3, c3, rfl, hc3, r3⟩ := hC
  have HCl := Lib.hid r3
  have HPa := Lib.hid hp
  clear hP hS hT hg r3 hp
  go_enter Tryz.func7, Tryz.ntmps7
  go_wp2_with fail
  (with_reducible refine (CS.out _ (box_below _ _)).mono ?_)
  rintro e w1 ⟨b, rfl, hb, hB1⟩
  have p0 := kc hB1 (cell_new (X := w) (g := w.heap.size) (cs := #[.slice A1 tops.length c1, .slice A2 fl.length c2]) (T := 25) (j := 0) rfl rfl)
  have p1 := kc hB1 (cell_new (X := w) (g := w.heap.size) (cs := #[.slice A1 tops.length c1, .slice A2 fl.length c2]) (T := 25) (j := 1) rfl rfl)
  have HB1 := Lib.hid (go (box_below _ _) hB1)
  clear hB1
  cases b with
  | false =>
    clear hb
    go_wp2
    go_ret
    exact ⟨rfl, HB1.out⟩
  | true =>
    have hm := hb rfl
    have HM := Lib.hid hm
    have hfl := hm.flows
    have hcl := hm.cmds
    clear hb hm
    go_wp2_with fail
    (with_reducible refine (CN.out _ HB1.out HM.out).mono ?_)
    rintro e w2 (⟨E, hE, rfl, hB2⟩ | ⟨cb, rfl, hA2, hok2⟩)
    · have e0 : (E == 0) = false := by simpa using hE
      have e1 : (E != 0) = true := by simpa using hE
      have HB2 := Lib.hid (go HB1.out hB2)
      clear hE hB2
      go_wp2_with (go_at_call 32; (with_reducible refine (CA.out _ HB2.out).mono ?_); rintro e w3 ⟨rfl, hB3⟩)
      go_ret
      exact ⟨rfl, go HB2.out hB3⟩
    · have q1 := kc hA2.bel p1
      have HA0 := Lib.hid (show Aw w1 w2 cb (newC tops (fl.map (·.f))) ∧ CtOk ((0 : Nat) : Int) (newC tops (fl.map (·.f))) ∧ (newC tops (fl.map (·.f))).jobs.length = fl.length from ⟨hA2, hok2, by simp [newC]⟩)
      have HP1 := Lib.hid p1
      clear p0 p1 hA2 hok2
      go_wp2_with fail
      go_loopw [7] (fun iv wr => ∃ (n : Nat) (c : Ct), n ≤ cl.length ∧ iv = .int .i64 (n : Int) ∧ Hid (Aw w1 wr cb c ∧ CtOk (n : Int) c ∧ c.jobs.length = fl.length)) (fun iv _ => cl.length - (RowKit.intOf iv).toNat)
      case atStart => exact ⟨0, _, Nat.zero_le _, rfl, HA0⟩
      case round =>
        clear HA0 q1
        obtain ⟨wo, rfl⟩ : ∃ wo, wo = wr := ⟨wr, rfl⟩
        obtain ⟨n, c, hn, rfl, HA⟩ := hrel
        have hbw := HA.out.1.bel
        have q1 := kc hbw HP1.out
        by_cases hlt : n < cl.length
        · have l0 : (n : Int) < (cl.length : Int) := by omega
          obtain ⟨b, o, e, hrow⟩ := HCl.out (by omega)
          subst e
          obtain ⟨⟨cmd, v⟩, hx⟩ : ∃ x, cl[n]? = some x := ⟨_, List.getElem?_eq_getElem hlt⟩
          have hxm := List.mem_of_getElem? hx
          obtain ⟨vA, vc, ev, -, -⟩ := HPa.out _ hxm
          dsimp only at ev
          subst ev
          have HPT := Lib.hid (show PartsAt w1 (.slice vA cmd.parts.length vc) cmd.parts from SliceAt.below (HPa.out _ hxm) HB1.out)
          have HPL := Lib.hid (show cmd.parts.length ≤ 1000 from by have := HM.out.parts _ hxm; dsimp only at this; omega)
          have hww := go HB1.out hbw
          have x0 : wo.cell? ⟨b, o + n * 8, none⟩ = some (.int .i64 cmd.kind) := kc hww (hrow (n * 8 + 0) _ (flat_get cmdvCells 8 (fun _ => rfl) _ n 0 _ hx (by decide)))
          have x1 : wo.cell? ⟨b, o + n * 8 + 1, none⟩ = some (.int .i64 cmd.flow) := kc hww (hrow (n * 8 + 1) _ (flat_get cmdvCells 8 (fun _ => rfl) _ n 1 _ hx (by decide)))
          have x2 : wo.cell? ⟨b, o + n * 8 + 2, none⟩ = some (.int .i64 cmd.att) := kc hww (hrow (n * 8 + 2) _ (flat_get cmdvCells 8 (fun _ => rfl) _ n 2 _ hx (by decide)))
          have x3 : wo.cell? ⟨b, o + n * 8 + 3, none⟩ = some (.int .i64 cmd.num) := kc hww (hrow (n * 8 + 3) _ (flat_get cmdvCells 8 (fun _ => rfl) _ n 3 _ hx (by decide)))
          have x4 : wo.cell? ⟨b, o + n * 8 + 4, none⟩ = some (.int .i64 cmd.wk) := kc hww (hrow (n * 8 + 4) _ (flat_get cmdvCells 8 (fun _ => rfl) _ n 4 _ hx (by decide)))
          have x5 : wo.cell? ⟨b, o + n * 8 + 5, none⟩ = some (.int .i64 cmd.rd) := kc hww (hrow (n * 8 + 5) _ (flat_get cmdvCells 8 (fun _ => rfl) _ n 5 _ hx (by decide)))
          have x6 : wo.cell? ⟨b, o + n * 8 + 6, none⟩ = some (.int .i64 cmd.kp) := kc hww (hrow (n * 8 + 6) _ (flat_get cmdvCells 8 (fun _ => rfl) _ n 6 _ hx (by decide)))
          have x7 : wo.cell? ⟨b, o + n * 8 + 7, none⟩ = some (.slice vA cmd.parts.length vc) := kc hww (hrow (n * 8 + 7) _ (flat_get cmdvCells 8 (fun _ => rfl) _ n 7 _ hx (by decide)))
          have hbl := lt_of_cell x0
          have HX := Lib.hid hx
          have HBW := Lib.hid hbw
          clear hrow hx hxm hbw hww
          go_wp2_with fail
          obtain ⟨X1, hX1⟩ : ∃ X1, wo.alloc (.cells #[.int .i64 cmd.kind, .int .i64 cmd.flow, .int .i64 cmd.att, .int .i64 cmd.num, .int .i64 cmd.wk, .int .i64 cmd.rd, .int .i64 cmd.kp, .slice vA cmd.parts.length vc] 60) = X1 := ⟨_, rfl⟩
          have hk1 : Below wo.heap.size wo X1 := by rw [← hX1]; exact box_below _ _
          have hxb1 : X1.heap[wo.heap.size]? = some (.cells #[.int .i64 cmd.kind, .int .i64 cmd.flow, .int .i64 cmd.att, .int .i64 cmd.num, .int .i64 cmd.wk, .int .i64 cmd.rd, .int .i64 cmd.kp, .slice vA cmd.parts.length vc] 60) := by rw [← hX1]; exact heap_new _ _
          have HZ1 := Lib.hid (show X1.heap.size = wo.heap.size + 1 from by rw [← hX1]; simp)
          rw [hX1]
          have HK1 := Lib.hid hk1
          have HXB := Lib.hid hxb1
          have HW0 := Lib.hid (show WasAt X1.heap.size X1 (.slice none 0 0) [] (c.jobs.take 0) ∧ Below X1.heap.size X1 X1 from ⟨WasAt.none _ _, Below.refl _ _⟩)
          clear hX1 hk1 hxb1 x0 x1 x2 x3 x4 x5 x6 x7 q1 hbl
          go_loopw [9, 10] (fun v iv wr2 => ∃ (i : Nat) (L : List JobW), i ≤ fl.length ∧ iv = .int .i64 (i : Int) ∧ Hid (WasAt X1.heap.size wr2 v L (c.jobs.take i) ∧ Below X1.heap.size X1 wr2)) (fun _ iv _ => fl.length - (RowKit.intOf iv).toNat)
          case atStart => exact ⟨0, [], Nat.zero_le _, rfl, HW0⟩
          case round =>
            clear HW0
            obtain ⟨i, L, hi, rfl, HW⟩ := hrel
            have hbx := HW.out.2
            have q1 := kc (go HK1.out hbx) (kc HBW.out HP1.out)
            have hLi : L.length = i := by
              have h1 := congrArg List.length HW.out.1.js
              have h2 := HA.out.2.2
              rw [List.length_map, List.length_take] at h1
              omega
            have HLI := Lib.hid hLi
            clear hLi
            obtain ⟨Av, av0, rfl, -, -, -, -⟩ := own_form HW.out.1.rows
            by_cases hlt2 : i < fl.length
            · have l0 : (i : Int) < (fl.length : Int) := by omega
              obtain ⟨a, ha⟩ : ∃ a, c.jobs[i]? = some a := ⟨_, List.getElem?_eq_getElem (by have := HA.out.2.2; omega)⟩
              have HAJ := Lib.hid ha
              have HJC := Lib.hid (aw_jobs (X := wr) (HA.out.1.below (go HK1.out hbx)) HA.out.2.1 ha)
              unfold JobOut jobV at HJC
              clear ha
              go_wp2_with fail
              (with_reducible refine HJC.out.mono ?_)
              rintro e w5 ⟨pv, av, rfl, hB5, ho1, ho2⟩
              obtain ⟨Ap, cp, rfl, -, -, -, -⟩ := own_form ho1
              obtain ⟨Aa, ca, rfl, -, -, -, -⟩ := own_form ho2
              have HO1 := Lib.hid ho1
              have HO2 := Lib.hid ho2
              have HB5 := Lib.hid hB5
              clear ho1 ho2 hB5 HJC
              have hzx := hbx.size
              have h85 : w5.heap.size ≥ wr.heap.size := HB5.out.size
              go_wp2_with (at_builtin; refine list_app sliceOfJob rfl _ _ rfl (base := X1.heap.size) rfl (own_kept (HW.out.1.below HB5.out).rows (balloc (box_below _ _) _)) rfl (Src.at (T := 55) (heap_at (by simp)) 8 1 1 (by simp) (by simp [Value.oneCell'])) (by have := HLI.out; unfold maxLen; omega) (by have := HLI.out; omega) (by simp; omega) ?_; intro v8 w8 ho8 hB8 hg8)
              have hk57 : Below w5.heap.size w5 ((w5.alloc (.cells #[.int .i64 a.att, .int .i64 a.rd, .int .i64 a.kp, .int .i64 a.done, .int .i64 a.num, .int .i64 a.next, .slice Ap a.places.length cp, .slice Aa a.acked.length ca] 55)).alloc (.cells #[.int .i64 a.att, .int .i64 a.rd, .int .i64 a.kp, .int .i64 a.done, .int .i64 a.num, .int .i64 a.next, .slice Ap a.places.length cp, .slice Aa a.acked.length ca] 55)) := balloc (box_below _ _) _
              have hW7 := (HW.out.1.below HB5.out).below hk57
              refine ⟨⟨i + 1, L ++ [⟨a, .slice Ap a.places.length cp, .slice Aa a.acked.length ca⟩], by omega, by simp, Lib.hid ⟨?_, ?_⟩⟩, ?_⟩
              · rw [List.take_add_one, HAJ.out]
                exact WasAt.more hW7 (own_base (own_kept HO1.out hk57) (by omega)) (own_base (own_kept HO2.out hk57) (by omega)) hg8 ho8
              · exact (go (go hbx HB5.out) hk57).trans hB8
              · simp only [RowKit.intOf]
                omega
            · obtain rfl : i = fl.length := by omega
              have hjt : c.jobs.take fl.length = c.jobs := List.take_of_length_le (by have := HA.out.2.2; omega)
              have HW2 := Lib.hid (show WasAt X1.heap.size wr (.slice Av L.length av0) L c.jobs from by have := HW.out.1; rwa [hjt] at this)
              have hx := HXB.out
              have hxw : wr.heap[wo.heap.size]? = _ := (hbx.block _ (by have := HZ1.out; omega)).trans hx
              have y0 : wr.cell? ⟨wo.heap.size, 0, none⟩ = some (.int .i64 cmd.kind) := by rw [cell_of_row _ _ _ _ _ _ hxw]; rfl
              have y1 : wr.cell? ⟨wo.heap.size, 1, none⟩ = some (.int .i64 cmd.flow) := by rw [cell_of_row _ _ _ _ _ _ hxw]; rfl
              have y2 : wr.cell? ⟨wo.heap.size, 2, none⟩ = some (.int .i64 cmd.att) := by rw [cell_of_row _ _ _ _ _ _ hxw]; rfl
              have y3 : wr.cell? ⟨wo.heap.size, 3, none⟩ = some (.int .i64 cmd.num) := by rw [cell_of_row _ _ _ _ _ _ hxw]; rfl
              have y4 : wr.cell? ⟨wo.heap.size, 4, none⟩ = some (.int .i64 cmd.wk) := by rw [cell_of_row _ _ _ _ _ _ hxw]; rfl
              have y5 : wr.cell? ⟨wo.heap.size, 5, none⟩ = some (.int .i64 cmd.rd) := by rw [cell_of_row _ _ _ _ _ _ hxw]; rfl
              have y6 : wr.cell? ⟨wo.heap.size, 6, none⟩ = some (.int .i64 cmd.kp) := by rw [cell_of_row _ _ _ _ _ _ hxw]; rfl
              have y7 : wr.cell? ⟨wo.heap.size, 7, none⟩ = some (.slice vA cmd.parts.length vc) := by rw [cell_of_row _ _ _ _ _ _ hxw]; rfl
              have HXW := Lib.hid hxw
              have HZX := Lib.hid hbx.size
              have HDO := Lib.hid (show Calls Tryz.prog 34 #[.pointer (some ⟨cb, 0, none⟩), .agg #[.int .i64 cmd.kind, .int .i64 cmd.flow, .int .i64 cmd.att, .int .i64 cmd.num, .int .i64 cmd.wk, .int .i64 cmd.rd, .int .i64 cmd.kp, .slice vA cmd.parts.length vc]] wr (AwDone w1 wo wr cb (doC c cmd)) from aw_done HA.out.1 (go HK1.out hbx) HA.out.2.1 (by have := hlt; omega) cmd (.slice vA cmd.parts.length vc) HPT.out HPL.out)
              clear hjt hx hxw
              go_wp2_with fail
              (with_reducible refine HDO.out.mono ?_)
              rintro e w6 ⟨rfl, hA6, hkeep, hsz6⟩
              have hxw6 : w6.heap[wo.heap.size]? = _ := (hkeep _ (Nat.le_refl _) (by have := HZ1.out; have := HZX.out; omega)).trans HXW.out
              have x60 : w6.cell? ⟨wo.heap.size, 0, none⟩ = some (.int .i64 cmd.kind) := by rw [cell_of_row _ _ _ _ _ _ hxw6]; rfl
              have x61 : w6.cell? ⟨wo.heap.size, 1, none⟩ = some (.int .i64 cmd.flow) := by rw [cell_of_row _ _ _ _ _ _ hxw6]; rfl
              have x64 : w6.cell? ⟨wo.heap.size, 4, none⟩ = some (.int .i64 cmd.wk) := by rw [cell_of_row _ _ _ _ _ _ hxw6]; rfl
              have HW6 := Lib.hid (HW2.out.moved fun k hk1 hk2 => hkeep k (by have := HZ1.out; omega) hk2)
              have q6 := kc hA6.bel HP1.out
              have HQ6 := Lib.hid q6
              have hdn := doC_ok cmd HA.out.2.1
              have HA6 := Lib.hid (show Aw w1 w6 cb (doC c cmd).1 ∧ CtOk ((n + 1 : Nat) : Int) (doC c cmd).1 ∧ (doC c cmd).1.jobs.length = fl.length from ⟨hA6, by have := hdn.ok; simpa using this, by rw [hdn.len]; exact HA.out.2.2⟩)
              have HAP := Lib.hid (fun i j hj hm => apart HA.out.2.1 cmd i j hj hm)
              have HCJ := Lib.hid HA.out
              have HXW6 := Lib.hid hxw6
              clear hA6 hkeep hsz6 hxw6 HDO y0 y1 y2 y3 y4 y5 y6 y7 q1 HZX HXW HW HW2 q6 hdn
              go_wp2_with fail
              go_loopw [13] (fun iv wr3 => ∃ i : Nat, i ≤ fl.length ∧ iv = .int .i64 (i : Int) ∧ Hid (Below w6.heap.size w6 wr3)) (fun iv _ => fl.length - (RowKit.intOf iv).toNat)
              case atStart => exact ⟨0, Nat.zero_le _, rfl, Lib.hid (Below.refl _ _)⟩
              case round =>
                obtain ⟨i, hi3, rfl, HB⟩ := hrel
                have hb3 := HB.out
                have q7 := kc hb3 HQ6.out
                have x70 := kc hb3 x60
                have x71 := kc hb3 x61
                have x74 := kc hb3 x64
                by_cases hlt3 : i < fl.length
                · have l0 : (i : Int) < (fl.length : Int) := by omega
                  obtain ⟨a, ha⟩ : ∃ a, c.jobs[i]? = some a := ⟨_, List.getElem?_eq_getElem (by have := HCJ.out.2.2; omega)⟩
                  obtain ⟨j, hj⟩ : ∃ j, (doC c cmd).1.jobs[i]? = some j := ⟨_, List.getElem?_eq_getElem (by have := HA6.out.2.2; omega)⟩
                  have hW3 := HW6.out.below hb3
                  obtain ⟨⟨ya, ypv, yav⟩, hy, hya, hy1, hy2⟩ := hW3.at ha
                  dsimp only at hya hy1 hy2
                  subst hya
                  have hilt : i < L.length := (List.getElem?_eq_some_iff.1 hy).1
                  obtain ⟨Ap, cp, rfl, -, -⟩ := id hy1
                  obtain ⟨Aa, ca, rfl, -, -⟩ := id hy2
                  obtain ⟨g, rfl⟩ : ∃ g, Av = some ⟨g, 0, none⟩ := by
                    rcases hW3.rows.2 with ⟨e, hz⟩ | ⟨g, cap', cur, e, _⟩
                    · omega
                    · exact ⟨g, by simp only [Value.slice.injEq] at e; exact e.1⟩
                  have z0 : wr.cell? ⟨g, i * 8, none⟩ = some (.int .i64 ya.att) := (own_cell hW3.rows (j := i * 8 + 0) (by rw [flat_get jobwCells 8 (fun _ => rfl) L i 0 _ hy (by decide)]; rfl)).1
                  have z1 : wr.cell? ⟨g, i * 8 + 1, none⟩ = some (.int .i64 ya.rd) := (own_cell hW3.rows (j := i * 8 + 1) (by rw [flat_get jobwCells 8 (fun _ => rfl) L i 1 _ hy (by decide)]; rfl)).1
                  have z2 : wr.cell? ⟨g, i * 8 + 2, none⟩ = some (.int .i64 ya.kp) := (own_cell hW3.rows (j := i * 8 + 2) (by rw [flat_get jobwCells 8 (fun _ => rfl) L i 2 _ hy (by decide)]; rfl)).1
                  have z3 : wr.cell? ⟨g, i * 8 + 3, none⟩ = some (.int .i64 ya.done) := (own_cell hW3.rows (j := i * 8 + 3) (by rw [flat_get jobwCells 8 (fun _ => rfl) L i 3 _ hy (by decide)]; rfl)).1
                  have z4 : wr.cell? ⟨g, i * 8 + 4, none⟩ = some (.int .i64 ya.num) := (own_cell hW3.rows (j := i * 8 + 4) (by rw [flat_get jobwCells 8 (fun _ => rfl) L i 4 _ hy (by decide)]; rfl)).1
                  have z5 : wr.cell? ⟨g, i * 8 + 5, none⟩ = some (.int .i64 ya.next) := (own_cell hW3.rows (j := i * 8 + 5) (by rw [flat_get jobwCells 8 (fun _ => rfl) L i 5 _ hy (by decide)]; rfl)).1
                  have z6 : wr.cell? ⟨g, i * 8 + 6, none⟩ = some (.slice Ap ya.places.length cp) := (own_cell hW3.rows (j := i * 8 + 6) (by rw [flat_get jobwCells 8 (fun _ => rfl) L i 6 _ hy (by decide)]; rfl)).1
                  have z7 : wr.cell? ⟨g, i * 8 + 7, none⟩ = some (.slice Aa ya.acked.length ca) := (own_cell hW3.rows (j := i * 8 + 7) (by rw [flat_get jobwCells 8 (fun _ => rfl) L i 7 _ hy (by decide)]; rfl)).1
                  have hbo := hok_len HCJ.out.2.1 ha
                  have HON := Lib.hid (fun (X : World) (k : Below wr.heap.size wr X) => show Calls Tryz.prog 37 #[.agg #[.int .i64 ya.att, .int .i64 ya.rd, .int .i64 ya.kp, .int .i64 ya.done, .int .i64 ya.num, .int .i64 ya.next, .slice Ap ya.places.length cp, .slice Aa ya.acked.length ca], .int .i64 cmd.wk] X (fun e w' => e = .returned (.bool (decide (cmd.wk ∈ ya.places))) ∧ Below X.heap.size X w') from on_calls ya _ _ cmd.wk X (SliceAt.below hy1 k) (SliceAt.below hy2 k) hbo.1)
                  have HSA := Lib.hid (fun (X : World) (k : Below wr.heap.size wr X) (Bp : Option Addr) (dp : Nat) (Ba : Option Addr) (da : Nat) (h3 : IntsAt X (.slice Bp ya.places.length dp) ya.places) (h4 : PartsAt X (.slice Ba ya.acked.length da) ya.acked) => show Calls Tryz.prog 36 #[.agg #[.int .i64 ya.att, .int .i64 ya.rd, .int .i64 ya.kp, .int .i64 ya.done, .int .i64 ya.num, .int .i64 ya.next, .slice Bp ya.places.length dp, .slice Ba ya.acked.length da], .agg #[.int .i64 ya.att, .int .i64 ya.rd, .int .i64 ya.kp, .int .i64 ya.done, .int .i64 ya.num, .int .i64 ya.next, .slice Ap ya.places.length cp, .slice Aa ya.acked.length ca]] X (fun e w' => e = .returned (.bool true) ∧ Below X.heap.size X w') from same_calls ya _ _ _ _ X h3 h4 (SliceAt.below hy1 k) (SliceAt.below hy2 k) hbo.1 hbo.2)
                  have HJC := Lib.hid (aw_jobs (X := wr) (HA6.out.1.below hb3) HA6.out.2.1 hj)
                  unfold JobOut jobV at HJC
                  have HAE := Lib.hid (fun (hm : mineB cmd i ya = false) => (Option.some.inj (hj.symm.trans (HAP.out i ya ha hm)) : j = ya))
                  clear ha hj hW3 hy hy1 hy2 hbo
                  go_wp2_with fail
                  (with_reducible refine HJC.out.mono ?_)
                  rintro e w7 ⟨pv, av, rfl, hB7, ho1, ho2⟩
                  obtain ⟨Bp, dp, rfl, -, -, -, -⟩ := own_form ho1
                  obtain ⟨Ba, da, rfl, -, -, -, -⟩ := own_form ho2
                  have s0 := kc hB7 z0
                  have s1 := kc hB7 z1
                  have s2 := kc hB7 z2
                  have s3 := kc hB7 z3
                  have s4 := kc hB7 z4
                  have s5 := kc hB7 z5
                  have s6 := kc hB7 z6
                  have s7 := kc hB7 z7
                  have r0 := kc hB7 x70
                  have r1 := kc hB7 x71
                  have r4 := kc hB7 x74
                  have rq := kc hB7 q7
                  have hgl := lt_of_cell s0
                  have hxl := lt_of_cell r0
                  have HO1 := Lib.hid ho1
                  have HO2 := Lib.hid ho2
                  have HB7 := Lib.hid hB7
                  have HBB := Lib.hid (show Below w6.heap.size w6 (w7.alloc (.cells #[.int .i64 j.att, .int .i64 j.rd, .int .i64 j.kp, .int .i64 j.done, .int .i64 j.num, .int .i64 j.next, .slice Bp j.places.length dp, .slice Ba j.acked.length da] 55)) from go (go hb3 hB7) (box_below _ _))
                  clear z0 z1 z2 z3 z4 z5 z6 z7 x70 x71 x74 q7 ho1 ho2 hB7 HJC hb3
                  have hkc : ∀ (q : Nat) (u : Value), (#[.int .i64 j.att, .int .i64 j.rd, .int .i64 j.kp, .int .i64 j.done, .int .i64 j.num, .int .i64 j.next, .slice Bp j.places.length dp, .slice Ba j.acked.length da] : Array Value)[q]? = some u → (w7.alloc (.cells #[.int .i64 j.att, .int .i64 j.rd, .int .i64 j.kp, .int .i64 j.done, .int .i64 j.num, .int .i64 j.next, .slice Bp j.places.length dp, .slice Ba j.acked.length da] 55)).cell? ⟨w7.heap.size, q, none⟩ = some u := fun q u hq => cell_new rfl hq
                  by_cases k2 : cmd.kind = 2
                  · have t2 : (cmd.kind == 2) = true := by simpa using k2
                    have t1 : (cmd.kind == 1) = false := by rw [k2]; rfl
                    have HK2 := Lib.hid k2
                    clear k2
                    go_wp2_with fail
                    obtain ⟨X7, hX7⟩ : ∃ X7, w7.alloc (.cells #[.int .i64 j.att, .int .i64 j.rd, .int .i64 j.kp, .int .i64 j.done, .int .i64 j.num, .int .i64 j.next, .slice Bp j.places.length dp, .slice Ba j.acked.length da] 55) = X7 := ⟨_, rfl⟩
                    have hk7 : Below w7.heap.size w7 X7 := by rw [← hX7]; exact box_below _ _
                    rw [hX7] at HBB hkc ⊢
                    have v0 := kc hk7 s0
                    have v1 := kc hk7 s1
                    have v2 := kc hk7 s2
                    have v3 := kc hk7 s3
                    have v4 := kc hk7 s4
                    have v5 := kc hk7 s5
                    have v6 := kc hk7 s6
                    have v7 := kc hk7 s7
                    have b0 := hkc 0 _ rfl
                    have b1 := hkc 1 _ rfl
                    have b2 := hkc 2 _ rfl
                    have b3 := hkc 3 _ rfl
                    have b4 := hkc 4 _ rfl
                    have b5 := hkc 5 _ rfl
                    have b6 := hkc 6 _ rfl
                    have b7 := hkc 7 _ rfl
                    have m0 := kc hk7 r0
                    have m1 := kc hk7 r1
                    have m4 := kc hk7 r4
                    have HK7 := Lib.hid hk7
                    clear hX7 hk7 hkc s0 s1 s2 s3 s4 s5 s6 s7 r0 r1 r4 rq
                    refine draws_tail 6 (by kernel_rfl) (by kernel_rfl) ?_
                    simp only [List.take_succ_cons, List.take_zero, List.drop_succ_cons, List.drop_zero]
                    repeat (go_big_quiet_step (fail))
                    refine wpQuiet_nil ?_
                    rintro X ⟨nx, rfl⟩
                    go_wp2_with fail
                    (with_reducible refine (HON.out _ (bdrewN (go HB7.out HK7.out) _)).mono ?_)
                    rintro e w8 ⟨rfl, hB8⟩
                    have hB8x : Below X7.heap.size X7 w8 := go (bdrewN (Below.refl _ _) _) hB8
                    have vv0 := kc hB8x v0
                    have vv1 := kc hB8x v1
                    have vv2 := kc hB8x v2
                    have vv3 := kc hB8x v3
                    have vv4 := kc hB8x v4
                    have vv5 := kc hB8x v5
                    have vv6 := kc hB8x v6
                    have vv7 := kc hB8x v7
                    have bb0 := kc hB8x b0
                    have bb1 := kc hB8x b1
                    have bb2 := kc hB8x b2
                    have bb3 := kc hB8x b3
                    have bb4 := kc hB8x b4
                    have bb5 := kc hB8x b5
                    have bb6 := kc hB8x b6
                    have bb7 := kc hB8x b7
                    have mm0 := kc hB8x m0
                    have mm1 := kc hB8x m1
                    have mm4 := kc hB8x m4
                    have HB8 := Lib.hid hB8x
                    clear hB8 hB8x v0 v1 v2 v3 v4 v5 v6 v7 b0 b1 b2 b3 b4 b5 b6 b7 m0 m1 m4
                    by_cases hmem : cmd.wk ∈ ya.places
                    · have hmb : decide (cmd.wk ∈ ya.places) = true := decide_eq_true hmem
                      have HMB := Lib.hid hmem
                      clear hmem
                      rw [hmb]
                      go_wp2_with fail
                      refine draws_tail 8 (by kernel_rfl) (by kernel_rfl) ?_
                      simp only [List.take_succ_cons, List.take_zero, List.drop_succ_cons, List.drop_zero]
                      repeat (go_big_quiet_step (fail))
                      refine wpQuiet_nil ?_
                      rintro X ⟨nx, rfl⟩
                      go_wp2_with fail
                      refine ⟨⟨i + 1, by omega, by simp, Lib.hid (bdrewN (go HBB.out HB8.out) _)⟩, ?_⟩
                      simp only [RowKit.intOf]
                      omega
                    · have hmb : decide (cmd.wk ∈ ya.places) = false := decide_eq_false hmem
                      have HMB := Lib.hid hmem
                      clear hmem
                      rw [hmb]
                      go_wp2_with fail
                      obtain rfl := HAE.out (by unfold mineB; rw [if_pos HK2.out]; exact decide_eq_false HMB.out)
                      refine draws_tail 8 (by kernel_rfl) (by kernel_rfl) ?_
                      simp only [List.take_succ_cons, List.take_zero, List.drop_succ_cons, List.drop_zero]
                      repeat (go_big_quiet_step (fail))
                      refine wpQuiet_nil ?_
                      rintro X ⟨nx, rfl⟩
                      go_wp2_with fail
                      (with_reducible refine (HSA.out _ (bdrewN (go (go HB7.out HK7.out) HB8.out) _) _ _ _ _ (own_ints (base := wr.heap.size) (own_kept HO1.out (bdrewN (go HK7.out HB8.out) _))) (sliceAt_own' (own_kept HO2.out (bdrewN (go HK7.out HB8.out) _)))).mono ?_)
                      rintro e w9 ⟨rfl, hB9⟩
                      go_wp2_with fail
                      refine ⟨⟨i + 1, by omega, by simp, Lib.hid (go (bdrewN (go HBB.out HB8.out) _) hB9)⟩, ?_⟩
                      simp only [RowKit.intOf]
                      omega
                  by_cases k1 : cmd.kind = 1
                  · have t2 : (cmd.kind == 2) = false := by rw [k1]; rfl
                    have t1 : (cmd.kind == 1) = true := by simpa using k1
                    have HK2 := Lib.hid k2
                    have HK1x := Lib.hid k1
                    clear k2 k1
                    go_wp2_with fail
                    obtain ⟨X7, hX7⟩ : ∃ X7, w7.alloc (.cells #[.int .i64 j.att, .int .i64 j.rd, .int .i64 j.kp, .int .i64 j.done, .int .i64 j.num, .int .i64 j.next, .slice Bp j.places.length dp, .slice Ba j.acked.length da] 55) = X7 := ⟨_, rfl⟩
                    have hk7 : Below w7.heap.size w7 X7 := by rw [← hX7]; exact box_below _ _
                    rw [hX7] at HBB hkc ⊢
                    have v0 := kc hk7 s0
                    have v1 := kc hk7 s1
                    have v2 := kc hk7 s2
                    have v3 := kc hk7 s3
                    have v4 := kc hk7 s4
                    have v5 := kc hk7 s5
                    have v6 := kc hk7 s6
                    have v7 := kc hk7 s7
                    have b0 := hkc 0 _ rfl
                    have b1 := hkc 1 _ rfl
                    have b2 := hkc 2 _ rfl
                    have b3 := hkc 3 _ rfl
                    have b4 := hkc 4 _ rfl
                    have b5 := hkc 5 _ rfl
                    have b6 := hkc 6 _ rfl
                    have b7 := hkc 7 _ rfl
                    have m0 := kc hk7 r0
                    have m1 := kc hk7 r1
                    have m4 := kc hk7 r4
                    have HK7 := Lib.hid hk7
                    clear hX7 hk7 hkc s0 s1 s2 s3 s4 s5 s6 s7 r0 r1 r4 rq
                    by_cases hat : 0 < ya.att
                    · have ta : decide (0 < ya.att) = true := decide_eq_true hat
                      have HAT := Lib.hid hat
                      clear hat
                      by_cases hle : ya.places = []
                      · have u1 : ((ya.places.length : Int) == 0) = true := by simpa using hle
                        have u2 : (ya.places.length == 0) = true := by simpa using hle
                        have u3 : decide (ya.places.length = 0) = true := by simpa using hle
                        have u4 : decide (ya.places = []) = true := by simpa using hle
                        have HLE := Lib.hid hle
                        clear hle
                        refine draws_tail 22 (by kernel_rfl) (by kernel_rfl) ?_
                        simp only [List.take_succ_cons, List.take_zero, List.drop_succ_cons, List.drop_zero]
                        repeat (go_big_quiet_step (fail))
                        refine wpQuiet_nil ?_
                        rintro X ⟨nx, rfl⟩
                        go_wp2_with fail
                        refine draws_tail 8 (by kernel_rfl) (by kernel_rfl) ?_
                        simp only [List.take_succ_cons, List.take_zero, List.drop_succ_cons, List.drop_zero]
                        repeat (go_big_quiet_step (fail))
                        refine wpQuiet_nil ?_
                        rintro X ⟨nx, rfl⟩
                        go_wp2_with fail
                        refine ⟨⟨i + 1, by omega, by simp, Lib.hid (bdrewN (HBB.out) _)⟩, ?_⟩
                        simp only [RowKit.intOf]
                        omega
                      · have u1 : ((ya.places.length : Int) == 0) = false := by simpa using hle
                        have u2 : (ya.places.length == 0) = false := by simpa using hle
                        have u3 : decide (ya.places.length = 0) = false := by simpa using hle
                        have u4 : decide (ya.places = []) = false := by simpa using hle
                        have HLE := Lib.hid hle
                        clear hle
                        refine draws_tail 22 (by kernel_rfl) (by kernel_rfl) ?_
                        simp only [List.take_succ_cons, List.take_zero, List.drop_succ_cons, List.drop_zero]
                        repeat (go_big_quiet_step (fail))
                        refine wpQuiet_nil ?_
                        rintro X ⟨nx, rfl⟩
                        go_wp2_with fail
                        (with_reducible refine (HON.out _ (bdrewN (go HB7.out HK7.out) _)).mono ?_)
                        rintro e w8 ⟨rfl, hB8⟩
                        have hB8x : Below X7.heap.size X7 w8 := go (bdrewN (Below.refl _ _) _) hB8
                        have vv0 := kc hB8x v0
                        have vv1 := kc hB8x v1
                        have vv2 := kc hB8x v2
                        have vv3 := kc hB8x v3
                        have vv4 := kc hB8x v4
                        have vv5 := kc hB8x v5
                        have vv6 := kc hB8x v6
                        have vv7 := kc hB8x v7
                        have bb0 := kc hB8x b0
                        have bb1 := kc hB8x b1
                        have bb2 := kc hB8x b2
                        have bb3 := kc hB8x b3
                        have bb4 := kc hB8x b4
                        have bb5 := kc hB8x b5
                        have bb6 := kc hB8x b6
                        have bb7 := kc hB8x b7
                        have mm0 := kc hB8x m0
                        have mm1 := kc hB8x m1
                        have mm4 := kc hB8x m4
                        have HB8 := Lib.hid hB8x
                        clear hB8 hB8x v0 v1 v2 v3 v4 v5 v6 v7 b0 b1 b2 b3 b4 b5 b6 b7 m0 m1 m4
                        by_cases hmem : cmd.wk ∈ ya.places
                        · have hmb : decide (cmd.wk ∈ ya.places) = true := decide_eq_true hmem
                          have HMB := Lib.hid hmem
                          clear hmem
                          rw [hmb]
                          go_wp2_with fail
                          refine draws_tail 8 (by kernel_rfl) (by kernel_rfl) ?_
                          simp only [List.take_succ_cons, List.take_zero, List.drop_succ_cons, List.drop_zero]
                          repeat (go_big_quiet_step (fail))
                          refine wpQuiet_nil ?_
                          rintro X ⟨nx, rfl⟩
                          go_wp2_with fail
                          refine ⟨⟨i + 1, by omega, by simp, Lib.hid (bdrewN (go HBB.out HB8.out) _)⟩, ?_⟩
                          simp only [RowKit.intOf]
                          omega
                        · have hmb : decide (cmd.wk ∈ ya.places) = false := decide_eq_false hmem
                          have HMB := Lib.hid hmem
                          clear hmem
                          rw [hmb]
                          go_wp2_with fail
                          obtain rfl := HAE.out (by unfold mineB; rw [if_neg HK2.out, if_pos HK1x.out]; simp [HLE.out, HMB.out])
                          refine draws_tail 8 (by kernel_rfl) (by kernel_rfl) ?_
                          simp only [List.take_succ_cons, List.take_zero, List.drop_succ_cons, List.drop_zero]
                          repeat (go_big_quiet_step (fail))
                          refine wpQuiet_nil ?_
                          rintro X ⟨nx, rfl⟩
                          go_wp2_with fail
                          (with_reducible refine (HSA.out _ (bdrewN (go (go HB7.out HK7.out) HB8.out) _) _ _ _ _ (own_ints (base := wr.heap.size) (own_kept HO1.out (bdrewN (go HK7.out HB8.out) _))) (sliceAt_own' (own_kept HO2.out (bdrewN (go HK7.out HB8.out) _)))).mono ?_)
                          rintro e w9 ⟨rfl, hB9⟩
                          go_wp2_with fail
                          refine ⟨⟨i + 1, by omega, by simp, Lib.hid (go (bdrewN (go HBB.out HB8.out) _) hB9)⟩, ?_⟩
                          simp only [RowKit.intOf]
                          omega
                    · have ta : decide (0 < ya.att) = false := decide_eq_false hat
                      have HAT := Lib.hid hat
                      clear hat
                      refine draws_tail 22 (by kernel_rfl) (by kernel_rfl) ?_
                      simp only [List.take_succ_cons, List.take_zero, List.drop_succ_cons, List.drop_zero]
                      repeat (go_big_quiet_step (fail))
                      refine wpQuiet_nil ?_
                      rintro X ⟨nx, rfl⟩
                      go_wp2_with fail
                      (with_reducible refine (HON.out _ (bdrewN (go HB7.out HK7.out) _)).mono ?_)
                      rintro e w8 ⟨rfl, hB8⟩
                      have hB8x : Below X7.heap.size X7 w8 := go (bdrewN (Below.refl _ _) _) hB8
                      have vv0 := kc hB8x v0
                      have vv1 := kc hB8x v1
                      have vv2 := kc hB8x v2
                      have vv3 := kc hB8x v3
                      have vv4 := kc hB8x v4
                      have vv5 := kc hB8x v5
                      have vv6 := kc hB8x v6
                      have vv7 := kc hB8x v7
                      have bb0 := kc hB8x b0
                      have bb1 := kc hB8x b1
                      have bb2 := kc hB8x b2
                      have bb3 := kc hB8x b3
                      have bb4 := kc hB8x b4
                      have bb5 := kc hB8x b5
                      have bb6 := kc hB8x b6
                      have bb7 := kc hB8x b7
                      have mm0 := kc hB8x m0
                      have mm1 := kc hB8x m1
                      have mm4 := kc hB8x m4
                      have HB8 := Lib.hid hB8x
                      clear hB8 hB8x v0 v1 v2 v3 v4 v5 v6 v7 b0 b1 b2 b3 b4 b5 b6 b7 m0 m1 m4
                      by_cases hmem : cmd.wk ∈ ya.places
                      · have hmb : decide (cmd.wk ∈ ya.places) = true := decide_eq_true hmem
                        have HMB := Lib.hid hmem
                        clear hmem
                        rw [hmb]
                        go_wp2_with fail
                        refine draws_tail 8 (by kernel_rfl) (by kernel_rfl) ?_
                        simp only [List.take_succ_cons, List.take_zero, List.drop_succ_cons, List.drop_zero]
                        repeat (go_big_quiet_step (fail))
                        refine wpQuiet_nil ?_
                        rintro X ⟨nx, rfl⟩
                        go_wp2_with fail
                        refine ⟨⟨i + 1, by omega, by simp, Lib.hid (bdrewN (go HBB.out HB8.out) _)⟩, ?_⟩
                        simp only [RowKit.intOf]
                        omega
                      · have hmb : decide (cmd.wk ∈ ya.places) = false := decide_eq_false hmem
                        have HMB := Lib.hid hmem
                        clear hmem
                        rw [hmb]
                        go_wp2_with fail
                        obtain rfl := HAE.out (by unfold mineB; rw [if_neg HK2.out, if_pos HK1x.out]; simp only [decide_eq_false (show ¬ 0 < ya.att from by have := HAT.out; omega), decide_eq_false HMB.out, Bool.false_and, Bool.or_self])
                        refine draws_tail 8 (by kernel_rfl) (by kernel_rfl) ?_
                        simp only [List.take_succ_cons, List.take_zero, List.drop_succ_cons, List.drop_zero]
                        repeat (go_big_quiet_step (fail))
                        refine wpQuiet_nil ?_
                        rintro X ⟨nx, rfl⟩
                        go_wp2_with fail
                        (with_reducible refine (HSA.out _ (bdrewN (go (go HB7.out HK7.out) HB8.out) _) _ _ _ _ (own_ints (base := wr.heap.size) (own_kept HO1.out (bdrewN (go HK7.out HB8.out) _))) (sliceAt_own' (own_kept HO2.out (bdrewN (go HK7.out HB8.out) _)))).mono ?_)
                        rintro e w9 ⟨rfl, hB9⟩
                        go_wp2_with fail
                        refine ⟨⟨i + 1, by omega, by simp, Lib.hid (go (bdrewN (go HBB.out HB8.out) _) hB9)⟩, ?_⟩
                        simp only [RowKit.intOf]
                        omega
                  by_cases kf : cmd.flow = (i : Int)
                  · have t2 : (cmd.kind == 2) = false := by simpa using k2
                    have t1 : (cmd.kind == 1) = false := by simpa using k1
                    have tf : (cmd.flow == (i : Int)) = true := by simpa using kf
                    have HK2 := Lib.hid k2
                    have HK1x := Lib.hid k1
                    have HKF := Lib.hid kf
                    clear k2 k1 kf
                    go_wp2_with fail
                    obtain ⟨X7, hX7⟩ : ∃ X7, w7.alloc (.cells #[.int .i64 j.att, .int .i64 j.rd, .int .i64 j.kp, .int .i64 j.done, .int .i64 j.num, .int .i64 j.next, .slice Bp j.places.length dp, .slice Ba j.acked.length da] 55) = X7 := ⟨_, rfl⟩
                    have hk7 : Below w7.heap.size w7 X7 := by rw [← hX7]; exact box_below _ _
                    rw [hX7] at HBB hkc ⊢
                    have v0 := kc hk7 s0
                    have v1 := kc hk7 s1
                    have v2 := kc hk7 s2
                    have v3 := kc hk7 s3
                    have v4 := kc hk7 s4
                    have v5 := kc hk7 s5
                    have v6 := kc hk7 s6
                    have v7 := kc hk7 s7
                    have b0 := hkc 0 _ rfl
                    have b1 := hkc 1 _ rfl
                    have b2 := hkc 2 _ rfl
                    have b3 := hkc 3 _ rfl
                    have b4 := hkc 4 _ rfl
                    have b5 := hkc 5 _ rfl
                    have b6 := hkc 6 _ rfl
                    have b7 := hkc 7 _ rfl
                    have m0 := kc hk7 r0
                    have m1 := kc hk7 r1
                    have m4 := kc hk7 r4
                    have HK7 := Lib.hid hk7
                    clear hX7 hk7 hkc s0 s1 s2 s3 s4 s5 s6 s7 r0 r1 r4 rq
                    refine draws_tail 8 (by kernel_rfl) (by kernel_rfl) ?_
                    simp only [List.take_succ_cons, List.take_zero, List.drop_succ_cons, List.drop_zero]
                    repeat (go_big_quiet_step (fail))
                    refine wpQuiet_nil ?_
                    rintro X ⟨nx, rfl⟩
                    go_wp2_with fail
                    refine ⟨⟨i + 1, by omega, by simp, Lib.hid (bdrewN (HBB.out) _)⟩, ?_⟩
                    simp only [RowKit.intOf]
                    omega
                  · have t2 : (cmd.kind == 2) = false := by simpa using k2
                    have t1 : (cmd.kind == 1) = false := by simpa using k1
                    have tf : (cmd.flow == (i : Int)) = false := by simpa using kf
                    have HK2 := Lib.hid k2
                    have HK1x := Lib.hid k1
                    have HKF := Lib.hid kf
                    clear k2 k1 kf
                    go_wp2_with fail
                    obtain ⟨X7, hX7⟩ : ∃ X7, w7.alloc (.cells #[.int .i64 j.att, .int .i64 j.rd, .int .i64 j.kp, .int .i64 j.done, .int .i64 j.num, .int .i64 j.next, .slice Bp j.places.length dp, .slice Ba j.acked.length da] 55) = X7 := ⟨_, rfl⟩
                    have hk7 : Below w7.heap.size w7 X7 := by rw [← hX7]; exact box_below _ _
                    rw [hX7] at HBB hkc ⊢
                    have v0 := kc hk7 s0
                    have v1 := kc hk7 s1
                    have v2 := kc hk7 s2
                    have v3 := kc hk7 s3
                    have v4 := kc hk7 s4
                    have v5 := kc hk7 s5
                    have v6 := kc hk7 s6
                    have v7 := kc hk7 s7
                    have b0 := hkc 0 _ rfl
                    have b1 := hkc 1 _ rfl
                    have b2 := hkc 2 _ rfl
                    have b3 := hkc 3 _ rfl
                    have b4 := hkc 4 _ rfl
                    have b5 := hkc 5 _ rfl
                    have b6 := hkc 6 _ rfl
                    have b7 := hkc 7 _ rfl
                    have m0 := kc hk7 r0
                    have m1 := kc hk7 r1
                    have m4 := kc hk7 r4
                    have HK7 := Lib.hid hk7
                    clear hX7 hk7 hkc s0 s1 s2 s3 s4 s5 s6 s7 r0 r1 r4 rq
                    obtain rfl := HAE.out (by unfold mineB; rw [if_neg HK2.out, if_neg HK1x.out]; exact decide_eq_false HKF.out)
                    refine draws_tail 8 (by kernel_rfl) (by kernel_rfl) ?_
                    simp only [List.take_succ_cons, List.take_zero, List.drop_succ_cons, List.drop_zero]
                    repeat (go_big_quiet_step (fail))
                    refine wpQuiet_nil ?_
                    rintro X ⟨nx, rfl⟩
                    go_wp2_with fail
                    (with_reducible refine (HSA.out _ (bdrewN (go HB7.out HK7.out) _) _ _ _ _ (own_ints (base := wr.heap.size) (own_kept HO1.out (bdrewN (HK7.out) _))) (sliceAt_own' (own_kept HO2.out (bdrewN (HK7.out) _)))).mono ?_)
                    rintro e w9 ⟨rfl, hB9⟩
                    go_wp2_with fail
                    refine ⟨⟨i + 1, by omega, by simp, Lib.hid (go (bdrewN (HBB.out) _) hB9)⟩, ?_⟩
                    simp only [RowKit.intOf]
                    omega
                · obtain rfl : i = fl.length := by omega
                  have HAZ := Lib.hid (show Aw w1 wr cb (doC c cmd).1 ∧ CtOk ((n + 1 : Nat) : Int) (doC c cmd).1 ∧ (doC c cmd).1.jobs.length = fl.length from ⟨HA6.out.1.below hb3, HA6.out.2⟩)
                  clear x60 x61 x64 x70 x71 x74
                  go_wp2_with fail
                  refine ⟨⟨n + 1, _, by omega, by simp, HAZ⟩, ?_⟩
                  simp only [RowKit.intOf]
                  omega
        · obtain rfl : n = cl.length := by omega
          have HBW := Lib.hid (go HB1.out hbw)
          clear hbw q1
          go_wp2_with fail
          (with_reducible refine (CA.out _ HBW.out).mono ?_)
          rintro e w3 ⟨rfl, hB3⟩
          go_wp2
          go_ret
          exact ⟨rfl, go HBW.out hB3⟩
end Go.Proofs.YtkjajlolfcioiaaGreatDoor.Control
