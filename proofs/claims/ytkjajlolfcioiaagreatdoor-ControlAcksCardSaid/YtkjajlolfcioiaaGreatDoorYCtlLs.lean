/- ControlStarts, walked: true of any plan and commands. -/
import Derived.Test.YtkjajlolfcioiaaGreatDoorYCtlLb
import Derived.Test.YtkjajlolfcioiaaGreatDoorYCtlLq
import Derived.Laws.MakeOwn
namespace Go.Proofs.YtkjajlolfcioiaaGreatDoor.Control
open Go Go.RowKit Go.MapKept Go.Maps Go.Proofs Go.Proofs.YtkjajlolfcioiaaGreatDoor Go.Proofs.YtkjajlolfcioiaaGreatDoor.Expr Go.Proofs.YtkjajlolfcioiaaGreatDoor.Own Go.Proofs.YtkjajlolfcioiaaGreatDoor.Tail Go.Proofs.YtkjajlolfcioiaaGreatDoor.Mp Go.Proofs.YtkjajlolfcioiaaGreatDoor.Ints Go.Proofs.YtkjajlolfcioiaaGreatDoor.Plan Go.Proofs.YtkjajlolfcioiaaGreatDoor.Check Go.Proofs.YtkjajlolfcioiaaGreatDoor.Graph Go.Proofs.YtkjajlolfcioiaaGreatDoor.Ctl Go.Proofs.YtkjajlolfcioiaaGreatDoor.Rw
theorem infoBool : (Tryz.prog.info? 4).map (fun i => (i.zero, i.size, i.bytes)) = some (some (.bool false), 1, 1) := by kernel_rfl
theorem make_bools (n : Nat) (hn : n ≤ 1000) (W : World) : (Instr.makeSlice 78 (.int .i64 (n : Int)) (.int .i64 (n : Int))).run Tryz.prog W = .ok (.slice (some ⟨W.heap.size, 0, none⟩) n n) (W.alloc (.cells (madeCells #[.bool false] n) 4)) := by
  obtain ⟨i0, h1, h2, h3, h4⟩ := info_parts infoBool
  have := run_make (P := Tryz.prog) W 78 4 i0 (.bool false) Tryz.underlying78 h1 h2 .i64 .i64 (n : Int) (n : Int) (by omega) (Int.le_refl _) (by rw [h4]; omega) (by omega)
  rw [this, h3]
  simp [Value.cells]
set_option maxHeartbeats 8000000 in
set_option maxRecDepth 100000 in
theorem lawStarts_calls (tops : List Top) (fl : List FlwV) (cl : List CmdV) (tv fv cv : Value) (w : World) (hP : PlanAt w tv fv tops fl) (hS : SmallFlows fl) (hC : SliceAt w cv cl.length (cl.flatMap cmdvCells)) (hp : ∀ x ∈ cl, PartsAt w x.v x.c.parts) (hT : Tab w) (hg : 5 < w.heap.size) :
    Calls Tryz.prog 10 #[.agg #[tv, fv], cv] w (AwakePost w) := by
  have CS := Lib.hid (fun (X : World) (k : Below w.heap.size w X) => small_calls tops fl cl tv fv cv X (hP.below k) (hC.below k) (fun x hx => (hp x hx).below k))
  have CN := Lib.hid (fun (X : World) (k : Below w.heap.size w X) (hm : Small tops fl cl) => new_got tops fl cl tv fv X (hP.below k) hS (hT.below k) (Nat.lt_of_lt_of_le hg k.size) hm)
  have CA := Lib.hid (fun (X : World) (k : Below w.heap.size w X) => awake_calls X (hT.below k) (Nat.lt_of_lt_of_le hg k.size))
  obtain ⟨A1, c1, rfl, hc1, -⟩ := hP.tops
  obtain ⟨A2, c2, rfl, hc2, -⟩ := hP.flows
  obtain ⟨A3, c3, rfl, hc3, r3⟩ := hC
  have HCl := Lib.hid r3
  have HPa := Lib.hid hp
  have HG := Lib.hid hg
  clear hP hS hT hg r3 hp
  go_enter Tryz.func10, Tryz.ntmps10
  go_wp2_with fail
  (with_reducible refine (CS.out _ (box_below _ _)).mono ?_)
  rintro e w1 ⟨b, rfl, hb, hB1⟩
  have p0 := kc hB1 (cell_new (X := w) (g := w.heap.size) (cs := #[.slice A1 tops.length c1, .slice A2 fl.length c2]) (T := 25) (j := 0) rfl rfl)
  have p1 := kc hB1 (cell_new (X := w) (g := w.heap.size) (cs := #[.slice A1 tops.length c1, .slice A2 fl.length c2]) (T := 25) (j := 1) rfl rfl)
  have HB1 := Lib.hid (go (box_below _ _) hB1)
  clear hB1
  cases b with
  | false =>
    clear hb
    go_wp2
    go_ret
    exact ⟨rfl, HB1.out⟩
  | true =>
    have hm := hb rfl
    have HM := Lib.hid hm
    have hfl := hm.flows
    have hcl := hm.cmds
    clear hb hm
    go_wp2_with fail
    (with_reducible refine (CN.out _ HB1.out HM.out).mono ?_)
    rintro e w2 (⟨E, hE, rfl, hB2⟩ | ⟨cb, rfl, hA2, hok2⟩)
    · have e0 : (E == 0) = false := by simpa using hE
      have e1 : (E != 0) = true := by simpa using hE
      have HB2 := Lib.hid (go HB1.out hB2)
      clear hE hB2
      go_wp2_with (go_at_call 32; (with_reducible refine (CA.out _ HB2.out).mono ?_); rintro e w3 ⟨rfl, hB3⟩)
      go_ret
      exact ⟨rfl, go HB2.out hB3⟩
    · have q1 := kc hA2.bel p1
      have HA2 := Lib.hid hA2
      have hok2' : CtOk ((0 : Nat) : Int) (newC tops (fl.map (·.f))) := hok2
      have HOK2 := Lib.hid hok2'
      have HP1 := Lib.hid p1
      have hmk := make_bools fl.length (by omega)
      clear p0 p1 hA2 hok2 hok2'
      go_wp2_with fail
      clear hmk
      obtain ⟨X2, hX2⟩ : ∃ X2, w2.alloc (.cells (madeCells #[.bool false] fl.length) 4) = X2 := ⟨_, rfl⟩
      have HA0 := Lib.hid (show AwP w1 X2 cb (newC tops (fl.map (·.f))) w2.heap.size ∧ CtOk ((0 : Nat) : Int) (newC tops (fl.map (·.f))) ∧ (newC tops (fl.map (·.f))).jobs.length = fl.length ∧ StAt X2 w2.heap.size (newC tops (fl.map (·.f))) ∧ w2.heap.size < X2.heap.size from by
        rw [← hX2]
        refine ⟨HA2.out.beside _, HOK2.out, by simp [newC], ?_, by simp⟩
        unfold StAt
        rw [stL_new, List.length_map]
        exact heap_new _ _)
      have HSB := Lib.hid HA2.out.bel.size
      rw [hX2]
      clear hX2 HA2 HOK2
      go_loopw [8] (fun iv wr => ∃ (n : Nat) (c : Ct), n ≤ cl.length ∧ iv = .int .i64 (n : Int) ∧ Hid (AwP w1 wr cb c w2.heap.size ∧ CtOk (n : Int) c ∧ c.jobs.length = fl.length ∧ StAt wr w2.heap.size c ∧ w2.heap.size < wr.heap.size)) (fun iv _ => cl.length - (RowKit.intOf iv).toNat)
      case atStart => exact ⟨0, _, Nat.zero_le _, rfl, HA0⟩
      case round =>
        clear HA0 q1
        obtain ⟨n, c, hn, rfl, HA⟩ := hrel
        have hbw := HA.out.1.aw.bel
        have q1 := kc hbw HP1.out
        by_cases hlt : n < cl.length
        · have l0 : (n : Int) < (cl.length : Int) := by omega
          obtain ⟨b, o, e, hrow⟩ := HCl.out (by omega)
          subst e
          obtain ⟨⟨cmd, v⟩, hx⟩ : ∃ x, cl[n]? = some x := ⟨_, List.getElem?_eq_getElem hlt⟩
          have hxm := List.mem_of_getElem? hx
          obtain ⟨vA, vc, ev, -, -⟩ := HPa.out _ hxm
          dsimp only at ev
          subst ev
          have HPT := Lib.hid (show PartsAt w1 (.slice vA cmd.parts.length vc) cmd.parts from SliceAt.below (HPa.out _ hxm) HB1.out)
          have HPL := Lib.hid (show cmd.parts.length ≤ 1000 from by have := HM.out.parts _ hxm; dsimp only at this; omega)
          have hww := go HB1.out hbw
          have x0 : wr.cell? ⟨b, o + n * 8, none⟩ = some (.int .i64 cmd.kind) := kc hww (hrow (n * 8 + 0) _ (flat_get cmdvCells 8 (fun _ => rfl) _ n 0 _ hx (by decide)))
          have x1 : wr.cell? ⟨b, o + n * 8 + 1, none⟩ = some (.int .i64 cmd.flow) := kc hww (hrow (n * 8 + 1) _ (flat_get cmdvCells 8 (fun _ => rfl) _ n 1 _ hx (by decide)))
          have x2 : wr.cell? ⟨b, o + n * 8 + 2, none⟩ = some (.int .i64 cmd.att) := kc hww (hrow (n * 8 + 2) _ (flat_get cmdvCells 8 (fun _ => rfl) _ n 2 _ hx (by decide)))
          have x3 : wr.cell? ⟨b, o + n * 8 + 3, none⟩ = some (.int .i64 cmd.num) := kc hww (hrow (n * 8 + 3) _ (flat_get cmdvCells 8 (fun _ => rfl) _ n 3 _ hx (by decide)))
          have x4 : wr.cell? ⟨b, o + n * 8 + 4, none⟩ = some (.int .i64 cmd.wk) := kc hww (hrow (n * 8 + 4) _ (flat_get cmdvCells 8 (fun _ => rfl) _ n 4 _ hx (by decide)))
          have x5 : wr.cell? ⟨b, o + n * 8 + 5, none⟩ = some (.int .i64 cmd.rd) := kc hww (hrow (n * 8 + 5) _ (flat_get cmdvCells 8 (fun _ => rfl) _ n 5 _ hx (by decide)))
          have x6 : wr.cell? ⟨b, o + n * 8 + 6, none⟩ = some (.int .i64 cmd.kp) := kc hww (hrow (n * 8 + 6) _ (flat_get cmdvCells 8 (fun _ => rfl) _ n 6 _ hx (by decide)))
          have x7 : wr.cell? ⟨b, o + n * 8 + 7, none⟩ = some (.slice vA cmd.parts.length vc) := kc hww (hrow (n * 8 + 7) _ (flat_get cmdvCells 8 (fun _ => rfl) _ n 7 _ hx (by decide)))
          have hbl := lt_of_cell x0
          have HX := Lib.hid hx
          have HBW := Lib.hid hbw
          obtain ⟨R, hR⟩ : ∃ R, doC c cmd = R := ⟨_, rfl⟩
          have HDO := Lib.hid (show Calls Tryz.prog 34 #[.pointer (some ⟨cb, 0, none⟩), .agg #[.int .i64 cmd.kind, .int .i64 cmd.flow, .int .i64 cmd.att, .int .i64 cmd.num, .int .i64 cmd.wk, .int .i64 cmd.rd, .int .i64 cmd.kp, .slice vA cmd.parts.length vc]] wr (AwDoneP w1 wr cb w2.heap.size R) from by rw [← hR]; exact aw_doneP HA.out.1 (Below.refl _ _) HA.out.2.2.2.2 HA.out.2.1 (by have := hlt; omega) cmd (.slice vA cmd.parts.length vc) HPT.out HPL.out)
          have HKR := Lib.hid (fun (h : begunB c cmd = false) => (by rw [← hR]; exact stL_kept HA.out.2.1 cmd h : stL R.1 = stL c))
          have HBR := Lib.hid (fun (p : Nat) (h : begunB c cmd = true) (hp : cmd.flow = (p : Int)) => (by rw [← hR]; exact stL_begun HA.out.2.1 cmd h hp : stL R.1 = (stL c).set p true))
          have HBG := Lib.hid (show begunB c cmd = (decide (cmd.kind = 3) && decide (R.2 = 0)) from by unfold begunB; rw [hR])
          have hdn := doC_ok cmd HA.out.2.1
          rw [hR] at hdn
          have HOKR := Lib.hid (show CtOk ((n + 1 : Nat) : Int) R.1 ∧ R.1.jobs.length = fl.length from ⟨by have := hdn.ok; simpa using this, by rw [hdn.len]; exact HA.out.2.2.1⟩)
          clear hrow hx hxm hbw hww hR hdn
          go_wp2_with fail
          (with_reducible refine HDO.out.mono ?_)
          rintro e w6 ⟨rfl, hA6, hsb6⟩
          have hst6 := HA.out.2.2.2.1.block hsb6
          have hbw6 : Below w.heap.size w w6 := go HB1.out hA6.aw.bel
          have hr0 := HCl.out (by omega)
          obtain ⟨b', o', eb, hrow'⟩ := hr0
          obtain ⟨rfl, rfl⟩ : b = b' ∧ o = o' := by simpa using eb
          have y0 : w6.cell? ⟨b, o + n * 8, none⟩ = some (.int .i64 cmd.kind) := kc hbw6 (hrow' (n * 8 + 0) _ (flat_get cmdvCells 8 (fun _ => rfl) _ n 0 _ HX.out (by decide)))
          have y1 : w6.cell? ⟨b, o + n * 8 + 1, none⟩ = some (.int .i64 cmd.flow) := kc hbw6 (hrow' (n * 8 + 1) _ (flat_get cmdvCells 8 (fun _ => rfl) _ n 1 _ HX.out (by decide)))
          have HA6 := Lib.hid hA6
          have HS6 := Lib.hid hst6
          have q6 := kc hA6.aw.bel HP1.out
          have HQ6 := Lib.hid q6
          have hsz6 : w2.heap.size < w6.heap.size := (Array.getElem?_eq_some_iff.1 hst6).1
          have hkeep : ∀ X7 : World, StAt X7 w2.heap.size R.1 → AwP w1 X7 cb R.1 w2.heap.size → True := fun _ _ _ => trivial
          clear x0 x1 x2 x3 x4 x5 x6 x7 hbl q1 eb hrow' hbw6 hA6 hst6 hsb6 HDO hkeep
          by_cases hb : begunB c cmd = true
          · obtain ⟨hf0, hf1, j0, hj0, hat0⟩ := begun_at hb
            obtain ⟨p, hp⟩ : ∃ p : Nat, cmd.flow = (p : Int) := ⟨cmd.flow.toNat, by omega⟩
            have hj0' : c.jobs[p]? = some j0 := by rw [hp, Int.toNat_natCast] at hj0; exact hj0
            have hbk := HBG.out
            rw [hb] at hbk
            have hbk2 : cmd.kind = 3 ∧ R.2 = 0 := by simpa using hbk.symm
            have t3 : (cmd.kind == 3) = true := by simpa using hbk2.1
            have t4 : (R.2 == 0) = true := by simpa using hbk2.2
            have sx6 : w6.cell? ⟨w2.heap.size, p, none⟩ = some (.bool false) := by
              have h := HS6.out.cell hj0'
              rwa [decide_eq_false (show ¬ 0 < j0.att by omega)] at h
            have sf6 := HS6.out.frozen p
            have hpl : (p : Int) < (fl.length : Int) := by have := HA.out.2.2.1; omega
            have hp0 : (0 : Int) ≤ (p : Int) := by omega
            rw [hp] at y1
            have HA7 := Lib.hid (HA6.out.set HSB.out (Nat.lt_of_lt_of_le HG.out HB1.out.size) p (.bool true))
            have HS7 := Lib.hid (HS6.out.set (HBR.out p hb hp))
            have HB := Lib.hid hb
            clear hf0 hf1 hj0 hj0' hat0 hp hbk hbk2 hb
            go_wp2_with fail
            obtain ⟨W7, hW7⟩ : ∃ W7, w6.setCell ⟨w2.heap.size, p, none⟩ (.bool true) = W7 := ⟨_, rfl⟩
            rw [hW7] at HA7 HS7 ⊢
            have q8 : W7.cell? ⟨w.heap.size, 1, none⟩ = some (.slice A2 fl.length c2) := kc HA7.out.aw.bel HP1.out
            have HQ8 := Lib.hid q8
            clear hW7 y0 y1 sx6 sf6 q6
            go_wp2_with fail
            go_loopw [10] (fun iv wr3 => ∃ i : Nat, i ≤ fl.length ∧ iv = .int .i64 (i : Int) ∧ Hid (Below W7.heap.size W7 wr3)) (fun iv _ => fl.length - (RowKit.intOf iv).toNat)
            case atStart => exact ⟨0, Nat.zero_le _, rfl, Lib.hid (Below.refl _ _)⟩
            case round =>
              obtain ⟨i, hi3, rfl, HB⟩ := hrel
              have hb3 := HB.out
              have q7 := kc hb3 HQ8.out
              have hszw := hb3.size
              have hst3 := StAt.below HS7.out hb3
              by_cases hlt3 : i < fl.length
              · have l0 : (i : Int) < (fl.length : Int) := by omega
                obtain ⟨j, hj⟩ : ∃ j, R.1.jobs[i]? = some j := ⟨_, List.getElem?_eq_getElem (by have := HOKR.out.2; omega)⟩
                have sx0 := hst3.cell hj
                have HAW3 := Lib.hid (AwP.below HA7.out hb3)
                have HJC := Lib.hid (aw_jobs (X := wr) HAW3.out.aw HOKR.out.1 hj)
                unfold JobOut jobV at HJC
                have hjo := HOKR.out.1.jobs j (List.mem_of_getElem? hj)
                have HJO := Lib.hid hjo.1
                have HPN := Lib.hid hjo.2.2
                clear hj hjo hst3
                go_wp2_with fail
                (with_reducible refine HJC.out.mono ?_)
                rintro e w7 ⟨pv, av, rfl, hB7, ho1, ho2⟩
                obtain ⟨Bp, dp, rfl, -, -, -, -⟩ := own_form ho1
                obtain ⟨Ba, da, rfl, -, -, -, -⟩ := own_form ho2
                have sx7 := kc hB7 sx0
                have rq := kc hB7 q7
                have hsl := lt_of_cell sx7
                have HAW7 := Lib.hid (HAW3.out.below hB7)
                have HBB := Lib.hid (show Below W7.heap.size W7 (w7.alloc (.cells #[.int .i64 j.att, .int .i64 j.rd, .int .i64 j.kp, .int .i64 j.done, .int .i64 j.num, .int .i64 j.next, .slice Bp j.places.length dp, .slice Ba j.acked.length da] 55)) from go (go hb3 hB7) (box_below _ _))
                clear q7 sx0 ho1 ho2 hB7 HJC hb3
                have hkc : ∀ (q : Nat) (u : Value), (#[.int .i64 j.att, .int .i64 j.rd, .int .i64 j.kp, .int .i64 j.done, .int .i64 j.num, .int .i64 j.next, .slice Bp j.places.length dp, .slice Ba j.acked.length da] : Array Value)[q]? = some u → (w7.alloc (.cells #[.int .i64 j.att, .int .i64 j.rd, .int .i64 j.kp, .int .i64 j.done, .int .i64 j.num, .int .i64 j.next, .slice Bp j.places.length dp, .slice Ba j.acked.length da] 55)).cell? ⟨w7.heap.size, q, none⟩ = some u := fun q u hq => cell_new rfl hq
                go_wp2_with fail
                obtain ⟨X7, hX7⟩ : ∃ X7, w7.alloc (.cells #[.int .i64 j.att, .int .i64 j.rd, .int .i64 j.kp, .int .i64 j.done, .int .i64 j.num, .int .i64 j.next, .slice Bp j.places.length dp, .slice Ba j.acked.length da] 55) = X7 := ⟨_, rfl⟩
                have sx : X7.cell? ⟨w2.heap.size, i, none⟩ = some (.bool (decide (0 < j.att))) := by rw [← hX7]; exact kc (box_below _ _) sx7
                have HAX := Lib.hid (show AwP w1 X7 cb R.1 w2.heap.size from by rw [← hX7]; exact HAW7.out.below (box_below _ _))
                rw [hX7] at HBB hkc ⊢
                have v0 : X7.cell? ⟨w7.heap.size, 0, none⟩ = some (.int .i64 j.att) := hkc 0 _ rfl
                have v4 : X7.cell? ⟨w7.heap.size, 4, none⟩ = some (.int .i64 j.num) := hkc 4 _ rfl
                have v6 : X7.cell? ⟨w7.heap.size, 6, none⟩ = some (.slice Bp j.places.length dp) := hkc 6 _ rfl
                have HLV := Lib.hid (fun (X : World) (k : Below X7.heap.size X7 X) => show Calls Tryz.prog 35 #[.pointer (some ⟨cb, 0, none⟩)] X (fun e X' => ∃ A k, e = .returned (.slice A (liveL R.1.lives).length k) ∧ Below X.heap.size X X') from (aw_live (HAX.out.aw.below k) HOKR.out.1).mono fun e X' h => let ⟨A, k, h1, _, h3⟩ := h; ⟨A, k, h1, h3⟩)
                clear hX7 hkc sx7 rq HAW7 HAW3
                by_cases hat : 0 < j.att
                · have t0 : decide (0 < j.att) = true := decide_eq_true hat
                  rw [t0] at sx
                  obtain ⟨pl, hpl⟩ : ∃ pl : Nat, j.places.length = pl := ⟨_, rfl⟩
                  obtain ⟨ll, hll⟩ : ∃ ll : Nat, (liveL R.1.lives).length = ll := ⟨_, rfl⟩
                  have hpe : (0 < pl) ↔ (0 < ll) := by
                    rw [← hpl, ← hll, List.length_pos_iff, List.length_pos_iff]
                    exact not_congr (HPN.out.trans ⟨fun h => h.elim (fun h => by omega) id, .inr⟩)
                  have hpn : j.num ≠ 0 → 0 < pl := fun h => by rw [← hpl]; exact List.length_pos_iff.2 (HJO.out.run h)
                  rw [hpl] at v6
                  rw [hll] at HLV
                  obtain ⟨r, tp⟩ : ∃ r : Bool, decide (0 < pl) = r := ⟨_, rfl⟩
                  have tl : decide (0 < ll) = r := by rw [← tp, decide_eq_decide]; exact hpe.symm
                  clear hat hpl hll hpe
                  by_cases hn0 : j.num = 0
                  · rw [hn0] at v4
                    clear hn0 hpn
                    refine wp_region_any (by kernel_rfl) ?_
                    refine wpAny_of_held (S := fun X : World => X.cell? ⟨w7.heap.size, 0, none⟩ = some (.int .i64 j.att) ∧ X.cell? ⟨w7.heap.size, 4, none⟩ = some (.int .i64 0) ∧ X.cell? ⟨w7.heap.size, 6, none⟩ = some (.slice Bp pl dp) ∧ X.cell? ⟨w2.heap.size, i, none⟩ = some (.bool true)) _ _ _ _ ?_
                    have hS0 : (fun X : World => X.cell? ⟨w7.heap.size, 0, none⟩ = some (.int .i64 j.att) ∧ X.cell? ⟨w7.heap.size, 4, none⟩ = some (.int .i64 0) ∧ X.cell? ⟨w7.heap.size, 6, none⟩ = some (.slice Bp pl dp) ∧ X.cell? ⟨w2.heap.size, i, none⟩ = some (.bool true)) X7.drew := ⟨v0, v4, v6, sx⟩
                    refine wpAnyH_take (i := 0) (v := ?_) rfl (by kernel_rfl) (by kernel_rfl) (by kernel_rfl) (fun _ _ _ h => h) (Or.inl ⟨by rfl, ?_⟩) hS0 ?_
                    rotate_left
                    · intro w hSw; (try dsimp only at hSw); go_simp; (first | done | with_reducible rfl)
                    simp only [Act.put, List.getElem_toArray, List.getElem_cons_zero, List.setIfInBounds_toArray, List.set_cons_zero, List.set_cons_succ]
                    refine wpAnyH_take (i := 1) (v := ?_) rfl (by kernel_rfl) (by kernel_rfl) (by kernel_rfl) (fun _ _ _ h => h) (Or.inl ⟨by rfl, ?_⟩) hS0 ?_
                    rotate_left
                    · intro w hSw; (try dsimp only at hSw); go_simp; (first | done | with_reducible rfl)
                    simp only [Act.put, List.getElem_toArray, List.getElem_cons_zero, List.getElem_cons_succ, List.setIfInBounds_toArray, List.set_cons_zero, List.set_cons_succ]
                    refine wpAnyH_take (i := 2) (v := ?_) rfl (by kernel_rfl) (by kernel_rfl) (by kernel_rfl) (fun _ _ _ h => h) (Or.inl ⟨by rfl, ?_⟩) hS0 ?_
                    rotate_left
                    · intro w hSw; (try dsimp only at hSw); go_simp; (first | done | with_reducible rfl)
                    simp only [Act.put, List.getElem_toArray, List.getElem_cons_zero, List.getElem_cons_succ, List.setIfInBounds_toArray, List.set_cons_zero, List.set_cons_succ]
                    refine wpAnyH_take (i := 3) (v := ?_) rfl (by kernel_rfl) (by kernel_rfl) (by kernel_rfl) (fun _ _ _ h => h) (Or.inl ⟨by rfl, ?_⟩) hS0 ?_
                    rotate_left
                    · intro w hSw; (try dsimp only at hSw); go_simp; (first | done | with_reducible rfl)
                    simp only [Act.put, List.getElem_toArray, List.getElem_cons_zero, List.getElem_cons_succ, List.setIfInBounds_toArray, List.set_cons_zero, List.set_cons_succ]
                    refine wpAnyH_take (i := 4) (v := ?_) rfl (by kernel_rfl) (by kernel_rfl) (by kernel_rfl) (fun _ _ _ h => h) (Or.inl ⟨by rfl, ?_⟩) hS0 ?_
                    rotate_left
                    · intro w hSw; (try dsimp only at hSw); go_simp; (first | done | with_reducible rfl)
                    simp only [Act.put, List.getElem_toArray, List.getElem_cons_zero, List.getElem_cons_succ, List.setIfInBounds_toArray, List.set_cons_zero, List.set_cons_succ]
                    refine wpAnyH_take (i := 5) (v := ?_) rfl (by kernel_rfl) (by kernel_rfl) (by kernel_rfl) (fun _ _ _ h => h) (Or.inl ⟨by rfl, ?_⟩) hS0 ?_
                    rotate_left
                    · intro w hSw; (try dsimp only at hSw); go_simp; (first | done | with_reducible rfl)
                    simp only [Act.put, List.getElem_toArray, List.getElem_cons_zero, List.getElem_cons_succ, List.setIfInBounds_toArray, List.set_cons_zero, List.set_cons_succ]
                    refine wpAnyH_take (i := 6) (v := ?_) rfl (by kernel_rfl) (by kernel_rfl) (by kernel_rfl) (fun _ _ _ h => h) (Or.inl ⟨by rfl, ?_⟩) hS0 ?_
                    rotate_left
                    · intro w hSw; (try dsimp only at hSw); go_simp; (first | done | with_reducible rfl)
                    simp only [Act.put, List.getElem_toArray, List.getElem_cons_zero, List.getElem_cons_succ, List.setIfInBounds_toArray, List.set_cons_zero, List.set_cons_succ]
                    refine wpAnyH_take (i := 7) (v := ?_) rfl (by kernel_rfl) (by kernel_rfl) (by kernel_rfl) (fun _ _ _ h => h) (Or.inl ⟨by rfl, ?_⟩) hS0 ?_
                    rotate_left
                    · intro w hSw; (try dsimp only at hSw); go_simp; (first | done | with_reducible rfl)
                    simp only [Act.put, List.getElem_toArray, List.getElem_cons_zero, List.getElem_cons_succ, List.setIfInBounds_toArray, List.set_cons_zero, List.set_cons_succ]
                    refine wpAnyH_take (i := 8) (v := ?_) rfl (by kernel_rfl) (by kernel_rfl) (by kernel_rfl) (fun _ _ _ h => h) (Or.inl ⟨by rfl, ?_⟩) hS0 ?_
                    rotate_left
                    · intro w hSw; (try dsimp only at hSw); go_simp; (first | done | with_reducible rfl)
                    simp only [Act.put, List.getElem_toArray, List.getElem_cons_zero, List.getElem_cons_succ, List.setIfInBounds_toArray, List.set_cons_zero, List.set_cons_succ]
                    refine wpAnyH_take (i := 9) (v := ?_) rfl (by kernel_rfl) (by kernel_rfl) (by kernel_rfl) (fun _ _ _ h => h) (Or.inl ⟨by rfl, ?_⟩) hS0 ?_
                    rotate_left
                    · intro w hSw; (try dsimp only at hSw); go_simp; (first | done | with_reducible rfl)
                    simp only [Act.put, List.getElem_toArray, List.getElem_cons_zero, List.getElem_cons_succ, List.setIfInBounds_toArray, List.set_cons_zero, List.set_cons_succ]
                    refine wpAnyH_take (i := 10) (v := ?_) rfl (by kernel_rfl) (by kernel_rfl) (by kernel_rfl) (fun _ _ _ h => h) (Or.inl ⟨by rfl, ?_⟩) hS0 ?_
                    rotate_left
                    · intro w hSw; (try dsimp only at hSw); go_simp; (first | done | with_reducible rfl)
                    simp only [Act.put, List.getElem_toArray, List.getElem_cons_zero, List.getElem_cons_succ, List.setIfInBounds_toArray, List.set_cons_zero, List.set_cons_succ]
                    refine wpAnyH_take (i := 11) (v := ?_) rfl (by kernel_rfl) (by kernel_rfl) (by kernel_rfl) (fun _ _ _ h => h) (Or.inl ⟨by rfl, ?_⟩) hS0 ?_
                    rotate_left
                    · intro w hSw; (try dsimp only at hSw); go_simp; (first | done | with_reducible rfl)
                    simp only [Act.put, List.getElem_toArray, List.getElem_cons_zero, List.getElem_cons_succ, List.setIfInBounds_toArray, List.set_cons_zero, List.set_cons_succ]
                    refine wpAnyH_take (i := 12) (v := ?_) rfl (by kernel_rfl) (by kernel_rfl) (by kernel_rfl) (fun _ _ _ h => h) (Or.inl ⟨by rfl, ?_⟩) hS0 ?_
                    rotate_left
                    · intro w hSw; (try dsimp only at hSw); go_simp; (first | done | with_reducible rfl)
                    simp only [Act.put, List.getElem_toArray, List.getElem_cons_zero, List.getElem_cons_succ, List.setIfInBounds_toArray, List.set_cons_zero, List.set_cons_succ]
                    refine wpAnyH_take (i := 13) (v := ?_) rfl (by kernel_rfl) (by kernel_rfl) (by kernel_rfl) (fun _ _ _ h => h) (Or.inl ⟨by rfl, ?_⟩) hS0 ?_
                    rotate_left
                    · intro w hSw; (try dsimp only at hSw); go_simp; (first | done | with_reducible rfl)
                    simp only [Act.put, List.getElem_toArray, List.getElem_cons_zero, List.getElem_cons_succ, List.setIfInBounds_toArray, List.set_cons_zero, List.set_cons_succ]
                    refine wpAnyH_take (i := 14) (v := ?_) rfl (by kernel_rfl) (by kernel_rfl) (by kernel_rfl) (fun _ _ _ h => h) (Or.inl ⟨by rfl, ?_⟩) hS0 ?_
                    rotate_left
                    · intro w hSw; (try dsimp only at hSw); go_simp; (first | done | with_reducible rfl)
                    simp only [Act.put, List.getElem_toArray, List.getElem_cons_zero, List.getElem_cons_succ, List.setIfInBounds_toArray, List.set_cons_zero, List.set_cons_succ]
                    refine wpAnyH_take (i := 15) (v := ?_) rfl (by kernel_rfl) (by kernel_rfl) (by kernel_rfl) (fun _ _ _ h => h) (Or.inl ⟨by rfl, ?_⟩) hS0 ?_
                    rotate_left
                    · intro w hSw; (try dsimp only at hSw); go_simp; (first | done | with_reducible rfl)
                    simp only [Act.put, List.getElem_toArray, List.getElem_cons_zero, List.getElem_cons_succ, List.setIfInBounds_toArray, List.set_cons_zero, List.set_cons_succ]
                    refine wpAnyH_take (i := 16) (v := ?_) rfl (by kernel_rfl) (by kernel_rfl) (by kernel_rfl) (fun _ _ _ h => h) (Or.inl ⟨by rfl, ?_⟩) hS0 ?_
                    rotate_left
                    · intro w hSw; (try dsimp only at hSw); go_simp; (first | done | with_reducible rfl)
                    simp only [Act.put, List.getElem_toArray, List.getElem_cons_zero, List.getElem_cons_succ, List.setIfInBounds_toArray, List.set_cons_zero, List.set_cons_succ]
                    refine wpAnyH_take (i := 17) (v := ?_) rfl (by kernel_rfl) (by kernel_rfl) (by kernel_rfl) (fun _ _ _ h => h) (Or.inl ⟨by rfl, ?_⟩) hS0 ?_
                    rotate_left
                    · intro w hSw; (try dsimp only at hSw); go_simp; (first | done | with_reducible rfl)
                    simp only [Act.put, List.getElem_toArray, List.getElem_cons_zero, List.getElem_cons_succ, List.setIfInBounds_toArray, List.set_cons_zero, List.set_cons_succ]
                    refine wpAnyH_take (i := 18) (v := ?_) rfl (by kernel_rfl) (by kernel_rfl) (by kernel_rfl) (fun _ _ _ h => h) (Or.inl ⟨by rfl, ?_⟩) hS0 ?_
                    rotate_left
                    · intro w hSw; (try dsimp only at hSw); go_simp; (first | done | with_reducible rfl)
                    simp only [Act.put, List.getElem_toArray, List.getElem_cons_zero, List.getElem_cons_succ, List.setIfInBounds_toArray, List.set_cons_zero, List.set_cons_succ]
                    refine wpAnyH_ready (rs := [19]) (by kernel_rfl) (by simp) ?_
                    refine AllReadyH.cons rfl (fun K hK => ?_) AllReadyH.nil
                    go_simp
                    (with_reducible refine (HLV.out _ (Below.refl _ _).drew).mono ?_)
                    rintro e w8 ⟨LA, lk, rfl, hB8⟩
                    refine hK.out _ _ ⟨kc hB8 hS0.1, kc hB8 hS0.2.1, kc hB8 hS0.2.2.1, kc hB8 hS0.2.2.2⟩ (fun hS1 => ?_)
                    clear hK K
                    try simp only [Act.put, List.setIfInBounds_toArray, List.set_cons_zero, List.set_cons_succ]
                    refine wpAnyH_take (i := 20) (v := ?_) rfl (by kernel_rfl) (by kernel_rfl) (by kernel_rfl) (fun _ _ _ h => h) (Or.inl ⟨by rfl, ?_⟩) hS1 ?_
                    rotate_left
                    · intro w hSw; (try dsimp only at hSw); go_simp; (first | done | with_reducible rfl)
                    simp only [Act.put, List.getElem_toArray, List.getElem_cons_zero, List.getElem_cons_succ, List.setIfInBounds_toArray, List.set_cons_zero, List.set_cons_succ]
                    refine wpAnyH_take (i := 21) (v := ?_) rfl (by kernel_rfl) (by kernel_rfl) (by kernel_rfl) (fun _ _ _ h => h) (Or.inl ⟨by rfl, ?_⟩) hS1 ?_
                    rotate_left
                    · intro w hSw; (try dsimp only at hSw); go_simp; (first | done | with_reducible rfl)
                    simp only [Act.put, List.getElem_toArray, List.getElem_cons_zero, List.getElem_cons_succ, List.setIfInBounds_toArray, List.set_cons_zero, List.set_cons_succ]
                    refine wpAnyH_take (i := 22) (v := ?_) rfl (by kernel_rfl) (by kernel_rfl) (by kernel_rfl) (fun _ _ _ h => h) (Or.inl ⟨by rfl, ?_⟩) hS1 ?_
                    rotate_left
                    · intro w hSw; (try dsimp only at hSw); go_simp; (first | done | with_reducible rfl)
                    simp only [Act.put, List.getElem_toArray, List.getElem_cons_zero, List.getElem_cons_succ, List.setIfInBounds_toArray, List.set_cons_zero, List.set_cons_succ]
                    refine wpAnyH_take (i := 23) (v := ?_) rfl (by kernel_rfl) (by kernel_rfl) (by kernel_rfl) (fun _ _ _ h => h) (Or.inl ⟨by rfl, ?_⟩) hS1 ?_
                    rotate_left
                    · intro w hSw; (try dsimp only at hSw); go_simp; (first | done | with_reducible rfl)
                    simp only [Act.put, List.getElem_toArray, List.getElem_cons_zero, List.getElem_cons_succ, List.setIfInBounds_toArray, List.set_cons_zero, List.set_cons_succ]
                    try simp only [bne_self_eq_false, beq_self_eq_true, Bool.not_true, Bool.xor_self, bne]
                    refine wpAnyH_take (i := 24) (v := ?_) rfl (by kernel_rfl) (by kernel_rfl) (by kernel_rfl) (fun _ _ _ h => h) (Or.inl ⟨by rfl, ?_⟩) hS1 ?_
                    rotate_left
                    · intro w hSw; (try dsimp only at hSw); go_simp; (first | done | with_reducible rfl)
                    simp only [Act.put, List.getElem_toArray, List.getElem_cons_zero, List.getElem_cons_succ, List.setIfInBounds_toArray, List.set_cons_zero, List.set_cons_succ]
                    refine wpAnyH_take (i := 25) (v := ?_) rfl (by kernel_rfl) (by kernel_rfl) (by kernel_rfl) (fun _ _ _ h => h) (Or.inl ⟨by rfl, ?_⟩) hS1 ?_
                    rotate_left
                    · intro w hSw; (try dsimp only at hSw); go_simp; (first | done | with_reducible rfl)
                    simp only [Act.put, List.getElem_toArray, List.getElem_cons_zero, List.getElem_cons_succ, List.setIfInBounds_toArray, List.set_cons_zero, List.set_cons_succ]
                    refine wpAnyH_take (i := 26) (v := ?_) rfl (by kernel_rfl) (by kernel_rfl) (by kernel_rfl) (fun _ _ _ h => h) (Or.inl ⟨by rfl, ?_⟩) hS1 ?_
                    rotate_left
                    · intro w hSw; (try dsimp only at hSw); go_simp; (first | done | with_reducible rfl)
                    simp only [Act.put, List.getElem_toArray, List.getElem_cons_zero, List.getElem_cons_succ, List.setIfInBounds_toArray, List.set_cons_zero, List.set_cons_succ]
                    refine wpAnyH_take (i := 27) (v := ?_) rfl (by kernel_rfl) (by kernel_rfl) (by kernel_rfl) (fun _ _ _ h => h) (Or.inl ⟨by rfl, ?_⟩) hS1 ?_
                    rotate_left
                    · intro w hSw; (try dsimp only at hSw); go_simp; (first | done | with_reducible rfl)
                    simp only [Act.put, List.getElem_toArray, List.getElem_cons_zero, List.getElem_cons_succ, List.setIfInBounds_toArray, List.set_cons_zero, List.set_cons_succ]
                    refine wpAnyH_take (i := 28) (v := ?_) rfl (by kernel_rfl) (by kernel_rfl) (by kernel_rfl) (fun _ _ _ h => h) (Or.inl ⟨by rfl, ?_⟩) hS1 ?_
                    rotate_left
                    · intro w hSw; (try dsimp only at hSw); go_simp; (first | done | with_reducible rfl)
                    simp only [Act.put, List.getElem_toArray, List.getElem_cons_zero, List.getElem_cons_succ, List.setIfInBounds_toArray, List.set_cons_zero, List.set_cons_succ]
                    refine wpAnyH_take (i := 29) (v := ?_) rfl (by kernel_rfl) (by kernel_rfl) (by kernel_rfl) (fun _ _ _ h => h) (Or.inl ⟨by rfl, ?_⟩) hS1 ?_
                    rotate_left
                    · intro w hSw; (try dsimp only at hSw); go_simp; (first | done | with_reducible rfl)
                    simp only [Act.put, List.getElem_toArray, List.getElem_cons_zero, List.getElem_cons_succ, List.setIfInBounds_toArray, List.set_cons_zero, List.set_cons_succ]
                    refine wpAnyH_take (i := 30) (v := undef) rfl (by kernel_rfl) (by kernel_rfl) (by kernel_rfl) (fun _ _ _ h => h) (Or.inr ⟨by rfl, rfl⟩) hS1 ?_
                    simp only [Act.put, List.setIfInBounds_toArray]
                    refine wpAnyH_take (i := 31) (v := undef) rfl (by kernel_rfl) (by kernel_rfl) (by kernel_rfl) (fun _ _ _ h => h) (Or.inr ⟨by rfl, rfl⟩) hS1 ?_
                    simp only [Act.put]
                    refine wpAnyH_take (i := 32) (v := undef) rfl (by kernel_rfl) (by kernel_rfl) (by kernel_rfl) (fun _ _ _ h => h) (Or.inr ⟨by rfl, rfl⟩) hS1 ?_
                    simp only [Act.put]
                    refine wpAnyH_take (i := 33) (v := undef) rfl (by kernel_rfl) (by kernel_rfl) (by kernel_rfl) (fun _ _ _ h => h) (Or.inr ⟨by rfl, rfl⟩) hS1 ?_
                    simp only [Act.put]
                    refine wpAnyH_take (i := 34) (v := ?_) rfl (by kernel_rfl) (by kernel_rfl) (by kernel_rfl) (fun _ _ _ h => h) (Or.inl ⟨by rfl, ?_⟩) hS1 ?_
                    rotate_left
                    · intro w hSw; (try dsimp only at hSw); go_simp; (first | done | with_reducible rfl)
                    simp only [Act.put, List.getElem_toArray, List.getElem_cons_zero, List.getElem_cons_succ, List.setIfInBounds_toArray, List.set_cons_zero, List.set_cons_succ]
                    refine wpAnyH_take (i := 35) (v := ?_) rfl (by kernel_rfl) (by kernel_rfl) (by kernel_rfl) (fun _ _ _ h => h) (Or.inl ⟨by rfl, ?_⟩) hS1 ?_
                    rotate_left
                    · intro w hSw; (try dsimp only at hSw); go_simp; (first | done | with_reducible rfl)
                    simp only [Act.put, List.getElem_toArray, List.getElem_cons_zero, List.getElem_cons_succ, List.setIfInBounds_toArray, List.set_cons_zero, List.set_cons_succ]
                    refine wpAnyH_done (by kernel_rfl) ?_ _
                    have HBZ := Lib.hid (go HBB.out (go (Below.refl _ _).drew hB8))
                    clear hS0 hS1 hB8 v0 v4 v6 sx
                    go_wp2_with fail
                    refine ⟨⟨i + 1, by omega, by simp, Lib.hid HBZ.out⟩, ?_⟩
                    simp only [RowKit.intOf]
                    omega
                  · have tn : (j.num == 0) = false := by simpa using hn0
                    have tn2 : (j.num != 0) = true := by simpa using hn0
                    have te : ((pl : Int) == 0) = false := by rw [beq_eq_false_iff_ne]; have := hpn hn0; omega
                    have te2 : (pl == 0) = false := by rw [beq_eq_false_iff_ne]; have := hpn hn0; omega
                    have te3 : decide (pl = 0) = false := decide_eq_false (by have := hpn hn0; omega)
                    obtain rfl : r = true := by rw [← tp]; exact decide_eq_true (hpn hn0)
                    clear hn0 hpn
                    refine wp_region_any (by kernel_rfl) ?_
                    refine wpAny_of_held (S := fun X : World => X.cell? ⟨w7.heap.size, 0, none⟩ = some (.int .i64 j.att) ∧ X.cell? ⟨w7.heap.size, 4, none⟩ = some (.int .i64 j.num) ∧ X.cell? ⟨w7.heap.size, 6, none⟩ = some (.slice Bp pl dp) ∧ X.cell? ⟨w2.heap.size, i, none⟩ = some (.bool true)) _ _ _ _ ?_
                    have hS0 : (fun X : World => X.cell? ⟨w7.heap.size, 0, none⟩ = some (.int .i64 j.att) ∧ X.cell? ⟨w7.heap.size, 4, none⟩ = some (.int .i64 j.num) ∧ X.cell? ⟨w7.heap.size, 6, none⟩ = some (.slice Bp pl dp) ∧ X.cell? ⟨w2.heap.size, i, none⟩ = some (.bool true)) X7.drew := ⟨v0, v4, v6, sx⟩
                    refine wpAnyH_take (i := 0) (v := ?_) rfl (by kernel_rfl) (by kernel_rfl) (by kernel_rfl) (fun _ _ _ h => h) (Or.inl ⟨by rfl, ?_⟩) hS0 ?_
                    rotate_left
                    · intro w hSw; (try dsimp only at hSw); go_simp; (first | done | with_reducible rfl)
                    simp only [Act.put, List.getElem_toArray, List.getElem_cons_zero, List.setIfInBounds_toArray, List.set_cons_zero, List.set_cons_succ]
                    refine wpAnyH_take (i := 1) (v := ?_) rfl (by kernel_rfl) (by kernel_rfl) (by kernel_rfl) (fun _ _ _ h => h) (Or.inl ⟨by rfl, ?_⟩) hS0 ?_
                    rotate_left
                    · intro w hSw; (try dsimp only at hSw); go_simp; (first | done | with_reducible rfl)
                    simp only [Act.put, List.getElem_toArray, List.getElem_cons_zero, List.getElem_cons_succ, List.setIfInBounds_toArray, List.set_cons_zero, List.set_cons_succ]
                    refine wpAnyH_take (i := 2) (v := ?_) rfl (by kernel_rfl) (by kernel_rfl) (by kernel_rfl) (fun _ _ _ h => h) (Or.inl ⟨by rfl, ?_⟩) hS0 ?_
                    rotate_left
                    · intro w hSw; (try dsimp only at hSw); go_simp; (first | done | with_reducible rfl)
                    simp only [Act.put, List.getElem_toArray, List.getElem_cons_zero, List.getElem_cons_succ, List.setIfInBounds_toArray, List.set_cons_zero, List.set_cons_succ]
                    refine wpAnyH_take (i := 3) (v := ?_) rfl (by kernel_rfl) (by kernel_rfl) (by kernel_rfl) (fun _ _ _ h => h) (Or.inl ⟨by rfl, ?_⟩) hS0 ?_
                    rotate_left
                    · intro w hSw; (try dsimp only at hSw); go_simp; (first | done | with_reducible rfl)
                    simp only [Act.put, List.getElem_toArray, List.getElem_cons_zero, List.getElem_cons_succ, List.setIfInBounds_toArray, List.set_cons_zero, List.set_cons_succ]
                    refine wpAnyH_take (i := 4) (v := ?_) rfl (by kernel_rfl) (by kernel_rfl) (by kernel_rfl) (fun _ _ _ h => h) (Or.inl ⟨by rfl, ?_⟩) hS0 ?_
                    rotate_left
                    · intro w hSw; (try dsimp only at hSw); go_simp; (first | done | with_reducible rfl)
                    simp only [Act.put, List.getElem_toArray, List.getElem_cons_zero, List.getElem_cons_succ, List.setIfInBounds_toArray, List.set_cons_zero, List.set_cons_succ]
                    refine wpAnyH_take (i := 5) (v := ?_) rfl (by kernel_rfl) (by kernel_rfl) (by kernel_rfl) (fun _ _ _ h => h) (Or.inl ⟨by rfl, ?_⟩) hS0 ?_
                    rotate_left
                    · intro w hSw; (try dsimp only at hSw); go_simp; (first | done | with_reducible rfl)
                    simp only [Act.put, List.getElem_toArray, List.getElem_cons_zero, List.getElem_cons_succ, List.setIfInBounds_toArray, List.set_cons_zero, List.set_cons_succ]
                    refine wpAnyH_take (i := 6) (v := ?_) rfl (by kernel_rfl) (by kernel_rfl) (by kernel_rfl) (fun _ _ _ h => h) (Or.inl ⟨by rfl, ?_⟩) hS0 ?_
                    rotate_left
                    · intro w hSw; (try dsimp only at hSw); go_simp; (first | done | with_reducible rfl)
                    simp only [Act.put, List.getElem_toArray, List.getElem_cons_zero, List.getElem_cons_succ, List.setIfInBounds_toArray, List.set_cons_zero, List.set_cons_succ]
                    refine wpAnyH_take (i := 7) (v := ?_) rfl (by kernel_rfl) (by kernel_rfl) (by kernel_rfl) (fun _ _ _ h => h) (Or.inl ⟨by rfl, ?_⟩) hS0 ?_
                    rotate_left
                    · intro w hSw; (try dsimp only at hSw); go_simp; (first | done | with_reducible rfl)
                    simp only [Act.put, List.getElem_toArray, List.getElem_cons_zero, List.getElem_cons_succ, List.setIfInBounds_toArray, List.set_cons_zero, List.set_cons_succ]
                    refine wpAnyH_take (i := 8) (v := ?_) rfl (by kernel_rfl) (by kernel_rfl) (by kernel_rfl) (fun _ _ _ h => h) (Or.inl ⟨by rfl, ?_⟩) hS0 ?_
                    rotate_left
                    · intro w hSw; (try dsimp only at hSw); go_simp; (first | done | with_reducible rfl)
                    simp only [Act.put, List.getElem_toArray, List.getElem_cons_zero, List.getElem_cons_succ, List.setIfInBounds_toArray, List.set_cons_zero, List.set_cons_succ]
                    refine wpAnyH_take (i := 9) (v := ?_) rfl (by kernel_rfl) (by kernel_rfl) (by kernel_rfl) (fun _ _ _ h => h) (Or.inl ⟨by rfl, ?_⟩) hS0 ?_
                    rotate_left
                    · intro w hSw; (try dsimp only at hSw); go_simp; (first | done | with_reducible rfl)
                    simp only [Act.put, List.getElem_toArray, List.getElem_cons_zero, List.getElem_cons_succ, List.setIfInBounds_toArray, List.set_cons_zero, List.set_cons_succ]
                    refine wpAnyH_take (i := 10) (v := ?_) rfl (by kernel_rfl) (by kernel_rfl) (by kernel_rfl) (fun _ _ _ h => h) (Or.inl ⟨by rfl, ?_⟩) hS0 ?_
                    rotate_left
                    · intro w hSw; (try dsimp only at hSw); go_simp; (first | done | with_reducible rfl)
                    simp only [Act.put, List.getElem_toArray, List.getElem_cons_zero, List.getElem_cons_succ, List.setIfInBounds_toArray, List.set_cons_zero, List.set_cons_succ]
                    refine wpAnyH_take (i := 11) (v := ?_) rfl (by kernel_rfl) (by kernel_rfl) (by kernel_rfl) (fun _ _ _ h => h) (Or.inl ⟨by rfl, ?_⟩) hS0 ?_
                    rotate_left
                    · intro w hSw; (try dsimp only at hSw); go_simp; (first | done | with_reducible rfl)
                    simp only [Act.put, List.getElem_toArray, List.getElem_cons_zero, List.getElem_cons_succ, List.setIfInBounds_toArray, List.set_cons_zero, List.set_cons_succ]
                    refine wpAnyH_take (i := 12) (v := ?_) rfl (by kernel_rfl) (by kernel_rfl) (by kernel_rfl) (fun _ _ _ h => h) (Or.inl ⟨by rfl, ?_⟩) hS0 ?_
                    rotate_left
                    · intro w hSw; (try dsimp only at hSw); go_simp; (first | done | with_reducible rfl)
                    simp only [Act.put, List.getElem_toArray, List.getElem_cons_zero, List.getElem_cons_succ, List.setIfInBounds_toArray, List.set_cons_zero, List.set_cons_succ]
                    refine wpAnyH_take (i := 13) (v := ?_) rfl (by kernel_rfl) (by kernel_rfl) (by kernel_rfl) (fun _ _ _ h => h) (Or.inl ⟨by rfl, ?_⟩) hS0 ?_
                    rotate_left
                    · intro w hSw; (try dsimp only at hSw); go_simp; (first | done | with_reducible rfl)
                    simp only [Act.put, List.getElem_toArray, List.getElem_cons_zero, List.getElem_cons_succ, List.setIfInBounds_toArray, List.set_cons_zero, List.set_cons_succ]
                    refine wpAnyH_take (i := 14) (v := ?_) rfl (by kernel_rfl) (by kernel_rfl) (by kernel_rfl) (fun _ _ _ h => h) (Or.inl ⟨by rfl, ?_⟩) hS0 ?_
                    rotate_left
                    · intro w hSw; (try dsimp only at hSw); go_simp; (first | done | with_reducible rfl)
                    simp only [Act.put, List.getElem_toArray, List.getElem_cons_zero, List.getElem_cons_succ, List.setIfInBounds_toArray, List.set_cons_zero, List.set_cons_succ]
                    refine wpAnyH_take (i := 15) (v := ?_) rfl (by kernel_rfl) (by kernel_rfl) (by kernel_rfl) (fun _ _ _ h => h) (Or.inl ⟨by rfl, ?_⟩) hS0 ?_
                    rotate_left
                    · intro w hSw; (try dsimp only at hSw); go_simp; (first | done | with_reducible rfl)
                    simp only [Act.put, List.getElem_toArray, List.getElem_cons_zero, List.getElem_cons_succ, List.setIfInBounds_toArray, List.set_cons_zero, List.set_cons_succ]
                    refine wpAnyH_take (i := 16) (v := ?_) rfl (by kernel_rfl) (by kernel_rfl) (by kernel_rfl) (fun _ _ _ h => h) (Or.inl ⟨by rfl, ?_⟩) hS0 ?_
                    rotate_left
                    · intro w hSw; (try dsimp only at hSw); go_simp; (first | done | with_reducible rfl)
                    simp only [Act.put, List.getElem_toArray, List.getElem_cons_zero, List.getElem_cons_succ, List.setIfInBounds_toArray, List.set_cons_zero, List.set_cons_succ]
                    refine wpAnyH_take (i := 17) (v := ?_) rfl (by kernel_rfl) (by kernel_rfl) (by kernel_rfl) (fun _ _ _ h => h) (Or.inl ⟨by rfl, ?_⟩) hS0 ?_
                    rotate_left
                    · intro w hSw; (try dsimp only at hSw); go_simp; (first | done | with_reducible rfl)
                    simp only [Act.put, List.getElem_toArray, List.getElem_cons_zero, List.getElem_cons_succ, List.setIfInBounds_toArray, List.set_cons_zero, List.set_cons_succ]
                    refine wpAnyH_take (i := 18) (v := ?_) rfl (by kernel_rfl) (by kernel_rfl) (by kernel_rfl) (fun _ _ _ h => h) (Or.inl ⟨by rfl, ?_⟩) hS0 ?_
                    rotate_left
                    · intro w hSw; (try dsimp only at hSw); go_simp; (first | done | with_reducible rfl)
                    simp only [Act.put, List.getElem_toArray, List.getElem_cons_zero, List.getElem_cons_succ, List.setIfInBounds_toArray, List.set_cons_zero, List.set_cons_succ]
                    refine wpAnyH_ready (rs := [19]) (by kernel_rfl) (by simp) ?_
                    refine AllReadyH.cons rfl (fun K hK => ?_) AllReadyH.nil
                    go_simp
                    (with_reducible refine (HLV.out _ (Below.refl _ _).drew).mono ?_)
                    rintro e w8 ⟨LA, lk, rfl, hB8⟩
                    refine hK.out _ _ ⟨kc hB8 hS0.1, kc hB8 hS0.2.1, kc hB8 hS0.2.2.1, kc hB8 hS0.2.2.2⟩ (fun hS1 => ?_)
                    clear hK K
                    try simp only [Act.put, List.setIfInBounds_toArray, List.set_cons_zero, List.set_cons_succ]
                    refine wpAnyH_take (i := 20) (v := ?_) rfl (by kernel_rfl) (by kernel_rfl) (by kernel_rfl) (fun _ _ _ h => h) (Or.inl ⟨by rfl, ?_⟩) hS1 ?_
                    rotate_left
                    · intro w hSw; (try dsimp only at hSw); go_simp; (first | done | with_reducible rfl)
                    simp only [Act.put, List.getElem_toArray, List.getElem_cons_zero, List.getElem_cons_succ, List.setIfInBounds_toArray, List.set_cons_zero, List.set_cons_succ]
                    refine wpAnyH_take (i := 21) (v := ?_) rfl (by kernel_rfl) (by kernel_rfl) (by kernel_rfl) (fun _ _ _ h => h) (Or.inl ⟨by rfl, ?_⟩) hS1 ?_
                    rotate_left
                    · intro w hSw; (try dsimp only at hSw); go_simp; (first | done | with_reducible rfl)
                    simp only [Act.put, List.getElem_toArray, List.getElem_cons_zero, List.getElem_cons_succ, List.setIfInBounds_toArray, List.set_cons_zero, List.set_cons_succ]
                    refine wpAnyH_take (i := 22) (v := ?_) rfl (by kernel_rfl) (by kernel_rfl) (by kernel_rfl) (fun _ _ _ h => h) (Or.inl ⟨by rfl, ?_⟩) hS1 ?_
                    rotate_left
                    · intro w hSw; (try dsimp only at hSw); go_simp; (first | done | with_reducible rfl)
                    simp only [Act.put, List.getElem_toArray, List.getElem_cons_zero, List.getElem_cons_succ, List.setIfInBounds_toArray, List.set_cons_zero, List.set_cons_succ]
                    refine wpAnyH_take (i := 23) (v := ?_) rfl (by kernel_rfl) (by kernel_rfl) (by kernel_rfl) (fun _ _ _ h => h) (Or.inl ⟨by rfl, ?_⟩) hS1 ?_
                    rotate_left
                    · intro w hSw; (try dsimp only at hSw); go_simp; (first | done | with_reducible rfl)
                    simp only [Act.put, List.getElem_toArray, List.getElem_cons_zero, List.getElem_cons_succ, List.setIfInBounds_toArray, List.set_cons_zero, List.set_cons_succ]
                    try simp only [bne_self_eq_false, beq_self_eq_true, Bool.not_true, Bool.xor_self, bne]
                    refine wpAnyH_take (i := 24) (v := ?_) rfl (by kernel_rfl) (by kernel_rfl) (by kernel_rfl) (fun _ _ _ h => h) (Or.inl ⟨by rfl, ?_⟩) hS1 ?_
                    rotate_left
                    · intro w hSw; (try dsimp only at hSw); go_simp; (first | done | with_reducible rfl)
                    simp only [Act.put, List.getElem_toArray, List.getElem_cons_zero, List.getElem_cons_succ, List.setIfInBounds_toArray, List.set_cons_zero, List.set_cons_succ]
                    refine wpAnyH_take (i := 25) (v := ?_) rfl (by kernel_rfl) (by kernel_rfl) (by kernel_rfl) (fun _ _ _ h => h) (Or.inl ⟨by rfl, ?_⟩) hS1 ?_
                    rotate_left
                    · intro w hSw; (try dsimp only at hSw); go_simp; (first | done | with_reducible rfl)
                    simp only [Act.put, List.getElem_toArray, List.getElem_cons_zero, List.getElem_cons_succ, List.setIfInBounds_toArray, List.set_cons_zero, List.set_cons_succ]
                    refine wpAnyH_take (i := 26) (v := ?_) rfl (by kernel_rfl) (by kernel_rfl) (by kernel_rfl) (fun _ _ _ h => h) (Or.inl ⟨by rfl, ?_⟩) hS1 ?_
                    rotate_left
                    · intro w hSw; (try dsimp only at hSw); go_simp; (first | done | with_reducible rfl)
                    simp only [Act.put, List.getElem_toArray, List.getElem_cons_zero, List.getElem_cons_succ, List.setIfInBounds_toArray, List.set_cons_zero, List.set_cons_succ]
                    refine wpAnyH_take (i := 27) (v := ?_) rfl (by kernel_rfl) (by kernel_rfl) (by kernel_rfl) (fun _ _ _ h => h) (Or.inl ⟨by rfl, ?_⟩) hS1 ?_
                    rotate_left
                    · intro w hSw; (try dsimp only at hSw); go_simp; (first | done | with_reducible rfl)
                    simp only [Act.put, List.getElem_toArray, List.getElem_cons_zero, List.getElem_cons_succ, List.setIfInBounds_toArray, List.set_cons_zero, List.set_cons_succ]
                    refine wpAnyH_take (i := 28) (v := ?_) rfl (by kernel_rfl) (by kernel_rfl) (by kernel_rfl) (fun _ _ _ h => h) (Or.inl ⟨by rfl, ?_⟩) hS1 ?_
                    rotate_left
                    · intro w hSw; (try dsimp only at hSw); go_simp; (first | done | with_reducible rfl)
                    simp only [Act.put, List.getElem_toArray, List.getElem_cons_zero, List.getElem_cons_succ, List.setIfInBounds_toArray, List.set_cons_zero, List.set_cons_succ]
                    refine wpAnyH_take (i := 29) (v := ?_) rfl (by kernel_rfl) (by kernel_rfl) (by kernel_rfl) (fun _ _ _ h => h) (Or.inl ⟨by rfl, ?_⟩) hS1 ?_
                    rotate_left
                    · intro w hSw; (try dsimp only at hSw); go_simp; (first | done | with_reducible rfl)
                    simp only [Act.put, List.getElem_toArray, List.getElem_cons_zero, List.getElem_cons_succ, List.setIfInBounds_toArray, List.set_cons_zero, List.set_cons_succ]
                    refine wpAnyH_take (i := 30) (v := ?_) rfl (by kernel_rfl) (by kernel_rfl) (by kernel_rfl) (fun _ _ _ h => h) (Or.inl ⟨by rfl, ?_⟩) hS1 ?_
                    rotate_left
                    · intro w hSw; (try dsimp only at hSw); go_simp; (first | done | with_reducible rfl)
                    simp only [Act.put, List.getElem_toArray, List.getElem_cons_zero, List.getElem_cons_succ, List.setIfInBounds_toArray, List.set_cons_zero, List.set_cons_succ]
                    refine wpAnyH_take (i := 31) (v := ?_) rfl (by kernel_rfl) (by kernel_rfl) (by kernel_rfl) (fun _ _ _ h => h) (Or.inl ⟨by rfl, ?_⟩) hS1 ?_
                    rotate_left
                    · intro w hSw; (try dsimp only at hSw); go_simp; (first | done | with_reducible rfl)
                    simp only [Act.put, List.getElem_toArray, List.getElem_cons_zero, List.getElem_cons_succ, List.setIfInBounds_toArray, List.set_cons_zero, List.set_cons_succ]
                    refine wpAnyH_take (i := 32) (v := ?_) rfl (by kernel_rfl) (by kernel_rfl) (by kernel_rfl) (fun _ _ _ h => h) (Or.inl ⟨by rfl, ?_⟩) hS1 ?_
                    rotate_left
                    · intro w hSw; (try dsimp only at hSw); go_simp; (first | done | with_reducible rfl)
                    simp only [Act.put, List.getElem_toArray, List.getElem_cons_zero, List.getElem_cons_succ, List.setIfInBounds_toArray, List.set_cons_zero, List.set_cons_succ]
                    refine wpAnyH_take (i := 33) (v := ?_) rfl (by kernel_rfl) (by kernel_rfl) (by kernel_rfl) (fun _ _ _ h => h) (Or.inl ⟨by rfl, ?_⟩) hS1 ?_
                    rotate_left
                    · intro w hSw; (try dsimp only at hSw); go_simp; (first | done | with_reducible rfl)
                    simp only [Act.put, List.getElem_toArray, List.getElem_cons_zero, List.getElem_cons_succ, List.setIfInBounds_toArray, List.set_cons_zero, List.set_cons_succ]
                    refine wpAnyH_take (i := 34) (v := ?_) rfl (by kernel_rfl) (by kernel_rfl) (by kernel_rfl) (fun _ _ _ h => h) (Or.inl ⟨by rfl, ?_⟩) hS1 ?_
                    rotate_left
                    · intro w hSw; (try dsimp only at hSw); go_simp; (first | done | with_reducible rfl)
                    simp only [Act.put, List.getElem_toArray, List.getElem_cons_zero, List.getElem_cons_succ, List.setIfInBounds_toArray, List.set_cons_zero, List.set_cons_succ]
                    refine wpAnyH_take (i := 35) (v := ?_) rfl (by kernel_rfl) (by kernel_rfl) (by kernel_rfl) (fun _ _ _ h => h) (Or.inl ⟨by rfl, ?_⟩) hS1 ?_
                    rotate_left
                    · intro w hSw; (try dsimp only at hSw); go_simp; (first | done | with_reducible rfl)
                    simp only [Act.put, List.getElem_toArray, List.getElem_cons_zero, List.getElem_cons_succ, List.setIfInBounds_toArray, List.set_cons_zero, List.set_cons_succ]
                    refine wpAnyH_done (by kernel_rfl) ?_ _
                    have HBZ := Lib.hid (go HBB.out (go (Below.refl _ _).drew hB8))
                    clear hS0 hS1 hB8 v0 v4 v6 sx
                    go_wp2_with fail
                    refine ⟨⟨i + 1, by omega, by simp, Lib.hid HBZ.out⟩, ?_⟩
                    simp only [RowKit.intOf]
                    omega
                · have t0 : decide (0 < j.att) = false := decide_eq_false hat
                  rw [t0] at sx
                  have hp0 : j.places = [] := HPN.out.2 (.inl (by have := HJO.out.att; omega))
                  have hn0 : j.num = 0 := Decidable.byContradiction fun h => HJO.out.run h hp0
                  have u1 : j.places.length = 0 := by rw [hp0]; rfl
                  rw [u1] at v6
                  rw [hn0] at v4
                  clear hat hp0 u1 hn0 HLV
                  go_quiet (fail)
                  go_wp2_with fail
                  refine ⟨⟨i + 1, by omega, by simp, Lib.hid (bdrewN HBB.out _)⟩, ?_⟩
                  simp only [RowKit.intOf]
                  omega
              · obtain rfl : i = fl.length := by omega
                have HAZ := Lib.hid (show AwP w1 wr cb R.1 w2.heap.size ∧ CtOk ((n + 1 : Nat) : Int) R.1 ∧ R.1.jobs.length = fl.length ∧ StAt wr w2.heap.size R.1 ∧ w2.heap.size < wr.heap.size from ⟨AwP.below HA7.out hb3, HOKR.out.1, HOKR.out.2, hst3, (Array.getElem?_eq_some_iff.1 hst3).1⟩)
                clear hst3 hb3
                go_wp2_with fail
                refine ⟨⟨n + 1, _, by omega, by simp, HAZ⟩, ?_⟩
                simp only [RowKit.intOf]
                omega
          · have hbf : begunB c cmd = false := by simpa using hb
            have hbk := HBG.out
            rw [hbf] at hbk
            have HS7 := Lib.hid (show StAt w6 w2.heap.size R.1 from by unfold StAt; rw [HKR.out hbf]; exact HS6.out)
            clear hb hbf
            by_cases hk3 : cmd.kind = 3
            · have t3 : (cmd.kind == 3) = true := by simpa using hk3
              have hr0 : R.2 ≠ 0 := fun e => by rw [hk3, e] at hbk; cases hbk
              have t4 : (R.2 == 0) = false := by simpa using hr0
              clear hbk hk3 hr0
              go_wp2_with fail
              go_loopw [10] (fun iv wr3 => ∃ i : Nat, i ≤ fl.length ∧ iv = .int .i64 (i : Int) ∧ Hid (Below w6.heap.size w6 wr3)) (fun iv _ => fl.length - (RowKit.intOf iv).toNat)
              case atStart => exact ⟨0, Nat.zero_le _, rfl, Lib.hid (Below.refl _ _)⟩
              case round =>
                obtain ⟨i, hi3, rfl, HB⟩ := hrel
                have hb3 := HB.out
                have q7 := kc hb3 HQ6.out
                have hszw := hb3.size
                have hst3 := StAt.below HS7.out hb3
                by_cases hlt3 : i < fl.length
                · have l0 : (i : Int) < (fl.length : Int) := by omega
                  obtain ⟨j, hj⟩ : ∃ j, R.1.jobs[i]? = some j := ⟨_, List.getElem?_eq_getElem (by have := HOKR.out.2; omega)⟩
                  have sx0 := hst3.cell hj
                  have HAW3 := Lib.hid (AwP.below HA6.out hb3)
                  have HJC := Lib.hid (aw_jobs (X := wr) HAW3.out.aw HOKR.out.1 hj)
                  unfold JobOut jobV at HJC
                  have hjo := HOKR.out.1.jobs j (List.mem_of_getElem? hj)
                  have HJO := Lib.hid hjo.1
                  have HPN := Lib.hid hjo.2.2
                  clear hj hjo hst3
                  go_wp2_with fail
                  (with_reducible refine HJC.out.mono ?_)
                  rintro e w7 ⟨pv, av, rfl, hB7, ho1, ho2⟩
                  obtain ⟨Bp, dp, rfl, -, -, -, -⟩ := own_form ho1
                  obtain ⟨Ba, da, rfl, -, -, -, -⟩ := own_form ho2
                  have sx7 := kc hB7 sx0
                  have rq := kc hB7 q7
                  have hsl := lt_of_cell sx7
                  have HAW7 := Lib.hid (HAW3.out.below hB7)
                  have HBB := Lib.hid (show Below w6.heap.size w6 (w7.alloc (.cells #[.int .i64 j.att, .int .i64 j.rd, .int .i64 j.kp, .int .i64 j.done, .int .i64 j.num, .int .i64 j.next, .slice Bp j.places.length dp, .slice Ba j.acked.length da] 55)) from go (go hb3 hB7) (box_below _ _))
                  clear q7 sx0 ho1 ho2 hB7 HJC hb3
                  have hkc : ∀ (q : Nat) (u : Value), (#[.int .i64 j.att, .int .i64 j.rd, .int .i64 j.kp, .int .i64 j.done, .int .i64 j.num, .int .i64 j.next, .slice Bp j.places.length dp, .slice Ba j.acked.length da] : Array Value)[q]? = some u → (w7.alloc (.cells #[.int .i64 j.att, .int .i64 j.rd, .int .i64 j.kp, .int .i64 j.done, .int .i64 j.num, .int .i64 j.next, .slice Bp j.places.length dp, .slice Ba j.acked.length da] 55)).cell? ⟨w7.heap.size, q, none⟩ = some u := fun q u hq => cell_new rfl hq
                  go_wp2_with fail
                  obtain ⟨X7, hX7⟩ : ∃ X7, w7.alloc (.cells #[.int .i64 j.att, .int .i64 j.rd, .int .i64 j.kp, .int .i64 j.done, .int .i64 j.num, .int .i64 j.next, .slice Bp j.places.length dp, .slice Ba j.acked.length da] 55) = X7 := ⟨_, rfl⟩
                  have sx : X7.cell? ⟨w2.heap.size, i, none⟩ = some (.bool (decide (0 < j.att))) := by rw [← hX7]; exact kc (box_below _ _) sx7
                  have HAX := Lib.hid (show AwP w1 X7 cb R.1 w2.heap.size from by rw [← hX7]; exact HAW7.out.below (box_below _ _))
                  rw [hX7] at HBB hkc ⊢
                  have v0 : X7.cell? ⟨w7.heap.size, 0, none⟩ = some (.int .i64 j.att) := hkc 0 _ rfl
                  have v4 : X7.cell? ⟨w7.heap.size, 4, none⟩ = some (.int .i64 j.num) := hkc 4 _ rfl
                  have v6 : X7.cell? ⟨w7.heap.size, 6, none⟩ = some (.slice Bp j.places.length dp) := hkc 6 _ rfl
                  have HLV := Lib.hid (fun (X : World) (k : Below X7.heap.size X7 X) => show Calls Tryz.prog 35 #[.pointer (some ⟨cb, 0, none⟩)] X (fun e X' => ∃ A k, e = .returned (.slice A (liveL R.1.lives).length k) ∧ Below X.heap.size X X') from (aw_live (HAX.out.aw.below k) HOKR.out.1).mono fun e X' h => let ⟨A, k, h1, _, h3⟩ := h; ⟨A, k, h1, h3⟩)
                  clear hX7 hkc sx7 rq HAW7 HAW3
                  by_cases hat : 0 < j.att
                  · have t0 : decide (0 < j.att) = true := decide_eq_true hat
                    rw [t0] at sx
                    obtain ⟨pl, hpl⟩ : ∃ pl : Nat, j.places.length = pl := ⟨_, rfl⟩
                    obtain ⟨ll, hll⟩ : ∃ ll : Nat, (liveL R.1.lives).length = ll := ⟨_, rfl⟩
                    have hpe : (0 < pl) ↔ (0 < ll) := by
                      rw [← hpl, ← hll, List.length_pos_iff, List.length_pos_iff]
                      exact not_congr (HPN.out.trans ⟨fun h => h.elim (fun h => by omega) id, .inr⟩)
                    have hpn : j.num ≠ 0 → 0 < pl := fun h => by rw [← hpl]; exact List.length_pos_iff.2 (HJO.out.run h)
                    rw [hpl] at v6
                    rw [hll] at HLV
                    obtain ⟨r, tp⟩ : ∃ r : Bool, decide (0 < pl) = r := ⟨_, rfl⟩
                    have tl : decide (0 < ll) = r := by rw [← tp, decide_eq_decide]; exact hpe.symm
                    clear hat hpl hll hpe
                    by_cases hn0 : j.num = 0
                    · rw [hn0] at v4
                      clear hn0 hpn
                      refine wp_region_any (by kernel_rfl) ?_
                      refine wpAny_of_held (S := fun X : World => X.cell? ⟨w7.heap.size, 0, none⟩ = some (.int .i64 j.att) ∧ X.cell? ⟨w7.heap.size, 4, none⟩ = some (.int .i64 0) ∧ X.cell? ⟨w7.heap.size, 6, none⟩ = some (.slice Bp pl dp) ∧ X.cell? ⟨w2.heap.size, i, none⟩ = some (.bool true)) _ _ _ _ ?_
                      have hS0 : (fun X : World => X.cell? ⟨w7.heap.size, 0, none⟩ = some (.int .i64 j.att) ∧ X.cell? ⟨w7.heap.size, 4, none⟩ = some (.int .i64 0) ∧ X.cell? ⟨w7.heap.size, 6, none⟩ = some (.slice Bp pl dp) ∧ X.cell? ⟨w2.heap.size, i, none⟩ = some (.bool true)) X7.drew := ⟨v0, v4, v6, sx⟩
                      refine wpAnyH_take (i := 0) (v := ?_) rfl (by kernel_rfl) (by kernel_rfl) (by kernel_rfl) (fun _ _ _ h => h) (Or.inl ⟨by rfl, ?_⟩) hS0 ?_
                      rotate_left
                      · intro w hSw; (try dsimp only at hSw); go_simp; (first | done | with_reducible rfl)
                      simp only [Act.put, List.getElem_toArray, List.getElem_cons_zero, List.setIfInBounds_toArray, List.set_cons_zero, List.set_cons_succ]
                      refine wpAnyH_take (i := 1) (v := ?_) rfl (by kernel_rfl) (by kernel_rfl) (by kernel_rfl) (fun _ _ _ h => h) (Or.inl ⟨by rfl, ?_⟩) hS0 ?_
                      rotate_left
                      · intro w hSw; (try dsimp only at hSw); go_simp; (first | done | with_reducible rfl)
                      simp only [Act.put, List.getElem_toArray, List.getElem_cons_zero, List.getElem_cons_succ, List.setIfInBounds_toArray, List.set_cons_zero, List.set_cons_succ]
                      refine wpAnyH_take (i := 2) (v := ?_) rfl (by kernel_rfl) (by kernel_rfl) (by kernel_rfl) (fun _ _ _ h => h) (Or.inl ⟨by rfl, ?_⟩) hS0 ?_
                      rotate_left
                      · intro w hSw; (try dsimp only at hSw); go_simp; (first | done | with_reducible rfl)
                      simp only [Act.put, List.getElem_toArray, List.getElem_cons_zero, List.getElem_cons_succ, List.setIfInBounds_toArray, List.set_cons_zero, List.set_cons_succ]
                      refine wpAnyH_take (i := 3) (v := ?_) rfl (by kernel_rfl) (by kernel_rfl) (by kernel_rfl) (fun _ _ _ h => h) (Or.inl ⟨by rfl, ?_⟩) hS0 ?_
                      rotate_left
                      · intro w hSw; (try dsimp only at hSw); go_simp; (first | done | with_reducible rfl)
                      simp only [Act.put, List.getElem_toArray, List.getElem_cons_zero, List.getElem_cons_succ, List.setIfInBounds_toArray, List.set_cons_zero, List.set_cons_succ]
                      refine wpAnyH_take (i := 4) (v := ?_) rfl (by kernel_rfl) (by kernel_rfl) (by kernel_rfl) (fun _ _ _ h => h) (Or.inl ⟨by rfl, ?_⟩) hS0 ?_
                      rotate_left
                      · intro w hSw; (try dsimp only at hSw); go_simp; (first | done | with_reducible rfl)
                      simp only [Act.put, List.getElem_toArray, List.getElem_cons_zero, List.getElem_cons_succ, List.setIfInBounds_toArray, List.set_cons_zero, List.set_cons_succ]
                      refine wpAnyH_take (i := 5) (v := ?_) rfl (by kernel_rfl) (by kernel_rfl) (by kernel_rfl) (fun _ _ _ h => h) (Or.inl ⟨by rfl, ?_⟩) hS0 ?_
                      rotate_left
                      · intro w hSw; (try dsimp only at hSw); go_simp; (first | done | with_reducible rfl)
                      simp only [Act.put, List.getElem_toArray, List.getElem_cons_zero, List.getElem_cons_succ, List.setIfInBounds_toArray, List.set_cons_zero, List.set_cons_succ]
                      refine wpAnyH_take (i := 6) (v := ?_) rfl (by kernel_rfl) (by kernel_rfl) (by kernel_rfl) (fun _ _ _ h => h) (Or.inl ⟨by rfl, ?_⟩) hS0 ?_
                      rotate_left
                      · intro w hSw; (try dsimp only at hSw); go_simp; (first | done | with_reducible rfl)
                      simp only [Act.put, List.getElem_toArray, List.getElem_cons_zero, List.getElem_cons_succ, List.setIfInBounds_toArray, List.set_cons_zero, List.set_cons_succ]
                      refine wpAnyH_take (i := 7) (v := ?_) rfl (by kernel_rfl) (by kernel_rfl) (by kernel_rfl) (fun _ _ _ h => h) (Or.inl ⟨by rfl, ?_⟩) hS0 ?_
                      rotate_left
                      · intro w hSw; (try dsimp only at hSw); go_simp; (first | done | with_reducible rfl)
                      simp only [Act.put, List.getElem_toArray, List.getElem_cons_zero, List.getElem_cons_succ, List.setIfInBounds_toArray, List.set_cons_zero, List.set_cons_succ]
                      refine wpAnyH_take (i := 8) (v := ?_) rfl (by kernel_rfl) (by kernel_rfl) (by kernel_rfl) (fun _ _ _ h => h) (Or.inl ⟨by rfl, ?_⟩) hS0 ?_
                      rotate_left
                      · intro w hSw; (try dsimp only at hSw); go_simp; (first | done | with_reducible rfl)
                      simp only [Act.put, List.getElem_toArray, List.getElem_cons_zero, List.getElem_cons_succ, List.setIfInBounds_toArray, List.set_cons_zero, List.set_cons_succ]
                      refine wpAnyH_take (i := 9) (v := ?_) rfl (by kernel_rfl) (by kernel_rfl) (by kernel_rfl) (fun _ _ _ h => h) (Or.inl ⟨by rfl, ?_⟩) hS0 ?_
                      rotate_left
                      · intro w hSw; (try dsimp only at hSw); go_simp; (first | done | with_reducible rfl)
                      simp only [Act.put, List.getElem_toArray, List.getElem_cons_zero, List.getElem_cons_succ, List.setIfInBounds_toArray, List.set_cons_zero, List.set_cons_succ]
                      refine wpAnyH_take (i := 10) (v := ?_) rfl (by kernel_rfl) (by kernel_rfl) (by kernel_rfl) (fun _ _ _ h => h) (Or.inl ⟨by rfl, ?_⟩) hS0 ?_
                      rotate_left
                      · intro w hSw; (try dsimp only at hSw); go_simp; (first | done | with_reducible rfl)
                      simp only [Act.put, List.getElem_toArray, List.getElem_cons_zero, List.getElem_cons_succ, List.setIfInBounds_toArray, List.set_cons_zero, List.set_cons_succ]
                      refine wpAnyH_take (i := 11) (v := ?_) rfl (by kernel_rfl) (by kernel_rfl) (by kernel_rfl) (fun _ _ _ h => h) (Or.inl ⟨by rfl, ?_⟩) hS0 ?_
                      rotate_left
                      · intro w hSw; (try dsimp only at hSw); go_simp; (first | done | with_reducible rfl)
                      simp only [Act.put, List.getElem_toArray, List.getElem_cons_zero, List.getElem_cons_succ, List.setIfInBounds_toArray, List.set_cons_zero, List.set_cons_succ]
                      refine wpAnyH_take (i := 12) (v := ?_) rfl (by kernel_rfl) (by kernel_rfl) (by kernel_rfl) (fun _ _ _ h => h) (Or.inl ⟨by rfl, ?_⟩) hS0 ?_
                      rotate_left
                      · intro w hSw; (try dsimp only at hSw); go_simp; (first | done | with_reducible rfl)
                      simp only [Act.put, List.getElem_toArray, List.getElem_cons_zero, List.getElem_cons_succ, List.setIfInBounds_toArray, List.set_cons_zero, List.set_cons_succ]
                      refine wpAnyH_take (i := 13) (v := ?_) rfl (by kernel_rfl) (by kernel_rfl) (by kernel_rfl) (fun _ _ _ h => h) (Or.inl ⟨by rfl, ?_⟩) hS0 ?_
                      rotate_left
                      · intro w hSw; (try dsimp only at hSw); go_simp; (first | done | with_reducible rfl)
                      simp only [Act.put, List.getElem_toArray, List.getElem_cons_zero, List.getElem_cons_succ, List.setIfInBounds_toArray, List.set_cons_zero, List.set_cons_succ]
                      refine wpAnyH_take (i := 14) (v := ?_) rfl (by kernel_rfl) (by kernel_rfl) (by kernel_rfl) (fun _ _ _ h => h) (Or.inl ⟨by rfl, ?_⟩) hS0 ?_
                      rotate_left
                      · intro w hSw; (try dsimp only at hSw); go_simp; (first | done | with_reducible rfl)
                      simp only [Act.put, List.getElem_toArray, List.getElem_cons_zero, List.getElem_cons_succ, List.setIfInBounds_toArray, List.set_cons_zero, List.set_cons_succ]
                      refine wpAnyH_take (i := 15) (v := ?_) rfl (by kernel_rfl) (by kernel_rfl) (by kernel_rfl) (fun _ _ _ h => h) (Or.inl ⟨by rfl, ?_⟩) hS0 ?_
                      rotate_left
                      · intro w hSw; (try dsimp only at hSw); go_simp; (first | done | with_reducible rfl)
                      simp only [Act.put, List.getElem_toArray, List.getElem_cons_zero, List.getElem_cons_succ, List.setIfInBounds_toArray, List.set_cons_zero, List.set_cons_succ]
                      refine wpAnyH_take (i := 16) (v := ?_) rfl (by kernel_rfl) (by kernel_rfl) (by kernel_rfl) (fun _ _ _ h => h) (Or.inl ⟨by rfl, ?_⟩) hS0 ?_
                      rotate_left
                      · intro w hSw; (try dsimp only at hSw); go_simp; (first | done | with_reducible rfl)
                      simp only [Act.put, List.getElem_toArray, List.getElem_cons_zero, List.getElem_cons_succ, List.setIfInBounds_toArray, List.set_cons_zero, List.set_cons_succ]
                      refine wpAnyH_take (i := 17) (v := ?_) rfl (by kernel_rfl) (by kernel_rfl) (by kernel_rfl) (fun _ _ _ h => h) (Or.inl ⟨by rfl, ?_⟩) hS0 ?_
                      rotate_left
                      · intro w hSw; (try dsimp only at hSw); go_simp; (first | done | with_reducible rfl)
                      simp only [Act.put, List.getElem_toArray, List.getElem_cons_zero, List.getElem_cons_succ, List.setIfInBounds_toArray, List.set_cons_zero, List.set_cons_succ]
                      refine wpAnyH_take (i := 18) (v := ?_) rfl (by kernel_rfl) (by kernel_rfl) (by kernel_rfl) (fun _ _ _ h => h) (Or.inl ⟨by rfl, ?_⟩) hS0 ?_
                      rotate_left
                      · intro w hSw; (try dsimp only at hSw); go_simp; (first | done | with_reducible rfl)
                      simp only [Act.put, List.getElem_toArray, List.getElem_cons_zero, List.getElem_cons_succ, List.setIfInBounds_toArray, List.set_cons_zero, List.set_cons_succ]
                      refine wpAnyH_ready (rs := [19]) (by kernel_rfl) (by simp) ?_
                      refine AllReadyH.cons rfl (fun K hK => ?_) AllReadyH.nil
                      go_simp
                      (with_reducible refine (HLV.out _ (Below.refl _ _).drew).mono ?_)
                      rintro e w8 ⟨LA, lk, rfl, hB8⟩
                      refine hK.out _ _ ⟨kc hB8 hS0.1, kc hB8 hS0.2.1, kc hB8 hS0.2.2.1, kc hB8 hS0.2.2.2⟩ (fun hS1 => ?_)
                      clear hK K
                      try simp only [Act.put, List.setIfInBounds_toArray, List.set_cons_zero, List.set_cons_succ]
                      refine wpAnyH_take (i := 20) (v := ?_) rfl (by kernel_rfl) (by kernel_rfl) (by kernel_rfl) (fun _ _ _ h => h) (Or.inl ⟨by rfl, ?_⟩) hS1 ?_
                      rotate_left
                      · intro w hSw; (try dsimp only at hSw); go_simp; (first | done | with_reducible rfl)
                      simp only [Act.put, List.getElem_toArray, List.getElem_cons_zero, List.getElem_cons_succ, List.setIfInBounds_toArray, List.set_cons_zero, List.set_cons_succ]
                      refine wpAnyH_take (i := 21) (v := ?_) rfl (by kernel_rfl) (by kernel_rfl) (by kernel_rfl) (fun _ _ _ h => h) (Or.inl ⟨by rfl, ?_⟩) hS1 ?_
                      rotate_left
                      · intro w hSw; (try dsimp only at hSw); go_simp; (first | done | with_reducible rfl)
                      simp only [Act.put, List.getElem_toArray, List.getElem_cons_zero, List.getElem_cons_succ, List.setIfInBounds_toArray, List.set_cons_zero, List.set_cons_succ]
                      refine wpAnyH_take (i := 22) (v := ?_) rfl (by kernel_rfl) (by kernel_rfl) (by kernel_rfl) (fun _ _ _ h => h) (Or.inl ⟨by rfl, ?_⟩) hS1 ?_
                      rotate_left
                      · intro w hSw; (try dsimp only at hSw); go_simp; (first | done | with_reducible rfl)
                      simp only [Act.put, List.getElem_toArray, List.getElem_cons_zero, List.getElem_cons_succ, List.setIfInBounds_toArray, List.set_cons_zero, List.set_cons_succ]
                      refine wpAnyH_take (i := 23) (v := ?_) rfl (by kernel_rfl) (by kernel_rfl) (by kernel_rfl) (fun _ _ _ h => h) (Or.inl ⟨by rfl, ?_⟩) hS1 ?_
                      rotate_left
                      · intro w hSw; (try dsimp only at hSw); go_simp; (first | done | with_reducible rfl)
                      simp only [Act.put, List.getElem_toArray, List.getElem_cons_zero, List.getElem_cons_succ, List.setIfInBounds_toArray, List.set_cons_zero, List.set_cons_succ]
                      try simp only [bne_self_eq_false, beq_self_eq_true, Bool.not_true, Bool.xor_self, bne]
                      refine wpAnyH_take (i := 24) (v := ?_) rfl (by kernel_rfl) (by kernel_rfl) (by kernel_rfl) (fun _ _ _ h => h) (Or.inl ⟨by rfl, ?_⟩) hS1 ?_
                      rotate_left
                      · intro w hSw; (try dsimp only at hSw); go_simp; (first | done | with_reducible rfl)
                      simp only [Act.put, List.getElem_toArray, List.getElem_cons_zero, List.getElem_cons_succ, List.setIfInBounds_toArray, List.set_cons_zero, List.set_cons_succ]
                      refine wpAnyH_take (i := 25) (v := ?_) rfl (by kernel_rfl) (by kernel_rfl) (by kernel_rfl) (fun _ _ _ h => h) (Or.inl ⟨by rfl, ?_⟩) hS1 ?_
                      rotate_left
                      · intro w hSw; (try dsimp only at hSw); go_simp; (first | done | with_reducible rfl)
                      simp only [Act.put, List.getElem_toArray, List.getElem_cons_zero, List.getElem_cons_succ, List.setIfInBounds_toArray, List.set_cons_zero, List.set_cons_succ]
                      refine wpAnyH_take (i := 26) (v := ?_) rfl (by kernel_rfl) (by kernel_rfl) (by kernel_rfl) (fun _ _ _ h => h) (Or.inl ⟨by rfl, ?_⟩) hS1 ?_
                      rotate_left
                      · intro w hSw; (try dsimp only at hSw); go_simp; (first | done | with_reducible rfl)
                      simp only [Act.put, List.getElem_toArray, List.getElem_cons_zero, List.getElem_cons_succ, List.setIfInBounds_toArray, List.set_cons_zero, List.set_cons_succ]
                      refine wpAnyH_take (i := 27) (v := ?_) rfl (by kernel_rfl) (by kernel_rfl) (by kernel_rfl) (fun _ _ _ h => h) (Or.inl ⟨by rfl, ?_⟩) hS1 ?_
                      rotate_left
                      · intro w hSw; (try dsimp only at hSw); go_simp; (first | done | with_reducible rfl)
                      simp only [Act.put, List.getElem_toArray, List.getElem_cons_zero, List.getElem_cons_succ, List.setIfInBounds_toArray, List.set_cons_zero, List.set_cons_succ]
                      refine wpAnyH_take (i := 28) (v := ?_) rfl (by kernel_rfl) (by kernel_rfl) (by kernel_rfl) (fun _ _ _ h => h) (Or.inl ⟨by rfl, ?_⟩) hS1 ?_
                      rotate_left
                      · intro w hSw; (try dsimp only at hSw); go_simp; (first | done | with_reducible rfl)
                      simp only [Act.put, List.getElem_toArray, List.getElem_cons_zero, List.getElem_cons_succ, List.setIfInBounds_toArray, List.set_cons_zero, List.set_cons_succ]
                      refine wpAnyH_take (i := 29) (v := ?_) rfl (by kernel_rfl) (by kernel_rfl) (by kernel_rfl) (fun _ _ _ h => h) (Or.inl ⟨by rfl, ?_⟩) hS1 ?_
                      rotate_left
                      · intro w hSw; (try dsimp only at hSw); go_simp; (first | done | with_reducible rfl)
                      simp only [Act.put, List.getElem_toArray, List.getElem_cons_zero, List.getElem_cons_succ, List.setIfInBounds_toArray, List.set_cons_zero, List.set_cons_succ]
                      refine wpAnyH_take (i := 30) (v := undef) rfl (by kernel_rfl) (by kernel_rfl) (by kernel_rfl) (fun _ _ _ h => h) (Or.inr ⟨by rfl, rfl⟩) hS1 ?_
                      simp only [Act.put, List.setIfInBounds_toArray]
                      refine wpAnyH_take (i := 31) (v := undef) rfl (by kernel_rfl) (by kernel_rfl) (by kernel_rfl) (fun _ _ _ h => h) (Or.inr ⟨by rfl, rfl⟩) hS1 ?_
                      simp only [Act.put]
                      refine wpAnyH_take (i := 32) (v := undef) rfl (by kernel_rfl) (by kernel_rfl) (by kernel_rfl) (fun _ _ _ h => h) (Or.inr ⟨by rfl, rfl⟩) hS1 ?_
                      simp only [Act.put]
                      refine wpAnyH_take (i := 33) (v := undef) rfl (by kernel_rfl) (by kernel_rfl) (by kernel_rfl) (fun _ _ _ h => h) (Or.inr ⟨by rfl, rfl⟩) hS1 ?_
                      simp only [Act.put]
                      refine wpAnyH_take (i := 34) (v := ?_) rfl (by kernel_rfl) (by kernel_rfl) (by kernel_rfl) (fun _ _ _ h => h) (Or.inl ⟨by rfl, ?_⟩) hS1 ?_
                      rotate_left
                      · intro w hSw; (try dsimp only at hSw); go_simp; (first | done | with_reducible rfl)
                      simp only [Act.put, List.getElem_toArray, List.getElem_cons_zero, List.getElem_cons_succ, List.setIfInBounds_toArray, List.set_cons_zero, List.set_cons_succ]
                      refine wpAnyH_take (i := 35) (v := ?_) rfl (by kernel_rfl) (by kernel_rfl) (by kernel_rfl) (fun _ _ _ h => h) (Or.inl ⟨by rfl, ?_⟩) hS1 ?_
                      rotate_left
                      · intro w hSw; (try dsimp only at hSw); go_simp; (first | done | with_reducible rfl)
                      simp only [Act.put, List.getElem_toArray, List.getElem_cons_zero, List.getElem_cons_succ, List.setIfInBounds_toArray, List.set_cons_zero, List.set_cons_succ]
                      refine wpAnyH_done (by kernel_rfl) ?_ _
                      have HBZ := Lib.hid (go HBB.out (go (Below.refl _ _).drew hB8))
                      clear hS0 hS1 hB8 v0 v4 v6 sx
                      go_wp2_with fail
                      refine ⟨⟨i + 1, by omega, by simp, Lib.hid HBZ.out⟩, ?_⟩
                      simp only [RowKit.intOf]
                      omega
                    · have tn : (j.num == 0) = false := by simpa using hn0
                      have tn2 : (j.num != 0) = true := by simpa using hn0
                      have te : ((pl : Int) == 0) = false := by rw [beq_eq_false_iff_ne]; have := hpn hn0; omega
                      have te2 : (pl == 0) = false := by rw [beq_eq_false_iff_ne]; have := hpn hn0; omega
                      have te3 : decide (pl = 0) = false := decide_eq_false (by have := hpn hn0; omega)
                      obtain rfl : r = true := by rw [← tp]; exact decide_eq_true (hpn hn0)
                      clear hn0 hpn
                      refine wp_region_any (by kernel_rfl) ?_
                      refine wpAny_of_held (S := fun X : World => X.cell? ⟨w7.heap.size, 0, none⟩ = some (.int .i64 j.att) ∧ X.cell? ⟨w7.heap.size, 4, none⟩ = some (.int .i64 j.num) ∧ X.cell? ⟨w7.heap.size, 6, none⟩ = some (.slice Bp pl dp) ∧ X.cell? ⟨w2.heap.size, i, none⟩ = some (.bool true)) _ _ _ _ ?_
                      have hS0 : (fun X : World => X.cell? ⟨w7.heap.size, 0, none⟩ = some (.int .i64 j.att) ∧ X.cell? ⟨w7.heap.size, 4, none⟩ = some (.int .i64 j.num) ∧ X.cell? ⟨w7.heap.size, 6, none⟩ = some (.slice Bp pl dp) ∧ X.cell? ⟨w2.heap.size, i, none⟩ = some (.bool true)) X7.drew := ⟨v0, v4, v6, sx⟩
                      refine wpAnyH_take (i := 0) (v := ?_) rfl (by kernel_rfl) (by kernel_rfl) (by kernel_rfl) (fun _ _ _ h => h) (Or.inl ⟨by rfl, ?_⟩) hS0 ?_
                      rotate_left
                      · intro w hSw; (try dsimp only at hSw); go_simp; (first | done | with_reducible rfl)
                      simp only [Act.put, List.getElem_toArray, List.getElem_cons_zero, List.setIfInBounds_toArray, List.set_cons_zero, List.set_cons_succ]
                      refine wpAnyH_take (i := 1) (v := ?_) rfl (by kernel_rfl) (by kernel_rfl) (by kernel_rfl) (fun _ _ _ h => h) (Or.inl ⟨by rfl, ?_⟩) hS0 ?_
                      rotate_left
                      · intro w hSw; (try dsimp only at hSw); go_simp; (first | done | with_reducible rfl)
                      simp only [Act.put, List.getElem_toArray, List.getElem_cons_zero, List.getElem_cons_succ, List.setIfInBounds_toArray, List.set_cons_zero, List.set_cons_succ]
                      refine wpAnyH_take (i := 2) (v := ?_) rfl (by kernel_rfl) (by kernel_rfl) (by kernel_rfl) (fun _ _ _ h => h) (Or.inl ⟨by rfl, ?_⟩) hS0 ?_
                      rotate_left
                      · intro w hSw; (try dsimp only at hSw); go_simp; (first | done | with_reducible rfl)
                      simp only [Act.put, List.getElem_toArray, List.getElem_cons_zero, List.getElem_cons_succ, List.setIfInBounds_toArray, List.set_cons_zero, List.set_cons_succ]
                      refine wpAnyH_take (i := 3) (v := ?_) rfl (by kernel_rfl) (by kernel_rfl) (by kernel_rfl) (fun _ _ _ h => h) (Or.inl ⟨by rfl, ?_⟩) hS0 ?_
                      rotate_left
                      · intro w hSw; (try dsimp only at hSw); go_simp; (first | done | with_reducible rfl)
                      simp only [Act.put, List.getElem_toArray, List.getElem_cons_zero, List.getElem_cons_succ, List.setIfInBounds_toArray, List.set_cons_zero, List.set_cons_succ]
                      refine wpAnyH_take (i := 4) (v := ?_) rfl (by kernel_rfl) (by kernel_rfl) (by kernel_rfl) (fun _ _ _ h => h) (Or.inl ⟨by rfl, ?_⟩) hS0 ?_
                      rotate_left
                      · intro w hSw; (try dsimp only at hSw); go_simp; (first | done | with_reducible rfl)
                      simp only [Act.put, List.getElem_toArray, List.getElem_cons_zero, List.getElem_cons_succ, List.setIfInBounds_toArray, List.set_cons_zero, List.set_cons_succ]
                      refine wpAnyH_take (i := 5) (v := ?_) rfl (by kernel_rfl) (by kernel_rfl) (by kernel_rfl) (fun _ _ _ h => h) (Or.inl ⟨by rfl, ?_⟩) hS0 ?_
                      rotate_left
                      · intro w hSw; (try dsimp only at hSw); go_simp; (first | done | with_reducible rfl)
                      simp only [Act.put, List.getElem_toArray, List.getElem_cons_zero, List.getElem_cons_succ, List.setIfInBounds_toArray, List.set_cons_zero, List.set_cons_succ]
                      refine wpAnyH_take (i := 6) (v := ?_) rfl (by kernel_rfl) (by kernel_rfl) (by kernel_rfl) (fun _ _ _ h => h) (Or.inl ⟨by rfl, ?_⟩) hS0 ?_
                      rotate_left
                      · intro w hSw; (try dsimp only at hSw); go_simp; (first | done | with_reducible rfl)
                      simp only [Act.put, List.getElem_toArray, List.getElem_cons_zero, List.getElem_cons_succ, List.setIfInBounds_toArray, List.set_cons_zero, List.set_cons_succ]
                      refine wpAnyH_take (i := 7) (v := ?_) rfl (by kernel_rfl) (by kernel_rfl) (by kernel_rfl) (fun _ _ _ h => h) (Or.inl ⟨by rfl, ?_⟩) hS0 ?_
                      rotate_left
                      · intro w hSw; (try dsimp only at hSw); go_simp; (first | done | with_reducible rfl)
                      simp only [Act.put, List.getElem_toArray, List.getElem_cons_zero, List.getElem_cons_succ, List.setIfInBounds_toArray, List.set_cons_zero, List.set_cons_succ]
                      refine wpAnyH_take (i := 8) (v := ?_) rfl (by kernel_rfl) (by kernel_rfl) (by kernel_rfl) (fun _ _ _ h => h) (Or.inl ⟨by rfl, ?_⟩) hS0 ?_
                      rotate_left
                      · intro w hSw; (try dsimp only at hSw); go_simp; (first | done | with_reducible rfl)
                      simp only [Act.put, List.getElem_toArray, List.getElem_cons_zero, List.getElem_cons_succ, List.setIfInBounds_toArray, List.set_cons_zero, List.set_cons_succ]
                      refine wpAnyH_take (i := 9) (v := ?_) rfl (by kernel_rfl) (by kernel_rfl) (by kernel_rfl) (fun _ _ _ h => h) (Or.inl ⟨by rfl, ?_⟩) hS0 ?_
                      rotate_left
                      · intro w hSw; (try dsimp only at hSw); go_simp; (first | done | with_reducible rfl)
                      simp only [Act.put, List.getElem_toArray, List.getElem_cons_zero, List.getElem_cons_succ, List.setIfInBounds_toArray, List.set_cons_zero, List.set_cons_succ]
                      refine wpAnyH_take (i := 10) (v := ?_) rfl (by kernel_rfl) (by kernel_rfl) (by kernel_rfl) (fun _ _ _ h => h) (Or.inl ⟨by rfl, ?_⟩) hS0 ?_
                      rotate_left
                      · intro w hSw; (try dsimp only at hSw); go_simp; (first | done | with_reducible rfl)
                      simp only [Act.put, List.getElem_toArray, List.getElem_cons_zero, List.getElem_cons_succ, List.setIfInBounds_toArray, List.set_cons_zero, List.set_cons_succ]
                      refine wpAnyH_take (i := 11) (v := ?_) rfl (by kernel_rfl) (by kernel_rfl) (by kernel_rfl) (fun _ _ _ h => h) (Or.inl ⟨by rfl, ?_⟩) hS0 ?_
                      rotate_left
                      · intro w hSw; (try dsimp only at hSw); go_simp; (first | done | with_reducible rfl)
                      simp only [Act.put, List.getElem_toArray, List.getElem_cons_zero, List.getElem_cons_succ, List.setIfInBounds_toArray, List.set_cons_zero, List.set_cons_succ]
                      refine wpAnyH_take (i := 12) (v := ?_) rfl (by kernel_rfl) (by kernel_rfl) (by kernel_rfl) (fun _ _ _ h => h) (Or.inl ⟨by rfl, ?_⟩) hS0 ?_
                      rotate_left
                      · intro w hSw; (try dsimp only at hSw); go_simp; (first | done | with_reducible rfl)
                      simp only [Act.put, List.getElem_toArray, List.getElem_cons_zero, List.getElem_cons_succ, List.setIfInBounds_toArray, List.set_cons_zero, List.set_cons_succ]
                      refine wpAnyH_take (i := 13) (v := ?_) rfl (by kernel_rfl) (by kernel_rfl) (by kernel_rfl) (fun _ _ _ h => h) (Or.inl ⟨by rfl, ?_⟩) hS0 ?_
                      rotate_left
                      · intro w hSw; (try dsimp only at hSw); go_simp; (first | done | with_reducible rfl)
                      simp only [Act.put, List.getElem_toArray, List.getElem_cons_zero, List.getElem_cons_succ, List.setIfInBounds_toArray, List.set_cons_zero, List.set_cons_succ]
                      refine wpAnyH_take (i := 14) (v := ?_) rfl (by kernel_rfl) (by kernel_rfl) (by kernel_rfl) (fun _ _ _ h => h) (Or.inl ⟨by rfl, ?_⟩) hS0 ?_
                      rotate_left
                      · intro w hSw; (try dsimp only at hSw); go_simp; (first | done | with_reducible rfl)
                      simp only [Act.put, List.getElem_toArray, List.getElem_cons_zero, List.getElem_cons_succ, List.setIfInBounds_toArray, List.set_cons_zero, List.set_cons_succ]
                      refine wpAnyH_take (i := 15) (v := ?_) rfl (by kernel_rfl) (by kernel_rfl) (by kernel_rfl) (fun _ _ _ h => h) (Or.inl ⟨by rfl, ?_⟩) hS0 ?_
                      rotate_left
                      · intro w hSw; (try dsimp only at hSw); go_simp; (first | done | with_reducible rfl)
                      simp only [Act.put, List.getElem_toArray, List.getElem_cons_zero, List.getElem_cons_succ, List.setIfInBounds_toArray, List.set_cons_zero, List.set_cons_succ]
                      refine wpAnyH_take (i := 16) (v := ?_) rfl (by kernel_rfl) (by kernel_rfl) (by kernel_rfl) (fun _ _ _ h => h) (Or.inl ⟨by rfl, ?_⟩) hS0 ?_
                      rotate_left
                      · intro w hSw; (try dsimp only at hSw); go_simp; (first | done | with_reducible rfl)
                      simp only [Act.put, List.getElem_toArray, List.getElem_cons_zero, List.getElem_cons_succ, List.setIfInBounds_toArray, List.set_cons_zero, List.set_cons_succ]
                      refine wpAnyH_take (i := 17) (v := ?_) rfl (by kernel_rfl) (by kernel_rfl) (by kernel_rfl) (fun _ _ _ h => h) (Or.inl ⟨by rfl, ?_⟩) hS0 ?_
                      rotate_left
                      · intro w hSw; (try dsimp only at hSw); go_simp; (first | done | with_reducible rfl)
                      simp only [Act.put, List.getElem_toArray, List.getElem_cons_zero, List.getElem_cons_succ, List.setIfInBounds_toArray, List.set_cons_zero, List.set_cons_succ]
                      refine wpAnyH_take (i := 18) (v := ?_) rfl (by kernel_rfl) (by kernel_rfl) (by kernel_rfl) (fun _ _ _ h => h) (Or.inl ⟨by rfl, ?_⟩) hS0 ?_
                      rotate_left
                      · intro w hSw; (try dsimp only at hSw); go_simp; (first | done | with_reducible rfl)
                      simp only [Act.put, List.getElem_toArray, List.getElem_cons_zero, List.getElem_cons_succ, List.setIfInBounds_toArray, List.set_cons_zero, List.set_cons_succ]
                      refine wpAnyH_ready (rs := [19]) (by kernel_rfl) (by simp) ?_
                      refine AllReadyH.cons rfl (fun K hK => ?_) AllReadyH.nil
                      go_simp
                      (with_reducible refine (HLV.out _ (Below.refl _ _).drew).mono ?_)
                      rintro e w8 ⟨LA, lk, rfl, hB8⟩
                      refine hK.out _ _ ⟨kc hB8 hS0.1, kc hB8 hS0.2.1, kc hB8 hS0.2.2.1, kc hB8 hS0.2.2.2⟩ (fun hS1 => ?_)
                      clear hK K
                      try simp only [Act.put, List.setIfInBounds_toArray, List.set_cons_zero, List.set_cons_succ]
                      refine wpAnyH_take (i := 20) (v := ?_) rfl (by kernel_rfl) (by kernel_rfl) (by kernel_rfl) (fun _ _ _ h => h) (Or.inl ⟨by rfl, ?_⟩) hS1 ?_
                      rotate_left
                      · intro w hSw; (try dsimp only at hSw); go_simp; (first | done | with_reducible rfl)
                      simp only [Act.put, List.getElem_toArray, List.getElem_cons_zero, List.getElem_cons_succ, List.setIfInBounds_toArray, List.set_cons_zero, List.set_cons_succ]
                      refine wpAnyH_take (i := 21) (v := ?_) rfl (by kernel_rfl) (by kernel_rfl) (by kernel_rfl) (fun _ _ _ h => h) (Or.inl ⟨by rfl, ?_⟩) hS1 ?_
                      rotate_left
                      · intro w hSw; (try dsimp only at hSw); go_simp; (first | done | with_reducible rfl)
                      simp only [Act.put, List.getElem_toArray, List.getElem_cons_zero, List.getElem_cons_succ, List.setIfInBounds_toArray, List.set_cons_zero, List.set_cons_succ]
                      refine wpAnyH_take (i := 22) (v := ?_) rfl (by kernel_rfl) (by kernel_rfl) (by kernel_rfl) (fun _ _ _ h => h) (Or.inl ⟨by rfl, ?_⟩) hS1 ?_
                      rotate_left
                      · intro w hSw; (try dsimp only at hSw); go_simp; (first | done | with_reducible rfl)
                      simp only [Act.put, List.getElem_toArray, List.getElem_cons_zero, List.getElem_cons_succ, List.setIfInBounds_toArray, List.set_cons_zero, List.set_cons_succ]
                      refine wpAnyH_take (i := 23) (v := ?_) rfl (by kernel_rfl) (by kernel_rfl) (by kernel_rfl) (fun _ _ _ h => h) (Or.inl ⟨by rfl, ?_⟩) hS1 ?_
                      rotate_left
                      · intro w hSw; (try dsimp only at hSw); go_simp; (first | done | with_reducible rfl)
                      simp only [Act.put, List.getElem_toArray, List.getElem_cons_zero, List.getElem_cons_succ, List.setIfInBounds_toArray, List.set_cons_zero, List.set_cons_succ]
                      try simp only [bne_self_eq_false, beq_self_eq_true, Bool.not_true, Bool.xor_self, bne]
                      refine wpAnyH_take (i := 24) (v := ?_) rfl (by kernel_rfl) (by kernel_rfl) (by kernel_rfl) (fun _ _ _ h => h) (Or.inl ⟨by rfl, ?_⟩) hS1 ?_
                      rotate_left
                      · intro w hSw; (try dsimp only at hSw); go_simp; (first | done | with_reducible rfl)
                      simp only [Act.put, List.getElem_toArray, List.getElem_cons_zero, List.getElem_cons_succ, List.setIfInBounds_toArray, List.set_cons_zero, List.set_cons_succ]
                      refine wpAnyH_take (i := 25) (v := ?_) rfl (by kernel_rfl) (by kernel_rfl) (by kernel_rfl) (fun _ _ _ h => h) (Or.inl ⟨by rfl, ?_⟩) hS1 ?_
                      rotate_left
                      · intro w hSw; (try dsimp only at hSw); go_simp; (first | done | with_reducible rfl)
                      simp only [Act.put, List.getElem_toArray, List.getElem_cons_zero, List.getElem_cons_succ, List.setIfInBounds_toArray, List.set_cons_zero, List.set_cons_succ]
                      refine wpAnyH_take (i := 26) (v := ?_) rfl (by kernel_rfl) (by kernel_rfl) (by kernel_rfl) (fun _ _ _ h => h) (Or.inl ⟨by rfl, ?_⟩) hS1 ?_
                      rotate_left
                      · intro w hSw; (try dsimp only at hSw); go_simp; (first | done | with_reducible rfl)
                      simp only [Act.put, List.getElem_toArray, List.getElem_cons_zero, List.getElem_cons_succ, List.setIfInBounds_toArray, List.set_cons_zero, List.set_cons_succ]
                      refine wpAnyH_take (i := 27) (v := ?_) rfl (by kernel_rfl) (by kernel_rfl) (by kernel_rfl) (fun _ _ _ h => h) (Or.inl ⟨by rfl, ?_⟩) hS1 ?_
                      rotate_left
                      · intro w hSw; (try dsimp only at hSw); go_simp; (first | done | with_reducible rfl)
                      simp only [Act.put, List.getElem_toArray, List.getElem_cons_zero, List.getElem_cons_succ, List.setIfInBounds_toArray, List.set_cons_zero, List.set_cons_succ]
                      refine wpAnyH_take (i := 28) (v := ?_) rfl (by kernel_rfl) (by kernel_rfl) (by kernel_rfl) (fun _ _ _ h => h) (Or.inl ⟨by rfl, ?_⟩) hS1 ?_
                      rotate_left
                      · intro w hSw; (try dsimp only at hSw); go_simp; (first | done | with_reducible rfl)
                      simp only [Act.put, List.getElem_toArray, List.getElem_cons_zero, List.getElem_cons_succ, List.setIfInBounds_toArray, List.set_cons_zero, List.set_cons_succ]
                      refine wpAnyH_take (i := 29) (v := ?_) rfl (by kernel_rfl) (by kernel_rfl) (by kernel_rfl) (fun _ _ _ h => h) (Or.inl ⟨by rfl, ?_⟩) hS1 ?_
                      rotate_left
                      · intro w hSw; (try dsimp only at hSw); go_simp; (first | done | with_reducible rfl)
                      simp only [Act.put, List.getElem_toArray, List.getElem_cons_zero, List.getElem_cons_succ, List.setIfInBounds_toArray, List.set_cons_zero, List.set_cons_succ]
                      refine wpAnyH_take (i := 30) (v := ?_) rfl (by kernel_rfl) (by kernel_rfl) (by kernel_rfl) (fun _ _ _ h => h) (Or.inl ⟨by rfl, ?_⟩) hS1 ?_
                      rotate_left
                      · intro w hSw; (try dsimp only at hSw); go_simp; (first | done | with_reducible rfl)
                      simp only [Act.put, List.getElem_toArray, List.getElem_cons_zero, List.getElem_cons_succ, List.setIfInBounds_toArray, List.set_cons_zero, List.set_cons_succ]
                      refine wpAnyH_take (i := 31) (v := ?_) rfl (by kernel_rfl) (by kernel_rfl) (by kernel_rfl) (fun _ _ _ h => h) (Or.inl ⟨by rfl, ?_⟩) hS1 ?_
                      rotate_left
                      · intro w hSw; (try dsimp only at hSw); go_simp; (first | done | with_reducible rfl)
                      simp only [Act.put, List.getElem_toArray, List.getElem_cons_zero, List.getElem_cons_succ, List.setIfInBounds_toArray, List.set_cons_zero, List.set_cons_succ]
                      refine wpAnyH_take (i := 32) (v := ?_) rfl (by kernel_rfl) (by kernel_rfl) (by kernel_rfl) (fun _ _ _ h => h) (Or.inl ⟨by rfl, ?_⟩) hS1 ?_
                      rotate_left
                      · intro w hSw; (try dsimp only at hSw); go_simp; (first | done | with_reducible rfl)
                      simp only [Act.put, List.getElem_toArray, List.getElem_cons_zero, List.getElem_cons_succ, List.setIfInBounds_toArray, List.set_cons_zero, List.set_cons_succ]
                      refine wpAnyH_take (i := 33) (v := ?_) rfl (by kernel_rfl) (by kernel_rfl) (by kernel_rfl) (fun _ _ _ h => h) (Or.inl ⟨by rfl, ?_⟩) hS1 ?_
                      rotate_left
                      · intro w hSw; (try dsimp only at hSw); go_simp; (first | done | with_reducible rfl)
                      simp only [Act.put, List.getElem_toArray, List.getElem_cons_zero, List.getElem_cons_succ, List.setIfInBounds_toArray, List.set_cons_zero, List.set_cons_succ]
                      refine wpAnyH_take (i := 34) (v := ?_) rfl (by kernel_rfl) (by kernel_rfl) (by kernel_rfl) (fun _ _ _ h => h) (Or.inl ⟨by rfl, ?_⟩) hS1 ?_
                      rotate_left
                      · intro w hSw; (try dsimp only at hSw); go_simp; (first | done | with_reducible rfl)
                      simp only [Act.put, List.getElem_toArray, List.getElem_cons_zero, List.getElem_cons_succ, List.setIfInBounds_toArray, List.set_cons_zero, List.set_cons_succ]
                      refine wpAnyH_take (i := 35) (v := ?_) rfl (by kernel_rfl) (by kernel_rfl) (by kernel_rfl) (fun _ _ _ h => h) (Or.inl ⟨by rfl, ?_⟩) hS1 ?_
                      rotate_left
                      · intro w hSw; (try dsimp only at hSw); go_simp; (first | done | with_reducible rfl)
                      simp only [Act.put, List.getElem_toArray, List.getElem_cons_zero, List.getElem_cons_succ, List.setIfInBounds_toArray, List.set_cons_zero, List.set_cons_succ]
                      refine wpAnyH_done (by kernel_rfl) ?_ _
                      have HBZ := Lib.hid (go HBB.out (go (Below.refl _ _).drew hB8))
                      clear hS0 hS1 hB8 v0 v4 v6 sx
                      go_wp2_with fail
                      refine ⟨⟨i + 1, by omega, by simp, Lib.hid HBZ.out⟩, ?_⟩
                      simp only [RowKit.intOf]
                      omega
                  · have t0 : decide (0 < j.att) = false := decide_eq_false hat
                    rw [t0] at sx
                    have hp0 : j.places = [] := HPN.out.2 (.inl (by have := HJO.out.att; omega))
                    have hn0 : j.num = 0 := Decidable.byContradiction fun h => HJO.out.run h hp0
                    have u1 : j.places.length = 0 := by rw [hp0]; rfl
                    rw [u1] at v6
                    rw [hn0] at v4
                    clear hat hp0 u1 hn0 HLV
                    go_quiet (fail)
                    go_wp2_with fail
                    refine ⟨⟨i + 1, by omega, by simp, Lib.hid (bdrewN HBB.out _)⟩, ?_⟩
                    simp only [RowKit.intOf]
                    omega
                · obtain rfl : i = fl.length := by omega
                  have HAZ := Lib.hid (show AwP w1 wr cb R.1 w2.heap.size ∧ CtOk ((n + 1 : Nat) : Int) R.1 ∧ R.1.jobs.length = fl.length ∧ StAt wr w2.heap.size R.1 ∧ w2.heap.size < wr.heap.size from ⟨AwP.below HA6.out hb3, HOKR.out.1, HOKR.out.2, hst3, (Array.getElem?_eq_some_iff.1 hst3).1⟩)
                  clear hst3 hb3
                  go_wp2_with fail
                  refine ⟨⟨n + 1, _, by omega, by simp, HAZ⟩, ?_⟩
                  simp only [RowKit.intOf]
                  omega
            · have t3 : (cmd.kind == 3) = false := by simpa using hk3
              clear hbk hk3
              go_wp2_with fail
              go_loopw [10] (fun iv wr3 => ∃ i : Nat, i ≤ fl.length ∧ iv = .int .i64 (i : Int) ∧ Hid (Below w6.heap.size w6 wr3)) (fun iv _ => fl.length - (RowKit.intOf iv).toNat)
              case atStart => exact ⟨0, Nat.zero_le _, rfl, Lib.hid (Below.refl _ _)⟩
              case round =>
                obtain ⟨i, hi3, rfl, HB⟩ := hrel
                have hb3 := HB.out
                have q7 := kc hb3 HQ6.out
                have hszw := hb3.size
                have hst3 := StAt.below HS7.out hb3
                by_cases hlt3 : i < fl.length
                · have l0 : (i : Int) < (fl.length : Int) := by omega
                  obtain ⟨j, hj⟩ : ∃ j, R.1.jobs[i]? = some j := ⟨_, List.getElem?_eq_getElem (by have := HOKR.out.2; omega)⟩
                  have sx0 := hst3.cell hj
                  have HAW3 := Lib.hid (AwP.below HA6.out hb3)
                  have HJC := Lib.hid (aw_jobs (X := wr) HAW3.out.aw HOKR.out.1 hj)
                  unfold JobOut jobV at HJC
                  have hjo := HOKR.out.1.jobs j (List.mem_of_getElem? hj)
                  have HJO := Lib.hid hjo.1
                  have HPN := Lib.hid hjo.2.2
                  clear hj hjo hst3
                  go_wp2_with fail
                  (with_reducible refine HJC.out.mono ?_)
                  rintro e w7 ⟨pv, av, rfl, hB7, ho1, ho2⟩
                  obtain ⟨Bp, dp, rfl, -, -, -, -⟩ := own_form ho1
                  obtain ⟨Ba, da, rfl, -, -, -, -⟩ := own_form ho2
                  have sx7 := kc hB7 sx0
                  have rq := kc hB7 q7
                  have hsl := lt_of_cell sx7
                  have HAW7 := Lib.hid (HAW3.out.below hB7)
                  have HBB := Lib.hid (show Below w6.heap.size w6 (w7.alloc (.cells #[.int .i64 j.att, .int .i64 j.rd, .int .i64 j.kp, .int .i64 j.done, .int .i64 j.num, .int .i64 j.next, .slice Bp j.places.length dp, .slice Ba j.acked.length da] 55)) from go (go hb3 hB7) (box_below _ _))
                  clear q7 sx0 ho1 ho2 hB7 HJC hb3
                  have hkc : ∀ (q : Nat) (u : Value), (#[.int .i64 j.att, .int .i64 j.rd, .int .i64 j.kp, .int .i64 j.done, .int .i64 j.num, .int .i64 j.next, .slice Bp j.places.length dp, .slice Ba j.acked.length da] : Array Value)[q]? = some u → (w7.alloc (.cells #[.int .i64 j.att, .int .i64 j.rd, .int .i64 j.kp, .int .i64 j.done, .int .i64 j.num, .int .i64 j.next, .slice Bp j.places.length dp, .slice Ba j.acked.length da] 55)).cell? ⟨w7.heap.size, q, none⟩ = some u := fun q u hq => cell_new rfl hq
                  go_wp2_with fail
                  obtain ⟨X7, hX7⟩ : ∃ X7, w7.alloc (.cells #[.int .i64 j.att, .int .i64 j.rd, .int .i64 j.kp, .int .i64 j.done, .int .i64 j.num, .int .i64 j.next, .slice Bp j.places.length dp, .slice Ba j.acked.length da] 55) = X7 := ⟨_, rfl⟩
                  have sx : X7.cell? ⟨w2.heap.size, i, none⟩ = some (.bool (decide (0 < j.att))) := by rw [← hX7]; exact kc (box_below _ _) sx7
                  have HAX := Lib.hid (show AwP w1 X7 cb R.1 w2.heap.size from by rw [← hX7]; exact HAW7.out.below (box_below _ _))
                  rw [hX7] at HBB hkc ⊢
                  have v0 : X7.cell? ⟨w7.heap.size, 0, none⟩ = some (.int .i64 j.att) := hkc 0 _ rfl
                  have v4 : X7.cell? ⟨w7.heap.size, 4, none⟩ = some (.int .i64 j.num) := hkc 4 _ rfl
                  have v6 : X7.cell? ⟨w7.heap.size, 6, none⟩ = some (.slice Bp j.places.length dp) := hkc 6 _ rfl
                  have HLV := Lib.hid (fun (X : World) (k : Below X7.heap.size X7 X) => show Calls Tryz.prog 35 #[.pointer (some ⟨cb, 0, none⟩)] X (fun e X' => ∃ A k, e = .returned (.slice A (liveL R.1.lives).length k) ∧ Below X.heap.size X X') from (aw_live (HAX.out.aw.below k) HOKR.out.1).mono fun e X' h => let ⟨A, k, h1, _, h3⟩ := h; ⟨A, k, h1, h3⟩)
                  clear hX7 hkc sx7 rq HAW7 HAW3
                  by_cases hat : 0 < j.att
                  · have t0 : decide (0 < j.att) = true := decide_eq_true hat
                    rw [t0] at sx
                    obtain ⟨pl, hpl⟩ : ∃ pl : Nat, j.places.length = pl := ⟨_, rfl⟩
                    obtain ⟨ll, hll⟩ : ∃ ll : Nat, (liveL R.1.lives).length = ll := ⟨_, rfl⟩
                    have hpe : (0 < pl) ↔ (0 < ll) := by
                      rw [← hpl, ← hll, List.length_pos_iff, List.length_pos_iff]
                      exact not_congr (HPN.out.trans ⟨fun h => h.elim (fun h => by omega) id, .inr⟩)
                    have hpn : j.num ≠ 0 → 0 < pl := fun h => by rw [← hpl]; exact List.length_pos_iff.2 (HJO.out.run h)
                    rw [hpl] at v6
                    rw [hll] at HLV
                    obtain ⟨r, tp⟩ : ∃ r : Bool, decide (0 < pl) = r := ⟨_, rfl⟩
                    have tl : decide (0 < ll) = r := by rw [← tp, decide_eq_decide]; exact hpe.symm
                    clear hat hpl hll hpe
                    by_cases hn0 : j.num = 0
                    · rw [hn0] at v4
                      clear hn0 hpn
                      refine wp_region_any (by kernel_rfl) ?_
                      refine wpAny_of_held (S := fun X : World => X.cell? ⟨w7.heap.size, 0, none⟩ = some (.int .i64 j.att) ∧ X.cell? ⟨w7.heap.size, 4, none⟩ = some (.int .i64 0) ∧ X.cell? ⟨w7.heap.size, 6, none⟩ = some (.slice Bp pl dp) ∧ X.cell? ⟨w2.heap.size, i, none⟩ = some (.bool true)) _ _ _ _ ?_
                      have hS0 : (fun X : World => X.cell? ⟨w7.heap.size, 0, none⟩ = some (.int .i64 j.att) ∧ X.cell? ⟨w7.heap.size, 4, none⟩ = some (.int .i64 0) ∧ X.cell? ⟨w7.heap.size, 6, none⟩ = some (.slice Bp pl dp) ∧ X.cell? ⟨w2.heap.size, i, none⟩ = some (.bool true)) X7.drew := ⟨v0, v4, v6, sx⟩
                      refine wpAnyH_take (i := 0) (v := ?_) rfl (by kernel_rfl) (by kernel_rfl) (by kernel_rfl) (fun _ _ _ h => h) (Or.inl ⟨by rfl, ?_⟩) hS0 ?_
                      rotate_left
                      · intro w hSw; (try dsimp only at hSw); go_simp; (first | done | with_reducible rfl)
                      simp only [Act.put, List.getElem_toArray, List.getElem_cons_zero, List.setIfInBounds_toArray, List.set_cons_zero, List.set_cons_succ]
                      refine wpAnyH_take (i := 1) (v := ?_) rfl (by kernel_rfl) (by kernel_rfl) (by kernel_rfl) (fun _ _ _ h => h) (Or.inl ⟨by rfl, ?_⟩) hS0 ?_
                      rotate_left
                      · intro w hSw; (try dsimp only at hSw); go_simp; (first | done | with_reducible rfl)
                      simp only [Act.put, List.getElem_toArray, List.getElem_cons_zero, List.getElem_cons_succ, List.setIfInBounds_toArray, List.set_cons_zero, List.set_cons_succ]
                      refine wpAnyH_take (i := 2) (v := ?_) rfl (by kernel_rfl) (by kernel_rfl) (by kernel_rfl) (fun _ _ _ h => h) (Or.inl ⟨by rfl, ?_⟩) hS0 ?_
                      rotate_left
                      · intro w hSw; (try dsimp only at hSw); go_simp; (first | done | with_reducible rfl)
                      simp only [Act.put, List.getElem_toArray, List.getElem_cons_zero, List.getElem_cons_succ, List.setIfInBounds_toArray, List.set_cons_zero, List.set_cons_succ]
                      refine wpAnyH_take (i := 3) (v := ?_) rfl (by kernel_rfl) (by kernel_rfl) (by kernel_rfl) (fun _ _ _ h => h) (Or.inl ⟨by rfl, ?_⟩) hS0 ?_
                      rotate_left
                      · intro w hSw; (try dsimp only at hSw); go_simp; (first | done | with_reducible rfl)
                      simp only [Act.put, List.getElem_toArray, List.getElem_cons_zero, List.getElem_cons_succ, List.setIfInBounds_toArray, List.set_cons_zero, List.set_cons_succ]
                      refine wpAnyH_take (i := 4) (v := ?_) rfl (by kernel_rfl) (by kernel_rfl) (by kernel_rfl) (fun _ _ _ h => h) (Or.inl ⟨by rfl, ?_⟩) hS0 ?_
                      rotate_left
                      · intro w hSw; (try dsimp only at hSw); go_simp; (first | done | with_reducible rfl)
                      simp only [Act.put, List.getElem_toArray, List.getElem_cons_zero, List.getElem_cons_succ, List.setIfInBounds_toArray, List.set_cons_zero, List.set_cons_succ]
                      refine wpAnyH_take (i := 5) (v := ?_) rfl (by kernel_rfl) (by kernel_rfl) (by kernel_rfl) (fun _ _ _ h => h) (Or.inl ⟨by rfl, ?_⟩) hS0 ?_
                      rotate_left
                      · intro w hSw; (try dsimp only at hSw); go_simp; (first | done | with_reducible rfl)
                      simp only [Act.put, List.getElem_toArray, List.getElem_cons_zero, List.getElem_cons_succ, List.setIfInBounds_toArray, List.set_cons_zero, List.set_cons_succ]
                      refine wpAnyH_take (i := 6) (v := ?_) rfl (by kernel_rfl) (by kernel_rfl) (by kernel_rfl) (fun _ _ _ h => h) (Or.inl ⟨by rfl, ?_⟩) hS0 ?_
                      rotate_left
                      · intro w hSw; (try dsimp only at hSw); go_simp; (first | done | with_reducible rfl)
                      simp only [Act.put, List.getElem_toArray, List.getElem_cons_zero, List.getElem_cons_succ, List.setIfInBounds_toArray, List.set_cons_zero, List.set_cons_succ]
                      refine wpAnyH_take (i := 7) (v := ?_) rfl (by kernel_rfl) (by kernel_rfl) (by kernel_rfl) (fun _ _ _ h => h) (Or.inl ⟨by rfl, ?_⟩) hS0 ?_
                      rotate_left
                      · intro w hSw; (try dsimp only at hSw); go_simp; (first | done | with_reducible rfl)
                      simp only [Act.put, List.getElem_toArray, List.getElem_cons_zero, List.getElem_cons_succ, List.setIfInBounds_toArray, List.set_cons_zero, List.set_cons_succ]
                      refine wpAnyH_take (i := 8) (v := ?_) rfl (by kernel_rfl) (by kernel_rfl) (by kernel_rfl) (fun _ _ _ h => h) (Or.inl ⟨by rfl, ?_⟩) hS0 ?_
                      rotate_left
                      · intro w hSw; (try dsimp only at hSw); go_simp; (first | done | with_reducible rfl)
                      simp only [Act.put, List.getElem_toArray, List.getElem_cons_zero, List.getElem_cons_succ, List.setIfInBounds_toArray, List.set_cons_zero, List.set_cons_succ]
                      refine wpAnyH_take (i := 9) (v := ?_) rfl (by kernel_rfl) (by kernel_rfl) (by kernel_rfl) (fun _ _ _ h => h) (Or.inl ⟨by rfl, ?_⟩) hS0 ?_
                      rotate_left
                      · intro w hSw; (try dsimp only at hSw); go_simp; (first | done | with_reducible rfl)
                      simp only [Act.put, List.getElem_toArray, List.getElem_cons_zero, List.getElem_cons_succ, List.setIfInBounds_toArray, List.set_cons_zero, List.set_cons_succ]
                      refine wpAnyH_take (i := 10) (v := ?_) rfl (by kernel_rfl) (by kernel_rfl) (by kernel_rfl) (fun _ _ _ h => h) (Or.inl ⟨by rfl, ?_⟩) hS0 ?_
                      rotate_left
                      · intro w hSw; (try dsimp only at hSw); go_simp; (first | done | with_reducible rfl)
                      simp only [Act.put, List.getElem_toArray, List.getElem_cons_zero, List.getElem_cons_succ, List.setIfInBounds_toArray, List.set_cons_zero, List.set_cons_succ]
                      refine wpAnyH_take (i := 11) (v := ?_) rfl (by kernel_rfl) (by kernel_rfl) (by kernel_rfl) (fun _ _ _ h => h) (Or.inl ⟨by rfl, ?_⟩) hS0 ?_
                      rotate_left
                      · intro w hSw; (try dsimp only at hSw); go_simp; (first | done | with_reducible rfl)
                      simp only [Act.put, List.getElem_toArray, List.getElem_cons_zero, List.getElem_cons_succ, List.setIfInBounds_toArray, List.set_cons_zero, List.set_cons_succ]
                      refine wpAnyH_take (i := 12) (v := ?_) rfl (by kernel_rfl) (by kernel_rfl) (by kernel_rfl) (fun _ _ _ h => h) (Or.inl ⟨by rfl, ?_⟩) hS0 ?_
                      rotate_left
                      · intro w hSw; (try dsimp only at hSw); go_simp; (first | done | with_reducible rfl)
                      simp only [Act.put, List.getElem_toArray, List.getElem_cons_zero, List.getElem_cons_succ, List.setIfInBounds_toArray, List.set_cons_zero, List.set_cons_succ]
                      refine wpAnyH_take (i := 13) (v := ?_) rfl (by kernel_rfl) (by kernel_rfl) (by kernel_rfl) (fun _ _ _ h => h) (Or.inl ⟨by rfl, ?_⟩) hS0 ?_
                      rotate_left
                      · intro w hSw; (try dsimp only at hSw); go_simp; (first | done | with_reducible rfl)
                      simp only [Act.put, List.getElem_toArray, List.getElem_cons_zero, List.getElem_cons_succ, List.setIfInBounds_toArray, List.set_cons_zero, List.set_cons_succ]
                      refine wpAnyH_take (i := 14) (v := ?_) rfl (by kernel_rfl) (by kernel_rfl) (by kernel_rfl) (fun _ _ _ h => h) (Or.inl ⟨by rfl, ?_⟩) hS0 ?_
                      rotate_left
                      · intro w hSw; (try dsimp only at hSw); go_simp; (first | done | with_reducible rfl)
                      simp only [Act.put, List.getElem_toArray, List.getElem_cons_zero, List.getElem_cons_succ, List.setIfInBounds_toArray, List.set_cons_zero, List.set_cons_succ]
                      refine wpAnyH_take (i := 15) (v := ?_) rfl (by kernel_rfl) (by kernel_rfl) (by kernel_rfl) (fun _ _ _ h => h) (Or.inl ⟨by rfl, ?_⟩) hS0 ?_
                      rotate_left
                      · intro w hSw; (try dsimp only at hSw); go_simp; (first | done | with_reducible rfl)
                      simp only [Act.put, List.getElem_toArray, List.getElem_cons_zero, List.getElem_cons_succ, List.setIfInBounds_toArray, List.set_cons_zero, List.set_cons_succ]
                      refine wpAnyH_take (i := 16) (v := ?_) rfl (by kernel_rfl) (by kernel_rfl) (by kernel_rfl) (fun _ _ _ h => h) (Or.inl ⟨by rfl, ?_⟩) hS0 ?_
                      rotate_left
                      · intro w hSw; (try dsimp only at hSw); go_simp; (first | done | with_reducible rfl)
                      simp only [Act.put, List.getElem_toArray, List.getElem_cons_zero, List.getElem_cons_succ, List.setIfInBounds_toArray, List.set_cons_zero, List.set_cons_succ]
                      refine wpAnyH_take (i := 17) (v := ?_) rfl (by kernel_rfl) (by kernel_rfl) (by kernel_rfl) (fun _ _ _ h => h) (Or.inl ⟨by rfl, ?_⟩) hS0 ?_
                      rotate_left
                      · intro w hSw; (try dsimp only at hSw); go_simp; (first | done | with_reducible rfl)
                      simp only [Act.put, List.getElem_toArray, List.getElem_cons_zero, List.getElem_cons_succ, List.setIfInBounds_toArray, List.set_cons_zero, List.set_cons_succ]
                      refine wpAnyH_take (i := 18) (v := ?_) rfl (by kernel_rfl) (by kernel_rfl) (by kernel_rfl) (fun _ _ _ h => h) (Or.inl ⟨by rfl, ?_⟩) hS0 ?_
                      rotate_left
                      · intro w hSw; (try dsimp only at hSw); go_simp; (first | done | with_reducible rfl)
                      simp only [Act.put, List.getElem_toArray, List.getElem_cons_zero, List.getElem_cons_succ, List.setIfInBounds_toArray, List.set_cons_zero, List.set_cons_succ]
                      refine wpAnyH_ready (rs := [19]) (by kernel_rfl) (by simp) ?_
                      refine AllReadyH.cons rfl (fun K hK => ?_) AllReadyH.nil
                      go_simp
                      (with_reducible refine (HLV.out _ (Below.refl _ _).drew).mono ?_)
                      rintro e w8 ⟨LA, lk, rfl, hB8⟩
                      refine hK.out _ _ ⟨kc hB8 hS0.1, kc hB8 hS0.2.1, kc hB8 hS0.2.2.1, kc hB8 hS0.2.2.2⟩ (fun hS1 => ?_)
                      clear hK K
                      try simp only [Act.put, List.setIfInBounds_toArray, List.set_cons_zero, List.set_cons_succ]
                      refine wpAnyH_take (i := 20) (v := ?_) rfl (by kernel_rfl) (by kernel_rfl) (by kernel_rfl) (fun _ _ _ h => h) (Or.inl ⟨by rfl, ?_⟩) hS1 ?_
                      rotate_left
                      · intro w hSw; (try dsimp only at hSw); go_simp; (first | done | with_reducible rfl)
                      simp only [Act.put, List.getElem_toArray, List.getElem_cons_zero, List.getElem_cons_succ, List.setIfInBounds_toArray, List.set_cons_zero, List.set_cons_succ]
                      refine wpAnyH_take (i := 21) (v := ?_) rfl (by kernel_rfl) (by kernel_rfl) (by kernel_rfl) (fun _ _ _ h => h) (Or.inl ⟨by rfl, ?_⟩) hS1 ?_
                      rotate_left
                      · intro w hSw; (try dsimp only at hSw); go_simp; (first | done | with_reducible rfl)
                      simp only [Act.put, List.getElem_toArray, List.getElem_cons_zero, List.getElem_cons_succ, List.setIfInBounds_toArray, List.set_cons_zero, List.set_cons_succ]
                      refine wpAnyH_take (i := 22) (v := ?_) rfl (by kernel_rfl) (by kernel_rfl) (by kernel_rfl) (fun _ _ _ h => h) (Or.inl ⟨by rfl, ?_⟩) hS1 ?_
                      rotate_left
                      · intro w hSw; (try dsimp only at hSw); go_simp; (first | done | with_reducible rfl)
                      simp only [Act.put, List.getElem_toArray, List.getElem_cons_zero, List.getElem_cons_succ, List.setIfInBounds_toArray, List.set_cons_zero, List.set_cons_succ]
                      refine wpAnyH_take (i := 23) (v := ?_) rfl (by kernel_rfl) (by kernel_rfl) (by kernel_rfl) (fun _ _ _ h => h) (Or.inl ⟨by rfl, ?_⟩) hS1 ?_
                      rotate_left
                      · intro w hSw; (try dsimp only at hSw); go_simp; (first | done | with_reducible rfl)
                      simp only [Act.put, List.getElem_toArray, List.getElem_cons_zero, List.getElem_cons_succ, List.setIfInBounds_toArray, List.set_cons_zero, List.set_cons_succ]
                      try simp only [bne_self_eq_false, beq_self_eq_true, Bool.not_true, Bool.xor_self, bne]
                      refine wpAnyH_take (i := 24) (v := ?_) rfl (by kernel_rfl) (by kernel_rfl) (by kernel_rfl) (fun _ _ _ h => h) (Or.inl ⟨by rfl, ?_⟩) hS1 ?_
                      rotate_left
                      · intro w hSw; (try dsimp only at hSw); go_simp; (first | done | with_reducible rfl)
                      simp only [Act.put, List.getElem_toArray, List.getElem_cons_zero, List.getElem_cons_succ, List.setIfInBounds_toArray, List.set_cons_zero, List.set_cons_succ]
                      refine wpAnyH_take (i := 25) (v := ?_) rfl (by kernel_rfl) (by kernel_rfl) (by kernel_rfl) (fun _ _ _ h => h) (Or.inl ⟨by rfl, ?_⟩) hS1 ?_
                      rotate_left
                      · intro w hSw; (try dsimp only at hSw); go_simp; (first | done | with_reducible rfl)
                      simp only [Act.put, List.getElem_toArray, List.getElem_cons_zero, List.getElem_cons_succ, List.setIfInBounds_toArray, List.set_cons_zero, List.set_cons_succ]
                      refine wpAnyH_take (i := 26) (v := ?_) rfl (by kernel_rfl) (by kernel_rfl) (by kernel_rfl) (fun _ _ _ h => h) (Or.inl ⟨by rfl, ?_⟩) hS1 ?_
                      rotate_left
                      · intro w hSw; (try dsimp only at hSw); go_simp; (first | done | with_reducible rfl)
                      simp only [Act.put, List.getElem_toArray, List.getElem_cons_zero, List.getElem_cons_succ, List.setIfInBounds_toArray, List.set_cons_zero, List.set_cons_succ]
                      refine wpAnyH_take (i := 27) (v := ?_) rfl (by kernel_rfl) (by kernel_rfl) (by kernel_rfl) (fun _ _ _ h => h) (Or.inl ⟨by rfl, ?_⟩) hS1 ?_
                      rotate_left
                      · intro w hSw; (try dsimp only at hSw); go_simp; (first | done | with_reducible rfl)
                      simp only [Act.put, List.getElem_toArray, List.getElem_cons_zero, List.getElem_cons_succ, List.setIfInBounds_toArray, List.set_cons_zero, List.set_cons_succ]
                      refine wpAnyH_take (i := 28) (v := ?_) rfl (by kernel_rfl) (by kernel_rfl) (by kernel_rfl) (fun _ _ _ h => h) (Or.inl ⟨by rfl, ?_⟩) hS1 ?_
                      rotate_left
                      · intro w hSw; (try dsimp only at hSw); go_simp; (first | done | with_reducible rfl)
                      simp only [Act.put, List.getElem_toArray, List.getElem_cons_zero, List.getElem_cons_succ, List.setIfInBounds_toArray, List.set_cons_zero, List.set_cons_succ]
                      refine wpAnyH_take (i := 29) (v := ?_) rfl (by kernel_rfl) (by kernel_rfl) (by kernel_rfl) (fun _ _ _ h => h) (Or.inl ⟨by rfl, ?_⟩) hS1 ?_
                      rotate_left
                      · intro w hSw; (try dsimp only at hSw); go_simp; (first | done | with_reducible rfl)
                      simp only [Act.put, List.getElem_toArray, List.getElem_cons_zero, List.getElem_cons_succ, List.setIfInBounds_toArray, List.set_cons_zero, List.set_cons_succ]
                      refine wpAnyH_take (i := 30) (v := undef) rfl (by kernel_rfl) (by kernel_rfl) (by kernel_rfl) (fun _ _ _ h => h) (Or.inr ⟨by rfl, rfl⟩) hS1 ?_
                      simp only [Act.put, List.setIfInBounds_toArray]
                      refine wpAnyH_take (i := 31) (v := undef) rfl (by kernel_rfl) (by kernel_rfl) (by kernel_rfl) (fun _ _ _ h => h) (Or.inr ⟨by rfl, rfl⟩) hS1 ?_
                      simp only [Act.put]
                      refine wpAnyH_take (i := 32) (v := undef) rfl (by kernel_rfl) (by kernel_rfl) (by kernel_rfl) (fun _ _ _ h => h) (Or.inr ⟨by rfl, rfl⟩) hS1 ?_
                      simp only [Act.put]
                      refine wpAnyH_take (i := 33) (v := undef) rfl (by kernel_rfl) (by kernel_rfl) (by kernel_rfl) (fun _ _ _ h => h) (Or.inr ⟨by rfl, rfl⟩) hS1 ?_
                      simp only [Act.put]
                      refine wpAnyH_take (i := 34) (v := ?_) rfl (by kernel_rfl) (by kernel_rfl) (by kernel_rfl) (fun _ _ _ h => h) (Or.inl ⟨by rfl, ?_⟩) hS1 ?_
                      rotate_left
                      · intro w hSw; (try dsimp only at hSw); go_simp; (first | done | with_reducible rfl)
                      simp only [Act.put, List.getElem_toArray, List.getElem_cons_zero, List.getElem_cons_succ, List.setIfInBounds_toArray, List.set_cons_zero, List.set_cons_succ]
                      refine wpAnyH_take (i := 35) (v := ?_) rfl (by kernel_rfl) (by kernel_rfl) (by kernel_rfl) (fun _ _ _ h => h) (Or.inl ⟨by rfl, ?_⟩) hS1 ?_
                      rotate_left
                      · intro w hSw; (try dsimp only at hSw); go_simp; (first | done | with_reducible rfl)
                      simp only [Act.put, List.getElem_toArray, List.getElem_cons_zero, List.getElem_cons_succ, List.setIfInBounds_toArray, List.set_cons_zero, List.set_cons_succ]
                      refine wpAnyH_done (by kernel_rfl) ?_ _
                      have HBZ := Lib.hid (go HBB.out (go (Below.refl _ _).drew hB8))
                      clear hS0 hS1 hB8 v0 v4 v6 sx
                      go_wp2_with fail
                      refine ⟨⟨i + 1, by omega, by simp, Lib.hid HBZ.out⟩, ?_⟩
                      simp only [RowKit.intOf]
                      omega
                    · have tn : (j.num == 0) = false := by simpa using hn0
                      have tn2 : (j.num != 0) = true := by simpa using hn0
                      have te : ((pl : Int) == 0) = false := by rw [beq_eq_false_iff_ne]; have := hpn hn0; omega
                      have te2 : (pl == 0) = false := by rw [beq_eq_false_iff_ne]; have := hpn hn0; omega
                      have te3 : decide (pl = 0) = false := decide_eq_false (by have := hpn hn0; omega)
                      obtain rfl : r = true := by rw [← tp]; exact decide_eq_true (hpn hn0)
                      clear hn0 hpn
                      refine wp_region_any (by kernel_rfl) ?_
                      refine wpAny_of_held (S := fun X : World => X.cell? ⟨w7.heap.size, 0, none⟩ = some (.int .i64 j.att) ∧ X.cell? ⟨w7.heap.size, 4, none⟩ = some (.int .i64 j.num) ∧ X.cell? ⟨w7.heap.size, 6, none⟩ = some (.slice Bp pl dp) ∧ X.cell? ⟨w2.heap.size, i, none⟩ = some (.bool true)) _ _ _ _ ?_
                      have hS0 : (fun X : World => X.cell? ⟨w7.heap.size, 0, none⟩ = some (.int .i64 j.att) ∧ X.cell? ⟨w7.heap.size, 4, none⟩ = some (.int .i64 j.num) ∧ X.cell? ⟨w7.heap.size, 6, none⟩ = some (.slice Bp pl dp) ∧ X.cell? ⟨w2.heap.size, i, none⟩ = some (.bool true)) X7.drew := ⟨v0, v4, v6, sx⟩
                      refine wpAnyH_take (i := 0) (v := ?_) rfl (by kernel_rfl) (by kernel_rfl) (by kernel_rfl) (fun _ _ _ h => h) (Or.inl ⟨by rfl, ?_⟩) hS0 ?_
                      rotate_left
                      · intro w hSw; (try dsimp only at hSw); go_simp; (first | done | with_reducible rfl)
                      simp only [Act.put, List.getElem_toArray, List.getElem_cons_zero, List.setIfInBounds_toArray, List.set_cons_zero, List.set_cons_succ]
                      refine wpAnyH_take (i := 1) (v := ?_) rfl (by kernel_rfl) (by kernel_rfl) (by kernel_rfl) (fun _ _ _ h => h) (Or.inl ⟨by rfl, ?_⟩) hS0 ?_
                      rotate_left
                      · intro w hSw; (try dsimp only at hSw); go_simp; (first | done | with_reducible rfl)
                      simp only [Act.put, List.getElem_toArray, List.getElem_cons_zero, List.getElem_cons_succ, List.setIfInBounds_toArray, List.set_cons_zero, List.set_cons_succ]
                      refine wpAnyH_take (i := 2) (v := ?_) rfl (by kernel_rfl) (by kernel_rfl) (by kernel_rfl) (fun _ _ _ h => h) (Or.inl ⟨by rfl, ?_⟩) hS0 ?_
                      rotate_left
                      · intro w hSw; (try dsimp only at hSw); go_simp; (first | done | with_reducible rfl)
                      simp only [Act.put, List.getElem_toArray, List.getElem_cons_zero, List.getElem_cons_succ, List.setIfInBounds_toArray, List.set_cons_zero, List.set_cons_succ]
                      refine wpAnyH_take (i := 3) (v := ?_) rfl (by kernel_rfl) (by kernel_rfl) (by kernel_rfl) (fun _ _ _ h => h) (Or.inl ⟨by rfl, ?_⟩) hS0 ?_
                      rotate_left
                      · intro w hSw; (try dsimp only at hSw); go_simp; (first | done | with_reducible rfl)
                      simp only [Act.put, List.getElem_toArray, List.getElem_cons_zero, List.getElem_cons_succ, List.setIfInBounds_toArray, List.set_cons_zero, List.set_cons_succ]
                      refine wpAnyH_take (i := 4) (v := ?_) rfl (by kernel_rfl) (by kernel_rfl) (by kernel_rfl) (fun _ _ _ h => h) (Or.inl ⟨by rfl, ?_⟩) hS0 ?_
                      rotate_left
                      · intro w hSw; (try dsimp only at hSw); go_simp; (first | done | with_reducible rfl)
                      simp only [Act.put, List.getElem_toArray, List.getElem_cons_zero, List.getElem_cons_succ, List.setIfInBounds_toArray, List.set_cons_zero, List.set_cons_succ]
                      refine wpAnyH_take (i := 5) (v := ?_) rfl (by kernel_rfl) (by kernel_rfl) (by kernel_rfl) (fun _ _ _ h => h) (Or.inl ⟨by rfl, ?_⟩) hS0 ?_
                      rotate_left
                      · intro w hSw; (try dsimp only at hSw); go_simp; (first | done | with_reducible rfl)
                      simp only [Act.put, List.getElem_toArray, List.getElem_cons_zero, List.getElem_cons_succ, List.setIfInBounds_toArray, List.set_cons_zero, List.set_cons_succ]
                      refine wpAnyH_take (i := 6) (v := ?_) rfl (by kernel_rfl) (by kernel_rfl) (by kernel_rfl) (fun _ _ _ h => h) (Or.inl ⟨by rfl, ?_⟩) hS0 ?_
                      rotate_left
                      · intro w hSw; (try dsimp only at hSw); go_simp; (first | done | with_reducible rfl)
                      simp only [Act.put, List.getElem_toArray, List.getElem_cons_zero, List.getElem_cons_succ, List.setIfInBounds_toArray, List.set_cons_zero, List.set_cons_succ]
                      refine wpAnyH_take (i := 7) (v := ?_) rfl (by kernel_rfl) (by kernel_rfl) (by kernel_rfl) (fun _ _ _ h => h) (Or.inl ⟨by rfl, ?_⟩) hS0 ?_
                      rotate_left
                      · intro w hSw; (try dsimp only at hSw); go_simp; (first | done | with_reducible rfl)
                      simp only [Act.put, List.getElem_toArray, List.getElem_cons_zero, List.getElem_cons_succ, List.setIfInBounds_toArray, List.set_cons_zero, List.set_cons_succ]
                      refine wpAnyH_take (i := 8) (v := ?_) rfl (by kernel_rfl) (by kernel_rfl) (by kernel_rfl) (fun _ _ _ h => h) (Or.inl ⟨by rfl, ?_⟩) hS0 ?_
                      rotate_left
                      · intro w hSw; (try dsimp only at hSw); go_simp; (first | done | with_reducible rfl)
                      simp only [Act.put, List.getElem_toArray, List.getElem_cons_zero, List.getElem_cons_succ, List.setIfInBounds_toArray, List.set_cons_zero, List.set_cons_succ]
                      refine wpAnyH_take (i := 9) (v := ?_) rfl (by kernel_rfl) (by kernel_rfl) (by kernel_rfl) (fun _ _ _ h => h) (Or.inl ⟨by rfl, ?_⟩) hS0 ?_
                      rotate_left
                      · intro w hSw; (try dsimp only at hSw); go_simp; (first | done | with_reducible rfl)
                      simp only [Act.put, List.getElem_toArray, List.getElem_cons_zero, List.getElem_cons_succ, List.setIfInBounds_toArray, List.set_cons_zero, List.set_cons_succ]
                      refine wpAnyH_take (i := 10) (v := ?_) rfl (by kernel_rfl) (by kernel_rfl) (by kernel_rfl) (fun _ _ _ h => h) (Or.inl ⟨by rfl, ?_⟩) hS0 ?_
                      rotate_left
                      · intro w hSw; (try dsimp only at hSw); go_simp; (first | done | with_reducible rfl)
                      simp only [Act.put, List.getElem_toArray, List.getElem_cons_zero, List.getElem_cons_succ, List.setIfInBounds_toArray, List.set_cons_zero, List.set_cons_succ]
                      refine wpAnyH_take (i := 11) (v := ?_) rfl (by kernel_rfl) (by kernel_rfl) (by kernel_rfl) (fun _ _ _ h => h) (Or.inl ⟨by rfl, ?_⟩) hS0 ?_
                      rotate_left
                      · intro w hSw; (try dsimp only at hSw); go_simp; (first | done | with_reducible rfl)
                      simp only [Act.put, List.getElem_toArray, List.getElem_cons_zero, List.getElem_cons_succ, List.setIfInBounds_toArray, List.set_cons_zero, List.set_cons_succ]
                      refine wpAnyH_take (i := 12) (v := ?_) rfl (by kernel_rfl) (by kernel_rfl) (by kernel_rfl) (fun _ _ _ h => h) (Or.inl ⟨by rfl, ?_⟩) hS0 ?_
                      rotate_left
                      · intro w hSw; (try dsimp only at hSw); go_simp; (first | done | with_reducible rfl)
                      simp only [Act.put, List.getElem_toArray, List.getElem_cons_zero, List.getElem_cons_succ, List.setIfInBounds_toArray, List.set_cons_zero, List.set_cons_succ]
                      refine wpAnyH_take (i := 13) (v := ?_) rfl (by kernel_rfl) (by kernel_rfl) (by kernel_rfl) (fun _ _ _ h => h) (Or.inl ⟨by rfl, ?_⟩) hS0 ?_
                      rotate_left
                      · intro w hSw; (try dsimp only at hSw); go_simp; (first | done | with_reducible rfl)
                      simp only [Act.put, List.getElem_toArray, List.getElem_cons_zero, List.getElem_cons_succ, List.setIfInBounds_toArray, List.set_cons_zero, List.set_cons_succ]
                      refine wpAnyH_take (i := 14) (v := ?_) rfl (by kernel_rfl) (by kernel_rfl) (by kernel_rfl) (fun _ _ _ h => h) (Or.inl ⟨by rfl, ?_⟩) hS0 ?_
                      rotate_left
                      · intro w hSw; (try dsimp only at hSw); go_simp; (first | done | with_reducible rfl)
                      simp only [Act.put, List.getElem_toArray, List.getElem_cons_zero, List.getElem_cons_succ, List.setIfInBounds_toArray, List.set_cons_zero, List.set_cons_succ]
                      refine wpAnyH_take (i := 15) (v := ?_) rfl (by kernel_rfl) (by kernel_rfl) (by kernel_rfl) (fun _ _ _ h => h) (Or.inl ⟨by rfl, ?_⟩) hS0 ?_
                      rotate_left
                      · intro w hSw; (try dsimp only at hSw); go_simp; (first | done | with_reducible rfl)
                      simp only [Act.put, List.getElem_toArray, List.getElem_cons_zero, List.getElem_cons_succ, List.setIfInBounds_toArray, List.set_cons_zero, List.set_cons_succ]
                      refine wpAnyH_take (i := 16) (v := ?_) rfl (by kernel_rfl) (by kernel_rfl) (by kernel_rfl) (fun _ _ _ h => h) (Or.inl ⟨by rfl, ?_⟩) hS0 ?_
                      rotate_left
                      · intro w hSw; (try dsimp only at hSw); go_simp; (first | done | with_reducible rfl)
                      simp only [Act.put, List.getElem_toArray, List.getElem_cons_zero, List.getElem_cons_succ, List.setIfInBounds_toArray, List.set_cons_zero, List.set_cons_succ]
                      refine wpAnyH_take (i := 17) (v := ?_) rfl (by kernel_rfl) (by kernel_rfl) (by kernel_rfl) (fun _ _ _ h => h) (Or.inl ⟨by rfl, ?_⟩) hS0 ?_
                      rotate_left
                      · intro w hSw; (try dsimp only at hSw); go_simp; (first | done | with_reducible rfl)
                      simp only [Act.put, List.getElem_toArray, List.getElem_cons_zero, List.getElem_cons_succ, List.setIfInBounds_toArray, List.set_cons_zero, List.set_cons_succ]
                      refine wpAnyH_take (i := 18) (v := ?_) rfl (by kernel_rfl) (by kernel_rfl) (by kernel_rfl) (fun _ _ _ h => h) (Or.inl ⟨by rfl, ?_⟩) hS0 ?_
                      rotate_left
                      · intro w hSw; (try dsimp only at hSw); go_simp; (first | done | with_reducible rfl)
                      simp only [Act.put, List.getElem_toArray, List.getElem_cons_zero, List.getElem_cons_succ, List.setIfInBounds_toArray, List.set_cons_zero, List.set_cons_succ]
                      refine wpAnyH_ready (rs := [19]) (by kernel_rfl) (by simp) ?_
                      refine AllReadyH.cons rfl (fun K hK => ?_) AllReadyH.nil
                      go_simp
                      (with_reducible refine (HLV.out _ (Below.refl _ _).drew).mono ?_)
                      rintro e w8 ⟨LA, lk, rfl, hB8⟩
                      refine hK.out _ _ ⟨kc hB8 hS0.1, kc hB8 hS0.2.1, kc hB8 hS0.2.2.1, kc hB8 hS0.2.2.2⟩ (fun hS1 => ?_)
                      clear hK K
                      try simp only [Act.put, List.setIfInBounds_toArray, List.set_cons_zero, List.set_cons_succ]
                      refine wpAnyH_take (i := 20) (v := ?_) rfl (by kernel_rfl) (by kernel_rfl) (by kernel_rfl) (fun _ _ _ h => h) (Or.inl ⟨by rfl, ?_⟩) hS1 ?_
                      rotate_left
                      · intro w hSw; (try dsimp only at hSw); go_simp; (first | done | with_reducible rfl)
                      simp only [Act.put, List.getElem_toArray, List.getElem_cons_zero, List.getElem_cons_succ, List.setIfInBounds_toArray, List.set_cons_zero, List.set_cons_succ]
                      refine wpAnyH_take (i := 21) (v := ?_) rfl (by kernel_rfl) (by kernel_rfl) (by kernel_rfl) (fun _ _ _ h => h) (Or.inl ⟨by rfl, ?_⟩) hS1 ?_
                      rotate_left
                      · intro w hSw; (try dsimp only at hSw); go_simp; (first | done | with_reducible rfl)
                      simp only [Act.put, List.getElem_toArray, List.getElem_cons_zero, List.getElem_cons_succ, List.setIfInBounds_toArray, List.set_cons_zero, List.set_cons_succ]
                      refine wpAnyH_take (i := 22) (v := ?_) rfl (by kernel_rfl) (by kernel_rfl) (by kernel_rfl) (fun _ _ _ h => h) (Or.inl ⟨by rfl, ?_⟩) hS1 ?_
                      rotate_left
                      · intro w hSw; (try dsimp only at hSw); go_simp; (first | done | with_reducible rfl)
                      simp only [Act.put, List.getElem_toArray, List.getElem_cons_zero, List.getElem_cons_succ, List.setIfInBounds_toArray, List.set_cons_zero, List.set_cons_succ]
                      refine wpAnyH_take (i := 23) (v := ?_) rfl (by kernel_rfl) (by kernel_rfl) (by kernel_rfl) (fun _ _ _ h => h) (Or.inl ⟨by rfl, ?_⟩) hS1 ?_
                      rotate_left
                      · intro w hSw; (try dsimp only at hSw); go_simp; (first | done | with_reducible rfl)
                      simp only [Act.put, List.getElem_toArray, List.getElem_cons_zero, List.getElem_cons_succ, List.setIfInBounds_toArray, List.set_cons_zero, List.set_cons_succ]
                      try simp only [bne_self_eq_false, beq_self_eq_true, Bool.not_true, Bool.xor_self, bne]
                      refine wpAnyH_take (i := 24) (v := ?_) rfl (by kernel_rfl) (by kernel_rfl) (by kernel_rfl) (fun _ _ _ h => h) (Or.inl ⟨by rfl, ?_⟩) hS1 ?_
                      rotate_left
                      · intro w hSw; (try dsimp only at hSw); go_simp; (first | done | with_reducible rfl)
                      simp only [Act.put, List.getElem_toArray, List.getElem_cons_zero, List.getElem_cons_succ, List.setIfInBounds_toArray, List.set_cons_zero, List.set_cons_succ]
                      refine wpAnyH_take (i := 25) (v := ?_) rfl (by kernel_rfl) (by kernel_rfl) (by kernel_rfl) (fun _ _ _ h => h) (Or.inl ⟨by rfl, ?_⟩) hS1 ?_
                      rotate_left
                      · intro w hSw; (try dsimp only at hSw); go_simp; (first | done | with_reducible rfl)
                      simp only [Act.put, List.getElem_toArray, List.getElem_cons_zero, List.getElem_cons_succ, List.setIfInBounds_toArray, List.set_cons_zero, List.set_cons_succ]
                      refine wpAnyH_take (i := 26) (v := ?_) rfl (by kernel_rfl) (by kernel_rfl) (by kernel_rfl) (fun _ _ _ h => h) (Or.inl ⟨by rfl, ?_⟩) hS1 ?_
                      rotate_left
                      · intro w hSw; (try dsimp only at hSw); go_simp; (first | done | with_reducible rfl)
                      simp only [Act.put, List.getElem_toArray, List.getElem_cons_zero, List.getElem_cons_succ, List.setIfInBounds_toArray, List.set_cons_zero, List.set_cons_succ]
                      refine wpAnyH_take (i := 27) (v := ?_) rfl (by kernel_rfl) (by kernel_rfl) (by kernel_rfl) (fun _ _ _ h => h) (Or.inl ⟨by rfl, ?_⟩) hS1 ?_
                      rotate_left
                      · intro w hSw; (try dsimp only at hSw); go_simp; (first | done | with_reducible rfl)
                      simp only [Act.put, List.getElem_toArray, List.getElem_cons_zero, List.getElem_cons_succ, List.setIfInBounds_toArray, List.set_cons_zero, List.set_cons_succ]
                      refine wpAnyH_take (i := 28) (v := ?_) rfl (by kernel_rfl) (by kernel_rfl) (by kernel_rfl) (fun _ _ _ h => h) (Or.inl ⟨by rfl, ?_⟩) hS1 ?_
                      rotate_left
                      · intro w hSw; (try dsimp only at hSw); go_simp; (first | done | with_reducible rfl)
                      simp only [Act.put, List.getElem_toArray, List.getElem_cons_zero, List.getElem_cons_succ, List.setIfInBounds_toArray, List.set_cons_zero, List.set_cons_succ]
                      refine wpAnyH_take (i := 29) (v := ?_) rfl (by kernel_rfl) (by kernel_rfl) (by kernel_rfl) (fun _ _ _ h => h) (Or.inl ⟨by rfl, ?_⟩) hS1 ?_
                      rotate_left
                      · intro w hSw; (try dsimp only at hSw); go_simp; (first | done | with_reducible rfl)
                      simp only [Act.put, List.getElem_toArray, List.getElem_cons_zero, List.getElem_cons_succ, List.setIfInBounds_toArray, List.set_cons_zero, List.set_cons_succ]
                      refine wpAnyH_take (i := 30) (v := ?_) rfl (by kernel_rfl) (by kernel_rfl) (by kernel_rfl) (fun _ _ _ h => h) (Or.inl ⟨by rfl, ?_⟩) hS1 ?_
                      rotate_left
                      · intro w hSw; (try dsimp only at hSw); go_simp; (first | done | with_reducible rfl)
                      simp only [Act.put, List.getElem_toArray, List.getElem_cons_zero, List.getElem_cons_succ, List.setIfInBounds_toArray, List.set_cons_zero, List.set_cons_succ]
                      refine wpAnyH_take (i := 31) (v := ?_) rfl (by kernel_rfl) (by kernel_rfl) (by kernel_rfl) (fun _ _ _ h => h) (Or.inl ⟨by rfl, ?_⟩) hS1 ?_
                      rotate_left
                      · intro w hSw; (try dsimp only at hSw); go_simp; (first | done | with_reducible rfl)
                      simp only [Act.put, List.getElem_toArray, List.getElem_cons_zero, List.getElem_cons_succ, List.setIfInBounds_toArray, List.set_cons_zero, List.set_cons_succ]
                      refine wpAnyH_take (i := 32) (v := ?_) rfl (by kernel_rfl) (by kernel_rfl) (by kernel_rfl) (fun _ _ _ h => h) (Or.inl ⟨by rfl, ?_⟩) hS1 ?_
                      rotate_left
                      · intro w hSw; (try dsimp only at hSw); go_simp; (first | done | with_reducible rfl)
                      simp only [Act.put, List.getElem_toArray, List.getElem_cons_zero, List.getElem_cons_succ, List.setIfInBounds_toArray, List.set_cons_zero, List.set_cons_succ]
                      refine wpAnyH_take (i := 33) (v := ?_) rfl (by kernel_rfl) (by kernel_rfl) (by kernel_rfl) (fun _ _ _ h => h) (Or.inl ⟨by rfl, ?_⟩) hS1 ?_
                      rotate_left
                      · intro w hSw; (try dsimp only at hSw); go_simp; (first | done | with_reducible rfl)
                      simp only [Act.put, List.getElem_toArray, List.getElem_cons_zero, List.getElem_cons_succ, List.setIfInBounds_toArray, List.set_cons_zero, List.set_cons_succ]
                      refine wpAnyH_take (i := 34) (v := ?_) rfl (by kernel_rfl) (by kernel_rfl) (by kernel_rfl) (fun _ _ _ h => h) (Or.inl ⟨by rfl, ?_⟩) hS1 ?_
                      rotate_left
                      · intro w hSw; (try dsimp only at hSw); go_simp; (first | done | with_reducible rfl)
                      simp only [Act.put, List.getElem_toArray, List.getElem_cons_zero, List.getElem_cons_succ, List.setIfInBounds_toArray, List.set_cons_zero, List.set_cons_succ]
                      refine wpAnyH_take (i := 35) (v := ?_) rfl (by kernel_rfl) (by kernel_rfl) (by kernel_rfl) (fun _ _ _ h => h) (Or.inl ⟨by rfl, ?_⟩) hS1 ?_
                      rotate_left
                      · intro w hSw; (try dsimp only at hSw); go_simp; (first | done | with_reducible rfl)
                      simp only [Act.put, List.getElem_toArray, List.getElem_cons_zero, List.getElem_cons_succ, List.setIfInBounds_toArray, List.set_cons_zero, List.set_cons_succ]
                      refine wpAnyH_done (by kernel_rfl) ?_ _
                      have HBZ := Lib.hid (go HBB.out (go (Below.refl _ _).drew hB8))
                      clear hS0 hS1 hB8 v0 v4 v6 sx
                      go_wp2_with fail
                      refine ⟨⟨i + 1, by omega, by simp, Lib.hid HBZ.out⟩, ?_⟩
                      simp only [RowKit.intOf]
                      omega
                  · have t0 : decide (0 < j.att) = false := decide_eq_false hat
                    rw [t0] at sx
                    have hp0 : j.places = [] := HPN.out.2 (.inl (by have := HJO.out.att; omega))
                    have hn0 : j.num = 0 := Decidable.byContradiction fun h => HJO.out.run h hp0
                    have u1 : j.places.length = 0 := by rw [hp0]; rfl
                    rw [u1] at v6
                    rw [hn0] at v4
                    clear hat hp0 u1 hn0 HLV
                    go_quiet (fail)
                    go_wp2_with fail
                    refine ⟨⟨i + 1, by omega, by simp, Lib.hid (bdrewN HBB.out _)⟩, ?_⟩
                    simp only [RowKit.intOf]
                    omega
                · obtain rfl : i = fl.length := by omega
                  have HAZ := Lib.hid (show AwP w1 wr cb R.1 w2.heap.size ∧ CtOk ((n + 1 : Nat) : Int) R.1 ∧ R.1.jobs.length = fl.length ∧ StAt wr w2.heap.size R.1 ∧ w2.heap.size < wr.heap.size from ⟨AwP.below HA6.out hb3, HOKR.out.1, HOKR.out.2, hst3, (Array.getElem?_eq_some_iff.1 hst3).1⟩)
                  clear hst3 hb3
                  go_wp2_with fail
                  refine ⟨⟨n + 1, _, by omega, by simp, HAZ⟩, ?_⟩
                  simp only [RowKit.intOf]
                  omega
        · obtain rfl : n = cl.length := by omega
          have HBW := Lib.hid (go HB1.out hbw)
          clear hbw q1
          go_wp2_with fail
          (with_reducible refine (CA.out _ HBW.out).mono ?_)
          rintro e w3 ⟨rfl, hB3⟩
          go_wp2
          go_ret
          exact ⟨rfl, go HBW.out hB3⟩
end Go.Proofs.YtkjajlolfcioiaaGreatDoor.Control
