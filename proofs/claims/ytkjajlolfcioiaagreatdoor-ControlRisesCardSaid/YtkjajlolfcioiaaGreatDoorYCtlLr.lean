/- ControlRises, walked: true of any plan and commands. -/
import Derived.Test.YtkjajlolfcioiaaGreatDoorYCtlLs
import Derived.Test.YtkjajlolfcioiaaGreatDoorYCtlLw
import Derived.Deep.DeepCutAuto
namespace Go.Proofs.YtkjajlolfcioiaaGreatDoor.Control
open Go Go.RowKit Go.MapKept Go.Maps Go.Proofs Go.Proofs.YtkjajlolfcioiaaGreatDoor Go.Proofs.YtkjajlolfcioiaaGreatDoor.Expr Go.Proofs.YtkjajlolfcioiaaGreatDoor.Own Go.Proofs.YtkjajlolfcioiaaGreatDoor.Tail Go.Proofs.YtkjajlolfcioiaaGreatDoor.Mp Go.Proofs.YtkjajlolfcioiaaGreatDoor.Ints Go.Proofs.YtkjajlolfcioiaaGreatDoor.Plan Go.Proofs.YtkjajlolfcioiaaGreatDoor.Check Go.Proofs.YtkjajlolfcioiaaGreatDoor.Graph Go.Proofs.YtkjajlolfcioiaaGreatDoor.Ctl Go.Proofs.YtkjajlolfcioiaaGreatDoor.Rw
set_option maxHeartbeats 8000000 in
set_option maxRecDepth 100000 in
theorem lawRises_calls (tops : List Top) (fl : List FlwV) (cl : List CmdV) (tv fv cv : Value) (w : World) (hP : PlanAt w tv fv tops fl) (hS : SmallFlows fl) (hC : SliceAt w cv cl.length (cl.flatMap cmdvCells)) (hp : ∀ x ∈ cl, PartsAt w x.v x.c.parts) (hT : Tab w) (hg : 5 < w.heap.size) :
    Calls Tryz.prog 6 #[.agg #[tv, fv], cv] w (AwakePost w) := by
  have CS := Lib.hid (fun (X : World) (k : Below w.heap.size w X) => small_calls tops fl cl tv fv cv X (hP.below k) (hC.below k) (fun x hx => (hp x hx).below k))
  have CN := Lib.hid (fun (X : World) (k : Below w.heap.size w X) (hm : Small tops fl cl) => new_got tops fl cl tv fv X (hP.below k) hS (hT.below k) (Nat.lt_of_lt_of_le hg k.size) hm)
  have CA := Lib.hid (fun (X : World) (k : Below w.heap.size w X) => awake_calls X (hT.below k) (Nat.lt_of_lt_of_le hg k.size))
  obtain ⟨A1, c1, rfl, hc1, -⟩ := hP.tops
  obtain ⟨A2, c2, rfl, hc2, -⟩ := hP.flows
  obtain ⟨A3, c3, rfl, hc3, r3⟩ := hC
  have HCl := Lib.hid r3
  have HPa := Lib.hid hp
  have HG := Lib.hid hg
  clear hP hS hT hg r3 hp
  go_enter Tryz.func6, Tryz.ntmps6
  go_wp2_with fail
  (with_reducible refine (CS.out _ (box_below _ _)).mono ?_)
  rintro e w1 ⟨b, rfl, hb, hB1⟩
  have p0 := kc hB1 (cell_new (X := w) (g := w.heap.size) (cs := #[.slice A1 tops.length c1, .slice A2 fl.length c2]) (T := 25) (j := 0) rfl rfl)
  have p1 := kc hB1 (cell_new (X := w) (g := w.heap.size) (cs := #[.slice A1 tops.length c1, .slice A2 fl.length c2]) (T := 25) (j := 1) rfl rfl)
  have HB1 := Lib.hid (go (box_below _ _) hB1)
  clear hB1
  cases b with
  | false =>
    clear hb
    go_wp2
    go_ret
    exact ⟨rfl, HB1.out⟩
  | true =>
    have hm := hb rfl
    have HM := Lib.hid hm
    have hfl := hm.flows
    have hcl := hm.cmds
    clear hb hm
    go_wp2_with fail
    (with_reducible refine (CN.out _ HB1.out HM.out).mono ?_)
    rintro e w2 (⟨E, hE, rfl, hB2⟩ | ⟨cb, rfl, hA2, hok2⟩)
    · have e0 : (E == 0) = false := by simpa using hE
      have e1 : (E != 0) = true := by simpa using hE
      have HB2 := Lib.hid (go HB1.out hB2)
      clear hE hB2
      go_wp2_with (go_at_call 32; (with_reducible refine (CA.out _ HB2.out).mono ?_); rintro e w3 ⟨rfl, hB3⟩)
      go_ret
      exact ⟨rfl, go HB2.out hB3⟩
    · have q1 := kc hA2.bel p1
      have HA0 := Lib.hid (show Aw w1 w2 cb (newC tops (fl.map (·.f))) ∧ CtOk ((0 : Nat) : Int) (newC tops (fl.map (·.f))) ∧ (newC tops (fl.map (·.f))).jobs.length = fl.length from ⟨hA2, hok2, by simp [newC]⟩)
      have HP1 := Lib.hid p1
      have HSB := Lib.hid hA2.bel.size
      clear p0 p1 hA2 hok2
      generalize (newC tops (fl.map (·.f))) = c0 at HA0
      have HW0 := Lib.hid (show WasAt w2.heap.size w2 (.slice none 0 0) [] (c0.jobs.take 0) ∧ Below w2.heap.size w2 w2 from ⟨WasAt.none _ _, Below.refl _ _⟩)
      go_wp2_with fail
      go_loopw [7, 8] (fun v iv wr2 => ∃ (i : Nat) (L : List JobW), i ≤ fl.length ∧ iv = .int .i64 (i : Int) ∧ Hid (WasAt w2.heap.size wr2 v L (c0.jobs.take i) ∧ Below w2.heap.size w2 wr2)) (fun _ iv _ => fl.length - (RowKit.intOf iv).toNat)
      case atStart => exact ⟨0, [], Nat.zero_le _, rfl, HW0⟩
      case round =>
        clear HW0 q1
        obtain ⟨i, L, hi, rfl, HW⟩ := hrel
        have hbx := HW.out.2
        have q1 := kc (go HA0.out.1.bel hbx) HP1.out
        have hLi : L.length = i := by
          have h1 := congrArg List.length HW.out.1.js
          have h2 := HA0.out.2.2
          rw [List.length_map, List.length_take] at h1
          omega
        have HLI := Lib.hid hLi
        clear hLi
        obtain ⟨Av, av0, rfl, -, -, -, -⟩ := own_form HW.out.1.rows
        by_cases hlt2 : i < fl.length
        · have l0 : (i : Int) < (fl.length : Int) := by omega
          obtain ⟨a, ha⟩ : ∃ a, c0.jobs[i]? = some a := ⟨_, List.getElem?_eq_getElem (by have := HA0.out.2.2; omega)⟩
          have HAJ := Lib.hid ha
          have HJC := Lib.hid (aw_jobs (X := wr) (HA0.out.1.below hbx) HA0.out.2.1 ha)
          unfold JobOut jobV at HJC
          clear ha
          go_wp2_with fail
          (with_reducible refine HJC.out.mono ?_)
          rintro e w5 ⟨pv, av, rfl, hB5, ho1, ho2⟩
          obtain ⟨Ap, cp, rfl, -, -, -, -⟩ := own_form ho1
          obtain ⟨Aa, ca, rfl, -, -, -, -⟩ := own_form ho2
          have HO1 := Lib.hid ho1
          have HO2 := Lib.hid ho2
          have HB5 := Lib.hid hB5
          clear ho1 ho2 hB5 HJC
          have hzx := hbx.size
          have h85 : w5.heap.size ≥ wr.heap.size := HB5.out.size
          go_wp2_with (at_builtin; refine list_app sliceOfJob rfl _ _ rfl (base := w2.heap.size) rfl (own_kept (HW.out.1.below HB5.out).rows (balloc (box_below _ _) _)) rfl (Src.at (T := 55) (heap_at (by simp)) 8 1 1 (by simp) (by simp [Value.oneCell'])) (by have := HLI.out; unfold maxLen; omega) (by have := HLI.out; omega) (by simp; omega) ?_; intro v8 w8 ho8 hB8 hg8)
          have hk57 : Below w5.heap.size w5 ((w5.alloc (.cells #[.int .i64 a.att, .int .i64 a.rd, .int .i64 a.kp, .int .i64 a.done, .int .i64 a.num, .int .i64 a.next, .slice Ap a.places.length cp, .slice Aa a.acked.length ca] 55)).alloc (.cells #[.int .i64 a.att, .int .i64 a.rd, .int .i64 a.kp, .int .i64 a.done, .int .i64 a.num, .int .i64 a.next, .slice Ap a.places.length cp, .slice Aa a.acked.length ca] 55)) := balloc (box_below _ _) _
          have hW7 := (HW.out.1.below HB5.out).below hk57
          refine ⟨⟨i + 1, L ++ [⟨a, .slice Ap a.places.length cp, .slice Aa a.acked.length ca⟩], by omega, by simp, Lib.hid ⟨?_, ?_⟩⟩, ?_⟩
          · rw [List.take_add_one, HAJ.out]
            exact WasAt.more hW7 (own_base (own_kept HO1.out hk57) (by omega)) (own_base (own_kept HO2.out hk57) (by omega)) hg8 ho8
          · exact (go (go hbx HB5.out) hk57).trans hB8
          · simp only [RowKit.intOf]
            omega
        · obtain rfl : i = fl.length := by omega
          have hjt : c0.jobs.take fl.length = c0.jobs := List.take_of_length_le (by have := HA0.out.2.2; omega)
          have HA1 := Lib.hid (show AwW w1 wr cb c0 w2.heap.size (.slice Av fl.length av0) L c0.jobs ∧ CtOk ((0 : Nat) : Int) c0 ∧ c0.jobs.length = fl.length ∧ L.length = fl.length from
            ⟨Aw.told HA0.out.1 hbx (Nat.le_refl _) (by have h := HW.out.1; rw [hjt] at h; rwa [HLI.out] at h), HA0.out.2.1, HA0.out.2.2, HLI.out⟩)
          have hsz0 : w2.heap.size ≤ wr.heap.size := hbx.size
          have hrwL : L.length = fl.length := HLI.out
          rw [hrwL]
          clear hjt hbx HW HLI HA0 hrwL
          go_wp2_with fail
          go_loopw [11] (fun iv wr => ∃ (n : Nat) (c : Ct) (L : List JobW), n ≤ cl.length ∧ iv = .int .i64 (n : Int) ∧ Hid (AwW w1 wr cb c w2.heap.size (.slice Av fl.length av0) L c.jobs ∧ CtOk (n : Int) c ∧ c.jobs.length = fl.length ∧ L.length = fl.length)) (fun iv _ => cl.length - (RowKit.intOf iv).toNat)
          case atStart => exact ⟨0, _, _, Nat.zero_le _, rfl, HA1⟩
          case round =>
            clear HA1 q1 hsz0
            obtain ⟨n, c, L, hn, rfl, HA⟩ := hrel
            have hbw := HA.out.1.aw.bel
            by_cases hlt : n < cl.length
            · have l0 : (n : Int) < (cl.length : Int) := by omega
              obtain ⟨b, o, e, hrow⟩ := HCl.out (by omega)
              subst e
              obtain ⟨⟨cmd, v⟩, hx⟩ : ∃ x, cl[n]? = some x := ⟨_, List.getElem?_eq_getElem hlt⟩
              have hxm := List.mem_of_getElem? hx
              obtain ⟨vA, vc, ev, -, -⟩ := HPa.out _ hxm
              dsimp only at ev
              subst ev
              have HPT := Lib.hid (show PartsAt w1 (.slice vA cmd.parts.length vc) cmd.parts from SliceAt.below (HPa.out _ hxm) HB1.out)
              have HPL := Lib.hid (show cmd.parts.length ≤ 1000 from by have := HM.out.parts _ hxm; dsimp only at this; omega)
              have hww := go HB1.out hbw
              have x0 : wr.cell? ⟨b, o + n * 8, none⟩ = some (.int .i64 cmd.kind) := kc hww (hrow (n * 8 + 0) _ (flat_get cmdvCells 8 (fun _ => rfl) _ n 0 _ hx (by decide)))
              have x1 : wr.cell? ⟨b, o + n * 8 + 1, none⟩ = some (.int .i64 cmd.flow) := kc hww (hrow (n * 8 + 1) _ (flat_get cmdvCells 8 (fun _ => rfl) _ n 1 _ hx (by decide)))
              have x2 : wr.cell? ⟨b, o + n * 8 + 2, none⟩ = some (.int .i64 cmd.att) := kc hww (hrow (n * 8 + 2) _ (flat_get cmdvCells 8 (fun _ => rfl) _ n 2 _ hx (by decide)))
              have x3 : wr.cell? ⟨b, o + n * 8 + 3, none⟩ = some (.int .i64 cmd.num) := kc hww (hrow (n * 8 + 3) _ (flat_get cmdvCells 8 (fun _ => rfl) _ n 3 _ hx (by decide)))
              have x4 : wr.cell? ⟨b, o + n * 8 + 4, none⟩ = some (.int .i64 cmd.wk) := kc hww (hrow (n * 8 + 4) _ (flat_get cmdvCells 8 (fun _ => rfl) _ n 4 _ hx (by decide)))
              have x5 : wr.cell? ⟨b, o + n * 8 + 5, none⟩ = some (.int .i64 cmd.rd) := kc hww (hrow (n * 8 + 5) _ (flat_get cmdvCells 8 (fun _ => rfl) _ n 5 _ hx (by decide)))
              have x6 : wr.cell? ⟨b, o + n * 8 + 6, none⟩ = some (.int .i64 cmd.kp) := kc hww (hrow (n * 8 + 6) _ (flat_get cmdvCells 8 (fun _ => rfl) _ n 6 _ hx (by decide)))
              have x7 : wr.cell? ⟨b, o + n * 8 + 7, none⟩ = some (.slice vA cmd.parts.length vc) := kc hww (hrow (n * 8 + 7) _ (flat_get cmdvCells 8 (fun _ => rfl) _ n 7 _ hx (by decide)))
              have hbl := lt_of_cell x0
              have HX := Lib.hid hx
              have HBW := Lib.hid hbw
              obtain ⟨R, hR⟩ : ∃ R, doC c cmd = R := ⟨_, rfl⟩
              have HDO := Lib.hid (show Calls Tryz.prog 34 #[.pointer (some ⟨cb, 0, none⟩), .agg #[.int .i64 cmd.kind, .int .i64 cmd.flow, .int .i64 cmd.att, .int .i64 cmd.num, .int .i64 cmd.wk, .int .i64 cmd.rd, .int .i64 cmd.kp, .slice vA cmd.parts.length vc]] wr (AwDoneW w1 cb w2.heap.size (.slice Av fl.length av0) L c.jobs R) from by rw [← hR]; exact aw_doneW HA.out.1 HA.out.2.1 (by have := hlt; omega) cmd (.slice vA cmd.parts.length vc) HPT.out HPL.out)
              have hdn := doC_ok cmd HA.out.2.1
              rw [hR] at hdn
              have HOKR := Lib.hid (show CtOk ((n + 1 : Nat) : Int) R.1 ∧ R.1.jobs.length = fl.length from ⟨by have := hdn.ok; simpa using this, by rw [hdn.len]; exact HA.out.2.2.1⟩)
              have HST := Lib.hid hdn.step
              have HLN := Lib.hid (show c.jobs.length = fl.length ∧ L.length = fl.length from HA.out.2.2)
              clear hrow hx hxm hbw hww hR hdn
              go_wp2_with fail
              (with_reducible refine HDO.out.mono ?_)
              rintro e w6 ⟨rfl, hA6⟩
              have HA6 := Lib.hid hA6
              have HLV := Lib.hid (aw_liveO hA6.aw HOKR.out.1)
              unfold LivePost at HLV
              clear hA6 x0 x1 x2 x3 x4 x5 x6 x7 hbl HDO
              go_wp2_with fail
              (with_reducible refine HLV.out.mono ?_)
              rintro e wv ⟨lvv, rfl, hol, hBl⟩
              obtain ⟨Al, cl2, rfl, -, -, -, -⟩ := own_form hol
              have HOL := Lib.hid hol
              have hAv := HA6.out.below hBl
              have HZV := Lib.hid (show w6.heap.size ≤ wv.heap.size from hBl.size)
              have HGB := Lib.hid (fun (g : Nat) (e : (Value.slice Av fl.length av0).ownBlock = some g) => (HA6.out.was.rows.lt g e).2)
              have HK0 := Lib.hid (show AwW w1 wv cb R.1 w2.heap.size (.slice Av fl.length av0) L (R.1.jobs.take 0 ++ c.jobs.drop 0) ∧ L.length = fl.length ∧ Kp (fun i => (Value.slice Av fl.length av0).ownBlock = some i) wv wv from ⟨by simpa using hAv, HLN.out.2, Kp.refl _ _⟩)
              have HCL := Lib.hid HLN.out.1
              clear hol hBl HLV hAv HA HA6 HLN
              go_wp2_with fail
              go_loopw [14] (fun iv wr3 => ∃ (k : Nat) (L : List JobW), k ≤ fl.length ∧ iv = .int .i64 (k : Int) ∧ Hid (AwW w1 wr3 cb R.1 w2.heap.size (.slice Av fl.length av0) L (R.1.jobs.take k ++ c.jobs.drop k) ∧ L.length = fl.length ∧ Kp (fun i => (Value.slice Av fl.length av0).ownBlock = some i) wv wr3)) (fun iv _ => fl.length - (RowKit.intOf iv).toNat)
              case atStart => exact ⟨0, _, Nat.zero_le _, rfl, HK0⟩
              case round =>
                clear HK0
                obtain ⟨wk, rfl⟩ : ∃ wk, wk = wr := ⟨wr, rfl⟩
                obtain ⟨k, L, hk3, rfl, HB⟩ := hrel
                by_cases hlt3 : k < fl.length
                · have l0 : (k : Int) < (fl.length : Int) := by omega
                  obtain ⟨j, hj⟩ : ∃ j, R.1.jobs[k]? = some j := ⟨_, List.getElem?_eq_getElem (by have := HOKR.out.2; omega)⟩
                  obtain ⟨a, ha⟩ : ∃ a, c.jobs[k]? = some a := ⟨_, List.getElem?_eq_getElem (by have := HCL.out; omega)⟩
                  obtain ⟨j', hj', hst, hsame⟩ := HST.out k a ha
                  obtain rfl : j = j' := Option.some.inj (hj.symm.trans hj')
                  have hjo := HOKR.out.1.jobs j (List.mem_of_getElem? hj)
                  have HJS := Lib.hid hst
                  have HSA := Lib.hid hsame
                  have HJO := Lib.hid (And.intro (List.mem_of_getElem? hj) hjo)
                  have HTP := Lib.hid (take_put R.1.jobs c.jobs hj (by have := HOKR.out.2; have := HCL.out; omega))
                  have htg : (R.1.jobs.take k ++ c.jobs.drop k)[k]? = some a := (take_get R.1.jobs c.jobs (by have := HOKR.out.2; have := HCL.out; omega) (by have := HOKR.out.2; omega)).trans ha
                  have HTG := Lib.hid htg
                  have HJC := Lib.hid (aw_jobs (X := wk) HB.out.1.aw HOKR.out.1 hj)
                  unfold JobOut jobV at HJC
                  clear hj ha hj' hst hsame hjo htg
                  go_wp2_with fail
                  (with_reducible refine HJC.out.mono ?_)
                  rintro e w7 ⟨pv, av, rfl, hB7, ho1, ho2⟩
                  obtain ⟨Bp, dp, rfl, -, -, -, -⟩ := own_form ho1
                  obtain ⟨Ba, da, rfl, -, -, -, -⟩ := own_form ho2
                  obtain ⟨X7, hX7⟩ : ∃ X7, w7.alloc (.cells #[.int .i64 j.att, .int .i64 j.rd, .int .i64 j.kp, .int .i64 j.done, .int .i64 j.num, .int .i64 j.next, .slice Bp j.places.length dp, .slice Ba j.acked.length da] 55) = X7 := ⟨_, rfl⟩
                  have hk7 : Below w7.heap.size w7 X7 := by rw [← hX7]; exact box_below _ _
                  have hkc : ∀ (q : Nat) (u : Value), (#[.int .i64 j.att, .int .i64 j.rd, .int .i64 j.kp, .int .i64 j.done, .int .i64 j.num, .int .i64 j.next, .slice Bp j.places.length dp, .slice Ba j.acked.length da] : Array Value)[q]? = some u → X7.cell? ⟨w7.heap.size, q, none⟩ = some u := fun q u hq => by rw [← hX7]; exact cell_new rfl hq
                  have hz7 : X7.heap.size = w7.heap.size + 1 := by rw [← hX7]; simp
                  have hW7 := HB.out.1.was.below (go hB7 hk7)
                  obtain ⟨⟨ya, ypv, yav⟩, hy, hya, hy1, hy2⟩ := hW7.at HTG.out
                  dsimp only at hya hy1 hy2
                  subst hya
                  have HY1 := Lib.hid hy1
                  have HY2 := Lib.hid hy2
                  obtain ⟨Ap, cp, rfl, hc1', -⟩ := id hy1
                  obtain ⟨Aa, ca, rfl, hc2', -⟩ := id hy2
                  have HLL := Lib.hid HB.out.2.1
                  obtain ⟨g, rfl⟩ : ∃ g, Av = some ⟨g, 0, none⟩ := by
                    rcases hW7.rows.2 with ⟨e, hz⟩ | ⟨g, cap', cur, e, _⟩
                    · have := HB.out.2.1
                      omega
                    · exact ⟨g, by simp only [Value.slice.injEq] at e; exact e.1⟩
                  have hLn := HB.out.2.1
                  have hrw : X7.ownsRow w2.heap.size 55 8 (.slice (some ⟨g, 0, none⟩) L.length av0) L.length (L.flatMap jobwCells) := by have h := hW7.rows; rw [← hLn] at h; exact h
                  have z0 : X7.cell? ⟨g, k * 8, none⟩ = some (.int .i64 ya.att) := (own_cell hrw (j := k * 8 + 0) (by rw [flat_get jobwCells 8 (fun _ => rfl) L k 0 _ hy (by decide)]; rfl)).1
                  have z1 : X7.cell? ⟨g, k * 8 + 1, none⟩ = some (.int .i64 ya.rd) := (own_cell hrw (j := k * 8 + 1) (by rw [flat_get jobwCells 8 (fun _ => rfl) L k 1 _ hy (by decide)]; rfl)).1
                  have z2 : X7.cell? ⟨g, k * 8 + 2, none⟩ = some (.int .i64 ya.kp) := (own_cell hrw (j := k * 8 + 2) (by rw [flat_get jobwCells 8 (fun _ => rfl) L k 2 _ hy (by decide)]; rfl)).1
                  have z3 : X7.cell? ⟨g, k * 8 + 3, none⟩ = some (.int .i64 ya.done) := (own_cell hrw (j := k * 8 + 3) (by rw [flat_get jobwCells 8 (fun _ => rfl) L k 3 _ hy (by decide)]; rfl)).1
                  have z4 : X7.cell? ⟨g, k * 8 + 4, none⟩ = some (.int .i64 ya.num) := (own_cell hrw (j := k * 8 + 4) (by rw [flat_get jobwCells 8 (fun _ => rfl) L k 4 _ hy (by decide)]; rfl)).1
                  have z5 : X7.cell? ⟨g, k * 8 + 5, none⟩ = some (.int .i64 ya.next) := (own_cell hrw (j := k * 8 + 5) (by rw [flat_get jobwCells 8 (fun _ => rfl) L k 5 _ hy (by decide)]; rfl)).1
                  have z6 : X7.cell? ⟨g, k * 8 + 6, none⟩ = some (.slice Ap ya.places.length cp) := (own_cell hrw (j := k * 8 + 6) (by rw [flat_get jobwCells 8 (fun _ => rfl) L k 6 _ hy (by decide)]; rfl)).1
                  have z7 : X7.cell? ⟨g, k * 8 + 7, none⟩ = some (.slice Aa ya.acked.length ca) := (own_cell hrw (j := k * 8 + 7) (by rw [flat_get jobwCells 8 (fun _ => rfl) L k 7 _ hy (by decide)]; rfl)).1
                  have hgl := lt_of_cell z0
                  have hxl := lt_of_cell (hkc 0 _ rfl)
                  have HB7 := Lib.hid (go hB7 hk7)
                  have HO1 := Lib.hid (own_kept ho1 hk7)
                  have HO2 := Lib.hid (own_kept ho2 hk7)
                  have HKC := Lib.hid hkc
                  clear ho1 ho2 hB7 hk7 HJC hkc hW7 hrw hy hy1 hy2 hLn
                  go_upto_region 24 with fail
                  obtain ⟨X8, hX8⟩ : ∃ X8, X7.alloc (.cells #[.int .i64 ya.att, .int .i64 ya.rd, .int .i64 ya.kp, .int .i64 ya.done, .int .i64 ya.num, .int .i64 ya.next, .slice Ap ya.places.length cp, .slice Aa ya.acked.length ca] 55) = X8 := ⟨_, rfl⟩
                  have hk8 : Below X7.heap.size X7 X8 := by rw [← hX8]; exact box_below _ _
                  have hkc : ∀ (q : Nat) (u : Value), (#[.int .i64 ya.att, .int .i64 ya.rd, .int .i64 ya.kp, .int .i64 ya.done, .int .i64 ya.num, .int .i64 ya.next, .slice Ap ya.places.length cp, .slice Aa ya.acked.length ca] : Array Value)[q]? = some u → X8.cell? ⟨w7.heap.size + 1, q, none⟩ = some u := fun q u hq => by rw [← hX8]; exact cell_new hz7.symm hq
                  have b0 : X8.cell? ⟨w7.heap.size, 0, none⟩ = some (.int .i64 j.att) := kc hk8 (HKC.out 0 _ rfl)
                  have b1 : X8.cell? ⟨w7.heap.size, 1, none⟩ = some (.int .i64 j.rd) := kc hk8 (HKC.out 1 _ rfl)
                  have b2 : X8.cell? ⟨w7.heap.size, 2, none⟩ = some (.int .i64 j.kp) := kc hk8 (HKC.out 2 _ rfl)
                  have b3 : X8.cell? ⟨w7.heap.size, 3, none⟩ = some (.int .i64 j.done) := kc hk8 (HKC.out 3 _ rfl)
                  have b4 : X8.cell? ⟨w7.heap.size, 4, none⟩ = some (.int .i64 j.num) := kc hk8 (HKC.out 4 _ rfl)
                  have b5 : X8.cell? ⟨w7.heap.size, 5, none⟩ = some (.int .i64 j.next) := kc hk8 (HKC.out 5 _ rfl)
                  have b6 : X8.cell? ⟨w7.heap.size, 6, none⟩ = some (.slice Bp j.places.length dp) := kc hk8 (HKC.out 6 _ rfl)
                  have b7 : X8.cell? ⟨w7.heap.size, 7, none⟩ = some (.slice Ba j.acked.length da) := kc hk8 (HKC.out 7 _ rfl)
                  have a0 : X8.cell? ⟨w7.heap.size + 1, 0, none⟩ = some (.int .i64 ya.att) := hkc 0 _ rfl
                  have a1 : X8.cell? ⟨w7.heap.size + 1, 1, none⟩ = some (.int .i64 ya.rd) := hkc 1 _ rfl
                  have a2 : X8.cell? ⟨w7.heap.size + 1, 2, none⟩ = some (.int .i64 ya.kp) := hkc 2 _ rfl
                  have a3 : X8.cell? ⟨w7.heap.size + 1, 3, none⟩ = some (.int .i64 ya.done) := hkc 3 _ rfl
                  have a4 : X8.cell? ⟨w7.heap.size + 1, 4, none⟩ = some (.int .i64 ya.num) := hkc 4 _ rfl
                  have a5 : X8.cell? ⟨w7.heap.size + 1, 5, none⟩ = some (.int .i64 ya.next) := hkc 5 _ rfl
                  have a6 : X8.cell? ⟨w7.heap.size + 1, 6, none⟩ = some (.slice Ap ya.places.length cp) := hkc 6 _ rfl
                  have a7 : X8.cell? ⟨w7.heap.size + 1, 7, none⟩ = some (.slice Aa ya.acked.length ca) := hkc 7 _ rfl
                  rw [hX8]
                  have HK8 := Lib.hid hk8
                  have HWK := Lib.hid (show Below wk.heap.size wk X8 from go HB7.out hk8)
                  have HSM := Lib.hid (fun (e : j = ya) => show Calls Tryz.prog 36 #[.agg #[.int .i64 j.att, .int .i64 j.rd, .int .i64 j.kp, .int .i64 j.done, .int .i64 j.num, .int .i64 j.next, .slice Bp j.places.length dp, .slice Ba j.acked.length da], .agg #[.int .i64 ya.att, .int .i64 ya.rd, .int .i64 ya.kp, .int .i64 ya.done, .int .i64 ya.num, .int .i64 ya.next, .slice Ap ya.places.length cp, .slice Aa ya.acked.length ca]] X8 (fun e w' => e = .returned (.bool true) ∧ Below X8.heap.size X8 w') from by
                    have hbo := hok_len HOKR.out.1 (List.mem_iff_getElem?.1 (show j ∈ R.1.jobs from HJO.out.1)).choose_spec
                    have s := same_calls j (.slice Bp j.places.length dp) (.slice Ba j.acked.length da) (.slice Ap ya.places.length cp) (.slice Aa ya.acked.length ca) X8 (own_ints (base := wk.heap.size) (own_kept HO1.out HK8.out)) (sliceAt_own' (own_kept HO2.out HK8.out)) (by rw [e]; exact SliceAt.below HY1.out HK8.out) (by rw [e]; exact SliceAt.below HY2.out HK8.out) hbo.1 hbo.2
                    have e2 : jobV ya (.slice Ap ya.places.length cp) (.slice Aa ya.acked.length ca) = jobV j (.slice Ap ya.places.length cp) (.slice Aa ya.acked.length ca) := by rw [e]
                    rw [← e2] at s
                    exact s)
                  have hst := HJS.out
                  have hjo := HJO.out.2.1
                  have r1 : decide (j.att < ya.att) = false := decide_eq_false (by have := hst.rises; omega)
                  have r2 : decide (j.next < ya.next) = false := decide_eq_false (by have := hst.rises; omega)
                  have r3 : decide (j.done < ya.done) = false := decide_eq_false (by have := hst.rises; omega)
                  have r4 : decide (j.done ≥ j.next) = false := decide_eq_false (by have := hjo.done; omega)
                  have r5 : decide (j.num ≥ j.next) = false := decide_eq_false (by have := hjo.num; omega)
                  have r6 : decide (j.next ≤ j.done) = false := decide_eq_false (by have := hjo.done; omega)
                  have r7 : decide (j.next ≤ j.num) = false := decide_eq_false (by have := hjo.num; omega)
                  have hnb : 1 ≤ j.next ∧ j.next ≤ 300 := ⟨hjo.next.1, by have := hjo.next.2; omega⟩
                  have hnr : ya.next ≤ j.next := hst.rises.2.1
                  clear hX8 hk8 hkc hst hjo z0 z1 z2 z3 z4 z5 z6 z7
                  go_cut [143] from 90 to 143 (fun t wx => t = .bool false ∧ wx = X8)
                  case first =>
                    by_cases hd : ya.done < j.done
                    · have d1 : decide (ya.done < j.done) = true := decide_eq_true hd
                      obtain ⟨e1, e2⟩ := HJS.out.done hd
                      have d2 : (j.done != ya.num) = false := by simpa using e1
                      have d3 : (j.att != ya.att) = false := by simpa using e2
                      clear e1 e2 hd
                      go_wp2_with fail
                      go_meet
                      exact ⟨rfl, rfl⟩
                    · have d1 : decide (ya.done < j.done) = false := decide_eq_false hd
                      clear hd
                      go_wp2_with fail
                      go_meet
                      exact ⟨rfl, rfl⟩
                  case rest =>
                    obtain ⟨rfl, hwc⟩ := hcut
                    subst hwc
                    clear r1 r2 r3 r4 r5 r6 r7
                    go_upto_region 26 with fail
                    go_cut [173] from 144 to 173 (fun t wx => t = .bool false ∧ wx = wc)
                    case first =>
                      by_cases hn0 : j.num = 0
                      · have n1 : (j.num != 0) = false := by simpa using hn0
                        clear hn0
                        go_wp2_with fail
                        go_meet
                        exact ⟨rfl, rfl⟩
                      · have n1 : (j.num != 0) = true := by simpa using hn0
                        by_cases hna : j.num = ya.num
                        · have n2 : (j.num != ya.num) = false := by simpa using hna
                          clear hn0 hna
                          go_wp2_with fail
                          go_meet
                          exact ⟨rfl, rfl⟩
                        · have n2 : (j.num != ya.num) = true := by simpa using hna
                          obtain ⟨m1, m2, m3⟩ := HJS.out.num hn0 hna
                          have n3 : (j.num != ya.next) = false := by simpa using m1
                          have n4 : (j.next != ya.next + 1) = false := by simpa using m2
                          have n5 : (ya.num != 0) = false := by simpa using m3
                          have n6 : 0 ≤ ya.next := by omega
                          clear hn0 hna m1 m2 m3
                          go_wp2_with fail
                          go_meet
                          exact ⟨rfl, rfl⟩
                    case rest =>
                      obtain ⟨rfl, hwc⟩ := hcut
                      subst hwc
                      obtain ⟨X8, rfl⟩ : ∃ X8, X8 = wc := ⟨_, rfl⟩
                      clear hnb hnr
                      go_upto_region 28 with fail
                      go_cut [181] from 174 to 181 (fun t wx => t = .bool false ∧ Hid (Below X8.heap.size X8 wx))
                      case first =>
                        by_cases hR : R.2 = 0
                        · have s1 : (R.2 != 0) = false := by simpa using hR
                          clear hR
                          go_wp2_with fail
                          go_meet
                          exact ⟨rfl, Lib.hid (Below.refl _ _)⟩
                        · have s1 : (R.2 != 0) = true := by simpa using hR
                          have hja := HSA.out hR
                          have HSC := Lib.hid (HSM.out hja)
                          clear hR hja
                          go_wp2_with (go_at_call 36; (with_reducible refine HSC.out.mono ?_); rintro e w9 ⟨rfl, hB9⟩)
                          go_meet
                          exact ⟨rfl, Lib.hid hB9⟩
                      case rest =>
                        obtain ⟨rfl, HC8⟩ := hcut
                        obtain ⟨X9, rfl⟩ : ∃ X9, X9 = wc := ⟨_, rfl⟩
                        have g0 := kc HC8.out b0
                        have g1 := kc HC8.out b1
                        have g2 := kc HC8.out b2
                        have g3 := kc HC8.out b3
                        have g4 := kc HC8.out b4
                        have g5 := kc HC8.out b5
                        have g6 := kc HC8.out b6
                        have g7 := kc HC8.out b7
                        have HW9 := Lib.hid (show Below wk.heap.size wk X9 from go HWK.out HC8.out)
                        have HQ1 := Lib.hid (own_kept (own_kept HO1.out HK8.out) HC8.out)
                        have HQ2 := Lib.hid (own_kept (own_kept HO2.out HK8.out) HC8.out)
                        clear b0 b1 b2 b3 b4 b5 b6 b7 a0 a1 a2 a3 a4 a5 a6 a7
                        go_upto_region 30 with fail
                        go_cut [196] from 182 to 196 (fun t wx => t = .bool false ∧ wx = X9)
                        case first =>
                          by_cases hp : j.places = []
                          · have tp0 : j.places.length = 0 := by rw [hp]; rfl
                            rw [tp0] at g6
                            clear hp tp0
                            go_wp2_with fail
                            go_meet
                            exact ⟨rfl, rfl⟩
                          · have tp : (j.places.length : Int) = j.rd + j.kp := HJO.out.2.1.len.resolve_left hp
                            have hrd := HJO.out.2.1.rd
                            have hkp := HJO.out.2.1.kp
                            have hpo : 0 < j.places.length := by omega
                            obtain ⟨pl, hpl⟩ : ∃ pl : Nat, j.places.length = pl := ⟨_, rfl⟩
                            rw [hpl] at g6 tp hpo
                            have t1 : ((pl : Int) != 0) = true := by rw [bne_iff_ne]; omega
                            have t2 : ((pl : Int) != j.rd + j.kp) = false := by simpa using tp
                            clear hp hpl
                            go_wp2_with fail
                            go_meet
                            exact ⟨rfl, rfl⟩
                        case rest =>
                          obtain ⟨rfl, hwc⟩ := hcut
                          subst hwc
                          obtain ⟨X9, rfl⟩ : ∃ X9, X9 = wc := ⟨_, rfl⟩
                          have hpl16 : j.places.length ≤ 16 := by
                            rcases HJO.out.2.1.len with e | e
                            · rw [e]; simp
                            · have h1 := HJO.out.2.1.rd; have h2 := HJO.out.2.1.kp; omega
                          have HJL := Lib.hid HJO.out.2.2.1
                          have hll : (liveL R.1.lives).length ≤ 6 := by have := List.length_filter_le (fun w => decide (0 < R.1.lives w)) ([1, 2, 3, 4, 5, 6] : List Int); simpa [liveL] using this
                          go_wp2_with fail
                          go_loopw [18] (fun iv wr4 => ∃ m : Nat, m ≤ j.places.length ∧ iv = .int .i64 (m : Int) ∧ Hid (Below X9.heap.size X9 wr4)) (fun iv _ => j.places.length - (RowKit.intOf iv).toNat)
                          case atStart => exact ⟨0, Nat.zero_le _, rfl, Lib.hid (Below.refl _ _)⟩
                          case round =>
                            obtain ⟨m, hm, rfl, HC⟩ := hrel
                            have v6 := kc HC.out g6
                            by_cases hlt4 : m < j.places.length
                            · have l0 : (m : Int) < (j.places.length : Int) := by omega
                              obtain ⟨p, hp⟩ : ∃ p, j.places[m]? = some p := ⟨_, List.getElem?_eq_getElem hlt4⟩
                              have HPM := Lib.hid (HJL.out p (List.mem_of_getElem? hp))
                              obtain ⟨A, c', e, -, hr⟩ := own_ints (base := wk.heap.size) (own_kept HQ1.out HC.out)
                              obtain ⟨b2, o2, eb, hrow2⟩ := hr (by omega)
                              rw [eb] at e
                              obtain rfl : Bp = some ⟨b2, o2, none⟩ := (Value.slice.inj e).1
                              have d := hrow2 m (.int .i64 p) (by rw [List.getElem?_map, hp]; rfl)
                              have HIL := Lib.hid (own_ints (base := w6.heap.size) (own_kept (own_off HOL.out (HB.out.2.2.then (Kp.of_below HW9.out)) (fun g' e e' => by have := own_blk HOL.out g' e; have := HGB.out g' e'; omega)) HC.out))
                              clear hp hr e eb hrow2
                              go_wp2_with fail
                              go_loopw [19, 20] (fun ok iv wr5 => ∃ (q : Nat) (bo : Bool), q ≤ (liveL R.1.lives).length ∧ iv = .int .i64 (q : Int) ∧ ok = .bool bo ∧ Hid ((bo = true ↔ p ∈ (liveL R.1.lives).take q) ∧ Below wr.heap.size wr wr5)) (fun _ iv _ => (liveL R.1.lives).length - (RowKit.intOf iv).toNat)
                              case atStart => exact ⟨0, false, Nat.zero_le _, rfl, rfl, Lib.hid ⟨by simp, Below.refl _ _⟩⟩
                              case round =>
                                obtain ⟨wx, rfl⟩ : ∃ wx, wx = wr := ⟨wr, rfl⟩
                                obtain ⟨q, bo, hq, rfl, rfl, HD⟩ := hrel
                                have v65 := kc HD.out.2 v6
                                have d5 := kc HD.out.2 d
                                by_cases hlt5 : q < (liveL R.1.lives).length
                                · have l0 : (q : Int) < ((liveL R.1.lives).length : Int) := by omega
                                  obtain ⟨u, hu⟩ : ∃ u, (liveL R.1.lives)[q]? = some u := ⟨_, List.getElem?_eq_getElem hlt5⟩
                                  obtain ⟨A, c', e, -, hr⟩ := SliceAt.below HIL.out HD.out.2
                                  obtain ⟨b3, o3, eb, hrow3⟩ := hr (by omega)
                                  rw [eb] at e
                                  obtain rfl : Al = some ⟨b3, o3, none⟩ := (Value.slice.inj e).1
                                  have d6 := hrow3 q (.int .i64 u) (by rw [List.getElem?_map, hu]; rfl)
                                  have HTK := Lib.hid (show (liveL R.1.lives).take (q + 1) = (liveL R.1.lives).take q ++ [u] from by rw [List.take_add_one, hu]; rfl)
                                  clear hu hr e eb hrow3
                                  cases bo with
                                  | true =>
                                    go_wp2_with fail
                                    go_quiet (fail)
                                    go_wp2_with fail
                                    refine ⟨⟨q + 1, true, by omega, by simp, rfl, Lib.hid ⟨?_, bdrewN HD.out.2 _⟩⟩, ?_⟩
                                    · rw [HTK.out]
                                      exact ⟨fun _ => List.mem_append_left _ (HD.out.1.1 (by trivial)), fun _ => rfl⟩
                                    · simp only [RowKit.intOf]
                                      omega
                                  | false =>
                                    obtain ⟨r, hr⟩ : ∃ r : Bool, (u == p) = r := ⟨_, rfl⟩
                                    go_wp2_with fail
                                    go_quiet (fail)
                                    go_wp2_with fail
                                    refine ⟨⟨q + 1, r, by omega, by simp, rfl, Lib.hid ⟨?_, bdrewN HD.out.2 _⟩⟩, ?_⟩
                                    · rw [HTK.out, ← hr, List.mem_append, List.mem_singleton, beq_iff_eq]
                                      exact ⟨fun e => .inr e.symm, fun e => e.elim (fun e => absurd (HD.out.1.2 e) (by decide)) fun e => e.symm⟩
                                    · simp only [RowKit.intOf]
                                      omega
                                · obtain rfl : q = (liveL R.1.lives).length := by omega
                                  obtain rfl : bo = true := HD.out.1.2 (by rw [List.take_length]; exact HPM.out)
                                  have HBZ := Lib.hid (go HC.out HD.out.2)
                                  go_wp2_with fail
                                  refine ⟨⟨m + 1, by omega, by simp, HBZ⟩, ?_⟩
                                  simp only [RowKit.intOf]
                                  omega
                            · obtain rfl : m = j.places.length := by omega
                              have u0 := kc HC.out g0
                              have u1 := kc HC.out g1
                              have u2 := kc HC.out g2
                              have u3 := kc HC.out g3
                              have u4 := kc HC.out g4
                              have u5 := kc HC.out g5
                              have u7 := kc HC.out g7
                              have HWZ := Lib.hid (go HW9.out HC.out)
                              have hLn := HLL.out
                              have hv := HB.out.1
                              rw [← hLn] at hv
                              have HAP := Lib.hid (AwW.put (X := wr) (x := ⟨j, .slice Bp j.places.length dp, .slice Ba j.acked.length da⟩) hv HWZ.out (by have h1 := hv.was.rows.lt g rfl; omega) HSB.out (Nat.lt_of_lt_of_le HG.out HB1.out.size) (own_kept HQ1.out HC.out) (own_kept HQ2.out HC.out) (i := k) (by omega))
                              have hrw : wr.ownsRow w2.heap.size 55 8 (.slice (some ⟨g, 0, none⟩) L.length av0) L.length (L.flatMap jobwCells) := (hv.was.below HWZ.out).rows
                              obtain ⟨y, hy⟩ : ∃ y, L[k]? = some y := ⟨_, List.getElem?_eq_getElem (by omega)⟩
                              have f0 : wr.cell? ⟨g, k * 8, none⟩ = some (.int .i64 y.j.att) ∧ wr.frozen? ⟨g, k * 8, none⟩ = false := own_cell hrw (j := k * 8 + 0) (by rw [flat_get jobwCells 8 (fun _ => rfl) L k 0 _ hy (by decide)]; rfl)
                              have f1 : wr.cell? ⟨g, k * 8 + 1, none⟩ = some (.int .i64 y.j.rd) ∧ wr.frozen? ⟨g, k * 8 + 1, none⟩ = false := own_cell hrw (j := k * 8 + 1) (by rw [flat_get jobwCells 8 (fun _ => rfl) L k 1 _ hy (by decide)]; rfl)
                              have f2 : wr.cell? ⟨g, k * 8 + 2, none⟩ = some (.int .i64 y.j.kp) ∧ wr.frozen? ⟨g, k * 8 + 2, none⟩ = false := own_cell hrw (j := k * 8 + 2) (by rw [flat_get jobwCells 8 (fun _ => rfl) L k 2 _ hy (by decide)]; rfl)
                              have f3 : wr.cell? ⟨g, k * 8 + 3, none⟩ = some (.int .i64 y.j.done) ∧ wr.frozen? ⟨g, k * 8 + 3, none⟩ = false := own_cell hrw (j := k * 8 + 3) (by rw [flat_get jobwCells 8 (fun _ => rfl) L k 3 _ hy (by decide)]; rfl)
                              have f4 : wr.cell? ⟨g, k * 8 + 4, none⟩ = some (.int .i64 y.j.num) ∧ wr.frozen? ⟨g, k * 8 + 4, none⟩ = false := own_cell hrw (j := k * 8 + 4) (by rw [flat_get jobwCells 8 (fun _ => rfl) L k 4 _ hy (by decide)]; rfl)
                              have f5 : wr.cell? ⟨g, k * 8 + 5, none⟩ = some (.int .i64 y.j.next) ∧ wr.frozen? ⟨g, k * 8 + 5, none⟩ = false := own_cell hrw (j := k * 8 + 5) (by rw [flat_get jobwCells 8 (fun _ => rfl) L k 5 _ hy (by decide)]; rfl)
                              have f6 : wr.cell? ⟨g, k * 8 + 6, none⟩ = some (y.pv) ∧ wr.frozen? ⟨g, k * 8 + 6, none⟩ = false := own_cell hrw (j := k * 8 + 6) (by rw [flat_get jobwCells 8 (fun _ => rfl) L k 6 _ hy (by decide)]; rfl)
                              have f7 : wr.cell? ⟨g, k * 8 + 7, none⟩ = some (y.av) ∧ wr.frozen? ⟨g, k * 8 + 7, none⟩ = false := own_cell hrw (j := k * 8 + 7) (by rw [flat_get jobwCells 8 (fun _ => rfl) L k 7 _ hy (by decide)]; rfl)
                              rw [hLn] at HAP
                              have HKZ := Lib.hid (HB.out.2.2.then (Kp.of_below HWZ.out))
                              have hgl := lt_of_cell f0.1
                              obtain ⟨f0, k0⟩ := f0
                              obtain ⟨f1, k1⟩ := f1
                              obtain ⟨f2, k2⟩ := f2
                              obtain ⟨f3, k3⟩ := f3
                              obtain ⟨f4, k4⟩ := f4
                              obtain ⟨f5, k5⟩ := f5
                              obtain ⟨f6, k6⟩ := f6
                              obtain ⟨f7, k7⟩ := f7
                              clear hrw hv hy
                              go_wp2_with fail
                              refine ⟨⟨k + 1, L.set k ⟨j, .slice Bp j.places.length dp, .slice Ba j.acked.length da⟩, by omega, by simp, Lib.hid ⟨?_, ?_, ?_⟩⟩, ?_⟩
                              · rw [← HTP.out]
                                exact HAP.out
                              · rw [List.length_set]
                                exact hLn
                              · exact HKZ.out.then ((kp_set8 wr g (k * 8) ⟨j, .slice Bp j.places.length dp, .slice Ba j.acked.length da⟩).mono (fun i e => by cases e; rfl))
                              · simp only [RowKit.intOf]
                                omega
                · obtain rfl : k = fl.length := by omega
                  have hjt : R.1.jobs.take fl.length ++ c.jobs.drop fl.length = R.1.jobs := by
                    rw [List.take_of_length_le (by have := HOKR.out.2; omega), List.drop_of_length_le (by have := HCL.out; omega), List.append_nil]
                  have HAZ := Lib.hid (show AwW w1 wk cb R.1 w2.heap.size (.slice Av fl.length av0) L R.1.jobs ∧ CtOk ((n + 1 : Nat) : Int) R.1 ∧ R.1.jobs.length = fl.length ∧ L.length = fl.length from ⟨by have h := HB.out.1; rwa [hjt] at h, HOKR.out.1, HOKR.out.2, HB.out.2.1⟩)
                  clear hjt
                  go_wp2_with fail
                  refine ⟨⟨n + 1, _, _, by omega, by simp, HAZ⟩, ?_⟩
                  simp only [RowKit.intOf]
                  omega
            · obtain rfl : n = cl.length := by omega
              have HBW := Lib.hid (go HB1.out hbw)
              clear hbw
              go_wp2_with fail
              (with_reducible refine (CA.out _ HBW.out).mono ?_)
              rintro e w3 ⟨rfl, hB3⟩
              go_wp2
              go_ret
              exact ⟨rfl, go HBW.out hB3⟩
end Go.Proofs.YtkjajlolfcioiaaGreatDoor.Control
