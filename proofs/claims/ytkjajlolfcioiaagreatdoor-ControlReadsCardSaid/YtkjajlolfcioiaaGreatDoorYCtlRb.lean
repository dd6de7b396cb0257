/- ControlReads, walked: true of any plan and commands. -/
import Derived.Test.YtkjajlolfcioiaaGreatDoorYCtlRa
namespace Go.Proofs.YtkjajlolfcioiaaGreatDoor.Control
open Go Go.RowKit Go.MapKept Go.Maps Go.Proofs Go.Proofs.YtkjajlolfcioiaaGreatDoor Go.Proofs.YtkjajlolfcioiaaGreatDoor.Expr Go.Proofs.YtkjajlolfcioiaaGreatDoor.Own Go.Proofs.YtkjajlolfcioiaaGreatDoor.Tail Go.Proofs.YtkjajlolfcioiaaGreatDoor.Mp Go.Proofs.YtkjajlolfcioiaaGreatDoor.Ints Go.Proofs.YtkjajlolfcioiaaGreatDoor.Plan Go.Proofs.YtkjajlolfcioiaaGreatDoor.Check Go.Proofs.YtkjajlolfcioiaaGreatDoor.Graph Go.Proofs.YtkjajlolfcioiaaGreatDoor.Ctl Go.Proofs.YtkjajlolfcioiaaGreatDoor.Rw Go.Proofs.YtkjajlolfcioiaaGreatDoor.Pack
/-- a control made, or refused; which, the plan says. -/
def NewAny (tops : List Top) (fl : List FlwV) (E : Int) (w : World) (e : Ending) (w' : World) : Prop :=
  (E ≠ 0 ∧ e = .returned (.tuple #[.pointer none, .int .i64 E]) ∧ Below w.heap.size w w') ∨
  (E = 0 ∧ ∃ cb, e = .returned (.tuple #[.pointer (some ⟨cb, 0, none⟩), .int .i64 0]) ∧ Aw w w' cb (newC tops (fl.map (·.f))))
theorem new_any (tops : List Top) (fl : List FlwV) (cl : List CmdV) (tv fv : Value) (w : World) (hP : PlanAt w tv fv tops fl) (hS : SmallFlows fl) (hT : Tab w) (hg : 5 < w.heap.size) (hm : Small tops fl cl) :
    Calls Tryz.prog 31 #[.agg #[tv, fv]] w (NewAny tops fl (orderR (plnOf tops fl)).2 w) := by
  by_cases hE : (orderR (plnOf tops fl)).2 = 0
  · refine (new_good tops fl tv fv w hP hS hT hg hE (by have := hm.tops; omega) (by have := hm.flows; omega) (fun x hx => by have := hm.steps x hx; omega)).mono ?_
    rintro e w' (⟨h, -, -⟩ | ⟨-, cb, rfl, hc, hB⟩)
    · exact absurd hE h
    · exact .inr ⟨hE, cb, rfl, _, hc, fun i hi => hi.1, hB⟩
  · refine (new_bad tops fl tv fv w hP hS hT hg hE).mono ?_
    rintro e w' (⟨h, rfl, hB⟩ | ⟨h, -⟩)
    · exact .inl ⟨h, rfl, hB⟩
    · exact absurd h hE
theorem read_cmd (c : Cmd) (w : World) (hi : CmdI c) (hl : c.parts.length ≤ 32) : Calls Tryz.prog 45 #[.string ⟨(cmdB c).toArray⟩] w (ReadPost (some c) w) := by
  have hx : ∀ x ∈ cmdNums c, I64 x := by
    intro x hx
    simp only [cmdNums, List.mem_cons, List.not_mem_nil, or_false] at hx
    rcases hx with rfl | rfl | rfl | rfl | rfl | rfl | rfl | rfl
    · exact hi.kind
    · exact hi.flow
    · exact hi.att
    · exact hi.num
    · exact hi.wk
    · exact hi.rd
    · exact hi.kp
    · exact ⟨by omega, by omega⟩
  have hy : ∀ x ∈ partNums c.parts, I64 x := by
    intro x hx
    obtain ⟨p, hp, hxp⟩ := List.mem_flatMap.1 hx
    simp only [List.mem_cons, List.not_mem_nil, or_false] at hxp
    rcases hxp with rfl | rfl
    · exact (hi.parts p hp).1
    · exact (hi.parts p hp).2
  have h1 := numsB_len _ hx
  have h2 := numsB_len _ hy
  have h3 := partNums_len c.parts
  have h4 : (cmdNums c).length = 8 := rfl
  have hsz : (⟨(cmdB c).toArray⟩ : ByteArray).size ≤ 1000000 := by
    show (cmdB c).toArray.size ≤ _
    unfold cmdB
    simp only [List.size_toArray, List.length_append]
    omega
  have h := read_calls ⟨(cmdB c).toArray⟩ w hsz
  have e : (⟨(cmdB c).toArray⟩ : ByteArray).data.toList = cmdB c := by simp
  rw [e, read_write hi hl] at h
  exact h
theorem parts_off {X Y : World} {v : Value} {P : List (Int × Int)} {base : Nat} (h : X.ownsRow base 75 2 v P.length (P.flatMap partCells)) (hY : ∀ i, base ≤ i → i < X.heap.size → Y.heap[i]? = X.heap[i]?) : PartsAt Y v P :=
  sliceAt_own' (own_moved h hY)
set_option maxHeartbeats 8000000 in
set_option maxRecDepth 100000 in
theorem lawReads_calls (tops : List Top) (fl : List FlwV) (cl : List CmdV) (tv fv cv : Value) (w : World) (hP : PlanAt w tv fv tops fl) (hS : SmallFlows fl) (hC : SliceAt w cv cl.length (cl.flatMap cmdvCells)) (hp : ∀ x ∈ cl, PartsAt w x.v x.c.parts ∧ CmdI x.c) (hT : Tab w) (hg : 5 < w.heap.size) :
    Calls Tryz.prog 14 #[.agg #[tv, fv], cv] w (AwakePost w) := by
  have CS := Lib.hid (fun (X : World) (k : Below w.heap.size w X) => small_calls tops fl cl tv fv cv X (hP.below k) (hC.below k) (fun x hx => (hp x hx).1.below k))
  obtain ⟨E, hE⟩ : ∃ E, (orderR (plnOf tops fl)).2 = E := ⟨_, rfl⟩
  have CN := Lib.hid (fun (X : World) (k : Below w.heap.size w X) (hm : Small tops fl cl) => show Calls Tryz.prog 31 #[.agg #[tv, fv]] X (NewAny tops fl E X) from hE ▸ new_any tops fl cl tv fv X (hP.below k) hS (hT.below k) (Nat.lt_of_lt_of_le hg k.size) hm)
  have HOK := Lib.hid (fun (h : E = 0) => show CtOk 0 (newC tops (fl.map (·.f))) from newC_ok (order_plan (hE.trans h)))
  have CA := Lib.hid (fun (X : World) (k : Below w.heap.size w X) => awake_calls X (hT.below k) (Nat.lt_of_lt_of_le hg k.size))
  obtain ⟨A1, c1, rfl, hc1, -⟩ := hP.tops
  obtain ⟨A2, c2, rfl, hc2, -⟩ := hP.flows
  obtain ⟨A3, c3, rfl, hc3, r3⟩ := hC
  have HCl := Lib.hid r3
  have HPa := Lib.hid hp
  have HG := Lib.hid hg
  clear hP hS hT hg r3 hp hE
  go_enter Tryz.func14, Tryz.ntmps14
  go_wp2_with fail
  (with_reducible refine (CS.out _ (box_below _ _)).mono ?_)
  rintro e w1 ⟨b, rfl, hb, hB1⟩
  have p0 := kc hB1 (cell_new (X := w) (g := w.heap.size) (cs := #[.slice A1 tops.length c1, .slice A2 fl.length c2]) (T := 25) (j := 0) rfl rfl)
  have p1 := kc hB1 (cell_new (X := w) (g := w.heap.size) (cs := #[.slice A1 tops.length c1, .slice A2 fl.length c2]) (T := 25) (j := 1) rfl rfl)
  have HB1 := Lib.hid (go (box_below _ _) hB1)
  clear hB1
  cases b with
  | false =>
    clear hb
    go_wp2
    go_ret
    exact ⟨rfl, HB1.out⟩
  | true =>
    have hm := hb rfl
    have HM := Lib.hid hm
    have hfl := hm.flows
    have hcl := hm.cmds
    clear hb hm
    go_wp2_with fail
    (with_reducible refine (CN.out _ HB1.out HM.out).mono ?_)
    rintro e w2 (⟨hE, rfl, hB2⟩ | ⟨hE, ca, rfl, hA2⟩)
    · have p02 := kc hB2 p0
      have p12 := kc hB2 p1
      have e0 : (E == 0) = false := by simpa using hE
      have e1 : (E != 0) = true := by simpa using hE
      have HE := Lib.hid hE
      have HB2 := Lib.hid (go HB1.out hB2)
      clear hE hB2 p0 p1
      go_wp2_with fail
      (with_reducible refine (CN.out _ HB2.out HM.out).mono ?_)
      rintro e w3 (⟨hE, rfl, hB3⟩ | ⟨hE, -⟩)
      · have HB3 := Lib.hid (go HB2.out hB3)
        clear hE hB3 p02 p12
        go_wp2_with fail
        (with_reducible refine (CA.out _ HB3.out).mono ?_)
        rintro e w4 ⟨rfl, hB4⟩
        have HB4 := Lib.hid (go HB3.out hB4)
        clear hB4
        go_wp2
        go_ret
        exact ⟨by simp, HB4.out⟩
      · exact absurd hE HE.out
    · have HK := Lib.hid (HOK.out hE)
      subst hE
      have p02 := kc hA2.bel p0
      have p12 := kc hA2.bel p1
      have HP1 := Lib.hid p1
      have HA2 := Lib.hid hA2
      clear hA2 p0 p1
      go_wp2_with fail
      (with_reducible refine (CN.out _ (go HB1.out HA2.out.bel) HM.out).mono ?_)
      rintro e w3 (⟨hE, -⟩ | ⟨-, cb, rfl, hA3⟩)
      · exact absurd rfl hE
      have HT0 := Lib.hid (show Two w1 w3 ca cb (newC tops (fl.map (·.f))) (newC tops (fl.map (·.f))) 0 0 ∧ CtOk ((0 : Nat) : Int) (newC tops (fl.map (·.f))) ∧ (newC tops (fl.map (·.f))).jobs.length = fl.length from ⟨HA2.out.two hA3, HK.out, by simp [newC]⟩)
      clear hA3 p02 p12 HA2 HK
      go_wp2_with fail
      go_loopw [9] (fun iv wr => ∃ (n : Nat) (c : Ct), n ≤ cl.length ∧ iv = .int .i64 (n : Int) ∧ Hid (Two w1 wr ca cb c c 0 0 ∧ CtOk (n : Int) c ∧ c.jobs.length = fl.length)) (fun iv _ => cl.length - (RowKit.intOf iv).toNat)
      case atStart => exact ⟨0, _, Nat.zero_le _, rfl, HT0⟩
      case round =>
        clear HT0
        obtain ⟨wo, rfl⟩ : ∃ wo, wo = wr := ⟨wr, rfl⟩
        obtain ⟨n, c, hn, rfl, HT⟩ := hrel
        have hbw := HT.out.1.bel
        have q1 := kc hbw HP1.out
        by_cases hlt : n < cl.length
        · have l0 : (n : Int) < (cl.length : Int) := by omega
          obtain ⟨b, o, e, hrow⟩ := HCl.out (by omega)
          subst e
          obtain ⟨⟨cmd, v⟩, hx⟩ : ∃ x, cl[n]? = some x := ⟨_, List.getElem?_eq_getElem hlt⟩
          have hxm := List.mem_of_getElem? hx
          obtain ⟨vA, vc, ev, -, -⟩ := (HPa.out _ hxm).1
          dsimp only at ev
          subst ev
          have HPT := Lib.hid (show PartsAt w1 (.slice vA cmd.parts.length vc) cmd.parts from SliceAt.below (HPa.out _ hxm).1 HB1.out)
          have HCI := Lib.hid (show CmdI cmd from (HPa.out _ hxm).2)
          have hww := go HB1.out hbw
          have y0 : w1.cell? ⟨b, o + n * 8, none⟩ = some (.int .i64 cmd.kind) := kc HB1.out (hrow (n * 8 + 0) _ (flat_get cmdvCells 8 (fun _ => rfl) _ n 0 _ hx (by decide)))
          have y1 : w1.cell? ⟨b, o + n * 8 + 1, none⟩ = some (.int .i64 cmd.flow) := kc HB1.out (hrow (n * 8 + 1) _ (flat_get cmdvCells 8 (fun _ => rfl) _ n 1 _ hx (by decide)))
          have y2 : w1.cell? ⟨b, o + n * 8 + 2, none⟩ = some (.int .i64 cmd.att) := kc HB1.out (hrow (n * 8 + 2) _ (flat_get cmdvCells 8 (fun _ => rfl) _ n 2 _ hx (by decide)))
          have y3 : w1.cell? ⟨b, o + n * 8 + 3, none⟩ = some (.int .i64 cmd.num) := kc HB1.out (hrow (n * 8 + 3) _ (flat_get cmdvCells 8 (fun _ => rfl) _ n 3 _ hx (by decide)))
          have y4 : w1.cell? ⟨b, o + n * 8 + 4, none⟩ = some (.int .i64 cmd.wk) := kc HB1.out (hrow (n * 8 + 4) _ (flat_get cmdvCells 8 (fun _ => rfl) _ n 4 _ hx (by decide)))
          have y5 : w1.cell? ⟨b, o + n * 8 + 5, none⟩ = some (.int .i64 cmd.rd) := kc HB1.out (hrow (n * 8 + 5) _ (flat_get cmdvCells 8 (fun _ => rfl) _ n 5 _ hx (by decide)))
          have y6 : w1.cell? ⟨b, o + n * 8 + 6, none⟩ = some (.int .i64 cmd.kp) := kc HB1.out (hrow (n * 8 + 6) _ (flat_get cmdvCells 8 (fun _ => rfl) _ n 6 _ hx (by decide)))
          have y7 : w1.cell? ⟨b, o + n * 8 + 7, none⟩ = some (.slice vA cmd.parts.length vc) := kc HB1.out (hrow (n * 8 + 7) _ (flat_get cmdvCells 8 (fun _ => rfl) _ n 7 _ hx (by decide)))
          have HYC := Lib.hid (And.intro y0 (And.intro y1 (And.intro y2 (And.intro y3 (And.intro y4 (And.intro y5 (And.intro y6 y7)))))))
          have x0 := kc hbw y0
          have x1 := kc hbw y1
          have x2 := kc hbw y2
          have x3 := kc hbw y3
          have x4 := kc hbw y4
          have x5 := kc hbw y5
          have x6 := kc hbw y6
          have x7 := kc hbw y7
          clear y0 y1 y2 y3 y4 y5 y6 y7
          have hbl := lt_of_cell x0
          have HBW := Lib.hid hbw
          have HBL := Lib.hid (show b < w.heap.size from lt_of_cell (hrow (n * 8 + 0) _ (flat_get cmdvCells 8 (fun _ => rfl) _ n 0 _ hx (by decide))))
          clear hrow hx hxm hbw hww
          by_cases hmany : 32 < cmd.parts.length
          · have t32 : decide ((32 : Int) < (cmd.parts.length : Int)) = true := decide_eq_true (by omega)
            have HT2 := Lib.hid (show Two w1 wo ca cb c c 0 0 ∧ CtOk ((n + 1 : Nat) : Int) c ∧ c.jobs.length = fl.length from ⟨HT.out.1, by have := (DoneOk.same HT.out.2.1 0).ok; simpa using this, HT.out.2.2⟩)
            go_wp2_with fail
            refine ⟨⟨n + 1, c, by omega, by simp, HT2⟩, ?_⟩
            simp only [RowKit.intOf]
            omega
          · have t32 : decide ((32 : Int) < (cmd.parts.length : Int)) = false := decide_eq_false (by omega)
            have HPL := Lib.hid (show cmd.parts.length ≤ 32 from by omega)
            have HBY := Lib.hid (fun (X : World) (k : Below wo.heap.size wo X) => show Calls Tryz.prog 44 #[.agg #[.int .i64 cmd.kind, .int .i64 cmd.flow, .int .i64 cmd.att, .int .i64 cmd.num, .int .i64 cmd.wk, .int .i64 cmd.rd, .int .i64 cmd.kp, .slice vA cmd.parts.length vc]] X (fun e w' => e = .returned (.tuple #[.string ⟨(cmdB cmd).toArray⟩, .int .i64 0]) ∧ Below X.heap.size X w') from bytes_few cmd _ X (SliceAt.below HPT.out (go HBW.out k)) HCI.out HPL.out)
            have HRD := Lib.hid (fun (X : World) => read_cmd cmd X HCI.out HPL.out)
            unfold ReadPost at HRD
            clear hmany
            go_wp2_with fail
            (with_reducible refine (HBY.out _ (Below.refl _ _)).mono ?_)
            rintro e w5 ⟨rfl, hB5⟩
            have HB5 := Lib.hid hB5
            clear hB5
            go_wp2_with fail
            (with_reducible refine (HRD.out _).mono ?_)
            rintro e w6 ⟨hB6, xv, rfl, ho⟩
            obtain ⟨Ap, cp, rfl, -, -, -, -⟩ := own_form ho
            have HO := Lib.hid ho
            have HB6 := Lib.hid (go HB5.out hB6)
            clear hB6 ho
            unfold cmdCells
            go_wp2_with fail
            obtain ⟨X7, hX7⟩ : ∃ X7, w6.alloc (.cells #[.int .i64 cmd.kind, .int .i64 cmd.flow, .int .i64 cmd.att, .int .i64 cmd.num, .int .i64 cmd.wk, .int .i64 cmd.rd, .int .i64 cmd.kp, .slice Ap cmd.parts.length cp] 60) = X7 := ⟨_, rfl⟩
            have hk7 : Below w6.heap.size w6 X7.drew := by rw [← hX7]; exact (box_below _ _).drew
            have hr7 : X7.drew.heap[w6.heap.size]? = some (.cells #[.int .i64 cmd.kind, .int .i64 cmd.flow, .int .i64 cmd.att, .int .i64 cmd.num, .int .i64 cmd.wk, .int .i64 cmd.rd, .int .i64 cmd.kp, .slice Ap cmd.parts.length cp] 60) := by rw [← hX7]; exact heap_new _ _
            have hz7 : X7.drew.heap.size = w6.heap.size + 1 := by rw [← hX7]; simp
            rw [hX7]
            have hk7o : Below wo.heap.size wo X7.drew := go HB6.out hk7
            have HK7 := Lib.hid hk7o
            have HR7 := Lib.hid hr7
            have HZ7 := Lib.hid hz7
            have HTW := Lib.hid (HT.out.1.lay hk7o)
            have HOX := Lib.hid (own_base (own_kept HO.out hk7) HB5.out.size)
            have hg1 : 5 < w1.heap.size := Nat.lt_of_lt_of_le HG.out HB1.out.size
            have HDA := Lib.hid (show Calls Tryz.prog 34 #[.pointer (some ⟨ca, 0, none⟩), .agg #[.int .i64 cmd.kind, .int .i64 cmd.flow, .int .i64 cmd.att, .int .i64 cmd.num, .int .i64 cmd.wk, .int .i64 cmd.rd, .int .i64 cmd.kp, .slice vA cmd.parts.length vc]] X7.drew (TwoDone w1 X7.drew ca cb (doC c cmd) c wo.heap.size X7.drew.heap.size) from two_do HTW.out hg1 HT.out.2.1 (by have := hcl; omega) cmd (.slice vA cmd.parts.length vc) (fun Y hY _ => SliceAt.below HPT.out hY) (by have := HPL.out; omega))
            have HDB := Lib.hid (fun (w8 : World) (h8 : Two w1 w8 ca cb (doC c cmd).1 c wo.heap.size X7.drew.heap.size) (h9 : ∀ i, wo.heap.size ≤ i → i < X7.drew.heap.size → w8.heap[i]? = X7.drew.heap[i]?) => show Calls Tryz.prog 34 #[.pointer (some ⟨cb, 0, none⟩), .agg #[.int .i64 cmd.kind, .int .i64 cmd.flow, .int .i64 cmd.att, .int .i64 cmd.num, .int .i64 cmd.wk, .int .i64 cmd.rd, .int .i64 cmd.kp, .slice Ap cmd.parts.length cp]] w8 (TwoDone w1 w8 cb ca (doC c cmd) (doC c cmd).1 wo.heap.size X7.drew.heap.size) from two_do h8.symm hg1 HT.out.2.1 (by have := hcl; omega) cmd (.slice Ap cmd.parts.length cp) (fun Y hY hk => parts_off HOX.out (fun i h1 h2 => (hk i h1 h2).trans (h9 i h1 h2))) (by have := HPL.out; omega))
            have HXC := Lib.hid (fun (Y : World) (hb : Below w1.heap.size w1 Y) (hk : Y.heap[w6.heap.size]? = X7.drew.heap[w6.heap.size]?) => show (fun X : World => X.cell? ⟨b, o + n * 8, none⟩ = some (.int .i64 cmd.kind) ∧ X.cell? ⟨b, o + n * 8 + 1, none⟩ = some (.int .i64 cmd.flow) ∧ X.cell? ⟨b, o + n * 8 + 2, none⟩ = some (.int .i64 cmd.att) ∧ X.cell? ⟨b, o + n * 8 + 3, none⟩ = some (.int .i64 cmd.num) ∧ X.cell? ⟨b, o + n * 8 + 4, none⟩ = some (.int .i64 cmd.wk) ∧ X.cell? ⟨b, o + n * 8 + 5, none⟩ = some (.int .i64 cmd.rd) ∧ X.cell? ⟨b, o + n * 8 + 6, none⟩ = some (.int .i64 cmd.kp) ∧ X.cell? ⟨b, o + n * 8 + 7, none⟩ = some (.slice vA cmd.parts.length vc) ∧ X.cell? ⟨w6.heap.size, 0, none⟩ = some (.int .i64 cmd.kind) ∧ X.cell? ⟨w6.heap.size, 1, none⟩ = some (.int .i64 cmd.flow) ∧ X.cell? ⟨w6.heap.size, 2, none⟩ = some (.int .i64 cmd.att) ∧ X.cell? ⟨w6.heap.size, 3, none⟩ = some (.int .i64 cmd.num) ∧ X.cell? ⟨w6.heap.size, 4, none⟩ = some (.int .i64 cmd.wk) ∧ X.cell? ⟨w6.heap.size, 5, none⟩ = some (.int .i64 cmd.rd) ∧ X.cell? ⟨w6.heap.size, 6, none⟩ = some (.int .i64 cmd.kp) ∧ X.cell? ⟨w6.heap.size, 7, none⟩ = some (.slice Ap cmd.parts.length cp)) Y from by
              have hr := hk.trans HR7.out
              obtain ⟨h0, h1, h2, h3, h4, h5, h6, h7⟩ := HYC.out
              exact ⟨kc hb h0, kc hb h1, kc hb h2, kc hb h3, kc hb h4, kc hb h5, kc hb h6, kc hb h7, by rw [cell_of_row _ _ _ _ _ _ hr]; rfl, by rw [cell_of_row _ _ _ _ _ _ hr]; rfl, by rw [cell_of_row _ _ _ _ _ _ hr]; rfl, by rw [cell_of_row _ _ _ _ _ _ hr]; rfl, by rw [cell_of_row _ _ _ _ _ _ hr]; rfl, by rw [cell_of_row _ _ _ _ _ _ hr]; rfl, by rw [cell_of_row _ _ _ _ _ _ hr]; rfl, by rw [cell_of_row _ _ _ _ _ _ hr]; rfl⟩)
            clear hX7 hk7 hr7 hz7 hk7o hg1 x0 x1 x2 x3 x4 x5 x6 x7 q1
            refine wp_region_any (by kernel_rfl) ?_
            refine wpAny_of_held (S := fun X : World => X.cell? ⟨b, o + n * 8, none⟩ = some (.int .i64 cmd.kind) ∧ X.cell? ⟨b, o + n * 8 + 1, none⟩ = some (.int .i64 cmd.flow) ∧ X.cell? ⟨b, o + n * 8 + 2, none⟩ = some (.int .i64 cmd.att) ∧ X.cell? ⟨b, o + n * 8 + 3, none⟩ = some (.int .i64 cmd.num) ∧ X.cell? ⟨b, o + n * 8 + 4, none⟩ = some (.int .i64 cmd.wk) ∧ X.cell? ⟨b, o + n * 8 + 5, none⟩ = some (.int .i64 cmd.rd) ∧ X.cell? ⟨b, o + n * 8 + 6, none⟩ = some (.int .i64 cmd.kp) ∧ X.cell? ⟨b, o + n * 8 + 7, none⟩ = some (.slice vA cmd.parts.length vc) ∧ X.cell? ⟨w6.heap.size, 0, none⟩ = some (.int .i64 cmd.kind) ∧ X.cell? ⟨w6.heap.size, 1, none⟩ = some (.int .i64 cmd.flow) ∧ X.cell? ⟨w6.heap.size, 2, none⟩ = some (.int .i64 cmd.att) ∧ X.cell? ⟨w6.heap.size, 3, none⟩ = some (.int .i64 cmd.num) ∧ X.cell? ⟨w6.heap.size, 4, none⟩ = some (.int .i64 cmd.wk) ∧ X.cell? ⟨w6.heap.size, 5, none⟩ = some (.int .i64 cmd.rd) ∧ X.cell? ⟨w6.heap.size, 6, none⟩ = some (.int .i64 cmd.kp) ∧ X.cell? ⟨w6.heap.size, 7, none⟩ = some (.slice Ap cmd.parts.length cp)) _ _ _ _ ?_
            have hS0 : (fun X : World => X.cell? ⟨b, o + n * 8, none⟩ = some (.int .i64 cmd.kind) ∧ X.cell? ⟨b, o + n * 8 + 1, none⟩ = some (.int .i64 cmd.flow) ∧ X.cell? ⟨b, o + n * 8 + 2, none⟩ = some (.int .i64 cmd.att) ∧ X.cell? ⟨b, o + n * 8 + 3, none⟩ = some (.int .i64 cmd.num) ∧ X.cell? ⟨b, o + n * 8 + 4, none⟩ = some (.int .i64 cmd.wk) ∧ X.cell? ⟨b, o + n * 8 + 5, none⟩ = some (.int .i64 cmd.rd) ∧ X.cell? ⟨b, o + n * 8 + 6, none⟩ = some (.int .i64 cmd.kp) ∧ X.cell? ⟨b, o + n * 8 + 7, none⟩ = some (.slice vA cmd.parts.length vc) ∧ X.cell? ⟨w6.heap.size, 0, none⟩ = some (.int .i64 cmd.kind) ∧ X.cell? ⟨w6.heap.size, 1, none⟩ = some (.int .i64 cmd.flow) ∧ X.cell? ⟨w6.heap.size, 2, none⟩ = some (.int .i64 cmd.att) ∧ X.cell? ⟨w6.heap.size, 3, none⟩ = some (.int .i64 cmd.num) ∧ X.cell? ⟨w6.heap.size, 4, none⟩ = some (.int .i64 cmd.wk) ∧ X.cell? ⟨w6.heap.size, 5, none⟩ = some (.int .i64 cmd.rd) ∧ X.cell? ⟨w6.heap.size, 6, none⟩ = some (.int .i64 cmd.kp) ∧ X.cell? ⟨w6.heap.size, 7, none⟩ = some (.slice Ap cmd.parts.length cp)) X7.drew := HXC.out _ (go HBW.out HK7.out) rfl
            refine wpAnyH_take (i := 0) (v := ?_) rfl (by kernel_rfl) (by kernel_rfl) (by kernel_rfl) (fun _ _ _ h => h) (Or.inl ⟨by rfl, ?_⟩) hS0 ?_
            rotate_left
            · intro w hSw; (try dsimp only at hSw); go_simp; (first | done | with_reducible rfl)
            simp only [Act.put, List.getElem_toArray, List.getElem_cons_zero, List.setIfInBounds_toArray, List.set_cons_zero, List.set_cons_succ]
            refine wpAnyH_take (i := 1) (v := ?_) rfl (by kernel_rfl) (by kernel_rfl) (by kernel_rfl) (fun _ _ _ h => h) (Or.inl ⟨by rfl, ?_⟩) hS0 ?_
            rotate_left
            · intro w hSw; (try dsimp only at hSw); go_simp; (first | done | with_reducible rfl)
            simp only [Act.put, List.getElem_toArray, List.getElem_cons_zero, List.getElem_cons_succ, List.setIfInBounds_toArray, List.set_cons_zero, List.set_cons_succ]
            refine wpAnyH_take (i := 2) (v := ?_) rfl (by kernel_rfl) (by kernel_rfl) (by kernel_rfl) (fun _ _ _ h => h) (Or.inl ⟨by rfl, ?_⟩) hS0 ?_
            rotate_left
            · intro w hSw; (try dsimp only at hSw); go_simp; (first | done | with_reducible rfl)
            simp only [Act.put, List.getElem_toArray, List.getElem_cons_zero, List.getElem_cons_succ, List.setIfInBounds_toArray, List.set_cons_zero, List.set_cons_succ]
            refine wpAnyH_take (i := 3) (v := ?_) rfl (by kernel_rfl) (by kernel_rfl) (by kernel_rfl) (fun _ _ _ h => h) (Or.inl ⟨by rfl, ?_⟩) hS0 ?_
            rotate_left
            · intro w hSw; (try dsimp only at hSw); go_simp; (first | done | with_reducible rfl)
            simp only [Act.put, List.getElem_toArray, List.getElem_cons_zero, List.getElem_cons_succ, List.setIfInBounds_toArray, List.set_cons_zero, List.set_cons_succ]
            refine wpAnyH_take (i := 4) (v := ?_) rfl (by kernel_rfl) (by kernel_rfl) (by kernel_rfl) (fun _ _ _ h => h) (Or.inl ⟨by rfl, ?_⟩) hS0 ?_
            rotate_left
            · intro w hSw; (try dsimp only at hSw); go_simp; (first | done | with_reducible rfl)
            simp only [Act.put, List.getElem_toArray, List.getElem_cons_zero, List.getElem_cons_succ, List.setIfInBounds_toArray, List.set_cons_zero, List.set_cons_succ]
            refine wpAnyH_take (i := 5) (v := ?_) rfl (by kernel_rfl) (by kernel_rfl) (by kernel_rfl) (fun _ _ _ h => h) (Or.inl ⟨by rfl, ?_⟩) hS0 ?_
            rotate_left
            · intro w hSw; (try dsimp only at hSw); go_simp; (first | done | with_reducible rfl)
            simp only [Act.put, List.getElem_toArray, List.getElem_cons_zero, List.getElem_cons_succ, List.setIfInBounds_toArray, List.set_cons_zero, List.set_cons_succ]
            refine wpAnyH_take (i := 6) (v := ?_) rfl (by kernel_rfl) (by kernel_rfl) (by kernel_rfl) (fun _ _ _ h => h) (Or.inl ⟨by rfl, ?_⟩) hS0 ?_
            rotate_left
            · intro w hSw; (try dsimp only at hSw); go_simp; (first | done | with_reducible rfl)
            simp only [Act.put, List.getElem_toArray, List.getElem_cons_zero, List.getElem_cons_succ, List.setIfInBounds_toArray, List.set_cons_zero, List.set_cons_succ]
            refine wpAnyH_take (i := 7) (v := ?_) rfl (by kernel_rfl) (by kernel_rfl) (by kernel_rfl) (fun _ _ _ h => h) (Or.inl ⟨by rfl, ?_⟩) hS0 ?_
            rotate_left
            · intro w hSw; (try dsimp only at hSw); go_simp; (first | done | with_reducible rfl)
            simp only [Act.put, List.getElem_toArray, List.getElem_cons_zero, List.getElem_cons_succ, List.setIfInBounds_toArray, List.set_cons_zero, List.set_cons_succ]
            refine wpAnyH_take (i := 8) (v := ?_) rfl (by kernel_rfl) (by kernel_rfl) (by kernel_rfl) (fun _ _ _ h => h) (Or.inl ⟨by rfl, ?_⟩) hS0 ?_
            rotate_left
            · intro w hSw; (try dsimp only at hSw); go_simp; (first | done | with_reducible rfl)
            simp only [Act.put, List.getElem_toArray, List.getElem_cons_zero, List.getElem_cons_succ, List.setIfInBounds_toArray, List.set_cons_zero, List.set_cons_succ]
            refine wpAnyH_take (i := 9) (v := ?_) rfl (by kernel_rfl) (by kernel_rfl) (by kernel_rfl) (fun _ _ _ h => h) (Or.inl ⟨by rfl, ?_⟩) hS0 ?_
            rotate_left
            · intro w hSw; (try dsimp only at hSw); go_simp; (first | done | with_reducible rfl)
            simp only [Act.put, List.getElem_toArray, List.getElem_cons_zero, List.getElem_cons_succ, List.setIfInBounds_toArray, List.set_cons_zero, List.set_cons_succ]
            refine wpAnyH_take (i := 10) (v := ?_) rfl (by kernel_rfl) (by kernel_rfl) (by kernel_rfl) (fun _ _ _ h => h) (Or.inl ⟨by rfl, ?_⟩) hS0 ?_
            rotate_left
            · intro w hSw; (try dsimp only at hSw); go_simp; (first | done | with_reducible rfl)
            simp only [Act.put, List.getElem_toArray, List.getElem_cons_zero, List.getElem_cons_succ, List.setIfInBounds_toArray, List.set_cons_zero, List.set_cons_succ]
            refine wpAnyH_take (i := 11) (v := ?_) rfl (by kernel_rfl) (by kernel_rfl) (by kernel_rfl) (fun _ _ _ h => h) (Or.inl ⟨by rfl, ?_⟩) hS0 ?_
            rotate_left
            · intro w hSw; (try dsimp only at hSw); go_simp; (first | done | with_reducible rfl)
            simp only [Act.put, List.getElem_toArray, List.getElem_cons_zero, List.getElem_cons_succ, List.setIfInBounds_toArray, List.set_cons_zero, List.set_cons_succ]
            refine wpAnyH_take (i := 13) (v := ?_) rfl (by kernel_rfl) (by kernel_rfl) (by kernel_rfl) (fun _ _ _ h => h) (Or.inl ⟨by rfl, ?_⟩) hS0 ?_
            rotate_left
            · intro w hSw; (try dsimp only at hSw); go_simp; (first | done | with_reducible rfl)
            simp only [Act.put, List.getElem_toArray, List.getElem_cons_zero, List.getElem_cons_succ, List.setIfInBounds_toArray, List.set_cons_zero, List.set_cons_succ]
            refine wpAnyH_take (i := 14) (v := ?_) rfl (by kernel_rfl) (by kernel_rfl) (by kernel_rfl) (fun _ _ _ h => h) (Or.inl ⟨by rfl, ?_⟩) hS0 ?_
            rotate_left
            · intro w hSw; (try dsimp only at hSw); go_simp; (first | done | with_reducible rfl)
            simp only [Act.put, List.getElem_toArray, List.getElem_cons_zero, List.getElem_cons_succ, List.setIfInBounds_toArray, List.set_cons_zero, List.set_cons_succ]
            refine wpAnyH_ready (rs := [12]) (by kernel_rfl) (by simp) ?_
            refine AllReadyH.cons rfl (fun K hK => ?_) AllReadyH.nil
            go_simp
            (with_reducible refine HDA.out.mono ?_)
            rintro e w8 ⟨rfl, hT8, hkeep8⟩
            have HK8 := Lib.hid hkeep8
            have HT8 := Lib.hid hT8
            have HDB8 := Lib.hid (HDB.out w8 hT8 hkeep8)
            have hxl := And.intro HK7.out.size (show w6.heap.size < X7.drew.heap.size from by have := HZ7.out; omega)
            have hwl : wo.heap.size ≤ w6.heap.size := HB6.out.size
            clear hT8 hkeep8
            refine hK.out _ _ (HXC.out _ HT8.out.bel (HK8.out _ hwl hxl.2)) (fun hS8 => ?_)
            clear hK K
            try simp only [Act.put, List.setIfInBounds_toArray, List.set_cons_zero, List.set_cons_succ]
            refine wpAnyH_ready (rs := [15]) (by kernel_rfl) (by simp) ?_
            refine AllReadyH.cons rfl (fun K hK => ?_) AllReadyH.nil
            go_simp
            (with_reducible refine HDB8.out.mono ?_)
            rintro e w9 ⟨rfl, hT9, hkeep9⟩
            have HT9 := Lib.hid hT9
            have HK9 := Lib.hid hkeep9
            clear hT9 hkeep9
            refine hK.out _ _ (HXC.out _ HT9.out.bel ((HK9.out _ hwl hxl.2).trans (HK8.out _ hwl hxl.2))) (fun hS9 => ?_)
            clear hK K
            try simp only [Act.put, List.setIfInBounds_toArray, List.set_cons_zero, List.set_cons_succ]
            refine wpAnyH_take (i := 16) (v := ?_) rfl (by kernel_rfl) (by kernel_rfl) (by kernel_rfl) (fun _ _ _ h => h) (Or.inl ⟨by rfl, ?_⟩) hS9 ?_
            rotate_left
            · intro w hSw; (try dsimp only at hSw); go_simp; (first | done | with_reducible rfl)
            simp only [Act.put, List.getElem_toArray, List.getElem_cons_zero, List.getElem_cons_succ, List.setIfInBounds_toArray, List.set_cons_zero, List.set_cons_succ]
            refine wpAnyH_take (i := 17) (v := ?_) rfl (by kernel_rfl) (by kernel_rfl) (by kernel_rfl) (fun _ _ _ h => h) (Or.inl ⟨by rfl, ?_⟩) hS9 ?_
            rotate_left
            · intro w hSw; (try dsimp only at hSw); go_simp; (first | done | with_reducible rfl)
            simp only [Act.put, List.getElem_toArray, List.getElem_cons_zero, List.getElem_cons_succ, List.setIfInBounds_toArray, List.set_cons_zero, List.set_cons_succ]
            try simp only [bne_self_eq_false]
            refine wpAnyH_done (by kernel_rfl) ?_ _
            have hdn := doC_ok cmd HT.out.2.1
            have HC9 := Lib.hid (show Two w1 w9 ca cb (doC c cmd).1 (doC c cmd).1 0 0 ∧ CtOk ((n + 1 : Nat) : Int) (doC c cmd).1 ∧ (doC c cmd).1.jobs.length = fl.length from ⟨HT9.out.symm.off, by have := hdn.ok; simpa using this, by rw [hdn.len]; exact HT.out.2.2⟩)
            have q9 := kc HT9.out.bel HP1.out
            clear hdn hS0 hS8 hS9 HDA HDB HDB8 HXC HT8 HT9 HK8 HK9 hxl hwl HTW HOX HYC HR7 HZ7 HBY HRD
            go_wp2_with fail
            go_loopw [14] (fun iv wr => ∃ i : Nat, i ≤ fl.length ∧ iv = .int .i64 (i : Int) ∧ Hid (Below w9.heap.size w9 wr)) (fun iv _ => fl.length - (RowKit.intOf iv).toNat)
            case atStart => exact ⟨0, Nat.zero_le _, rfl, Lib.hid (Below.refl _ _)⟩
            case round =>
              obtain ⟨i, hi, rfl, HB⟩ := hrel
              have hb := HB.out
              have q10 := kc hb q9
              by_cases hlt2 : i < fl.length
              · have l0 : (i : Int) < (fl.length : Int) := by omega
                obtain ⟨j, hj⟩ : ∃ j, (doC c cmd).1.jobs[i]? = some j := ⟨_, List.getElem?_eq_getElem (by have := HC9.out.2.2; omega)⟩
                have HJA := Lib.hid (fun (X : World) (k : Below wr.heap.size wr X) => aw_jobs (X := X) (HC9.out.1.below (go hb k)).aw HC9.out.2.1 hj)
                have HJB := Lib.hid (fun (X : World) (k : Below wr.heap.size wr X) => aw_jobs (X := X) (HC9.out.1.below (go hb k)).symm.aw HC9.out.2.1 hj)
                have HBO := Lib.hid (hok_len HC9.out.2.1 hj)
                unfold JobOut jobV at HJA HJB
                clear hj hb
                go_wp2_with fail
                (with_reducible refine (HJA.out _ (Below.refl _ _)).mono ?_)
                rintro e w10 ⟨pv, av, rfl, hB10, ho1, ho2⟩
                obtain ⟨Bp, dp, rfl, -, -, -, -⟩ := own_form ho1
                obtain ⟨Ba, da, rfl, -, -, -, -⟩ := own_form ho2
                have HO1 := Lib.hid ho1
                have HO2 := Lib.hid ho2
                have HB10 := Lib.hid hB10
                clear ho1 ho2 hB10
                go_wp2_with fail
                obtain ⟨X1, hX1⟩ : ∃ X1, w10.alloc (.cells #[.int .i64 j.att, .int .i64 j.rd, .int .i64 j.kp, .int .i64 j.done, .int .i64 j.num, .int .i64 j.next, .slice Bp j.places.length dp, .slice Ba j.acked.length da] 55) = X1 := ⟨_, rfl⟩
                have hk1 : Below w10.heap.size w10 X1 := by rw [← hX1]; exact box_below _ _
                have hh1 : X1.heap[w10.heap.size]? = some (.cells #[.int .i64 j.att, .int .i64 j.rd, .int .i64 j.kp, .int .i64 j.done, .int .i64 j.num, .int .i64 j.next, .slice Bp j.places.length dp, .slice Ba j.acked.length da] 55) := by rw [← hX1]; exact heap_new _ _
                rw [hX1]
                have HK1 := Lib.hid hk1
                have HH1 := Lib.hid hh1
                clear hX1 hk1 hh1
                go_wp2_with fail
                (with_reducible refine (HJB.out _ (go HB10.out HK1.out)).mono ?_)
                rintro e w11 ⟨pv, av, rfl, hB11, ho3, ho4⟩
                obtain ⟨Cp, ep, rfl, -, -, -, -⟩ := own_form ho3
                obtain ⟨Ca, ea, rfl, -, -, -, -⟩ := own_form ho4
                have hh11 : w11.heap[w10.heap.size]? = _ := (hB11.block _ (Array.getElem?_eq_some_iff.1 HH1.out).1).trans HH1.out
                have z0 : w11.cell? ⟨w10.heap.size, 0, none⟩ = some (.int .i64 j.att) := by rw [cell_of_row _ _ _ _ _ _ hh11]; rfl
                have z1 : w11.cell? ⟨w10.heap.size, 1, none⟩ = some (.int .i64 j.rd) := by rw [cell_of_row _ _ _ _ _ _ hh11]; rfl
                have z2 : w11.cell? ⟨w10.heap.size, 2, none⟩ = some (.int .i64 j.kp) := by rw [cell_of_row _ _ _ _ _ _ hh11]; rfl
                have z3 : w11.cell? ⟨w10.heap.size, 3, none⟩ = some (.int .i64 j.done) := by rw [cell_of_row _ _ _ _ _ _ hh11]; rfl
                have z4 : w11.cell? ⟨w10.heap.size, 4, none⟩ = some (.int .i64 j.num) := by rw [cell_of_row _ _ _ _ _ _ hh11]; rfl
                have z5 : w11.cell? ⟨w10.heap.size, 5, none⟩ = some (.int .i64 j.next) := by rw [cell_of_row _ _ _ _ _ _ hh11]; rfl
                have z6 : w11.cell? ⟨w10.heap.size, 6, none⟩ = some (.slice Bp j.places.length dp) := by rw [cell_of_row _ _ _ _ _ _ hh11]; rfl
                have z7 : w11.cell? ⟨w10.heap.size, 7, none⟩ = some (.slice Ba j.acked.length da) := by rw [cell_of_row _ _ _ _ _ _ hh11]; rfl
                have hzl := lt_of_cell z0
                have HB11 := Lib.hid hB11
                have HSA := Lib.hid (fun (X : World) (k : Below w11.heap.size w11 X) => same_calls j _ _ _ _ X (own_ints (base := wr.heap.size) (own_kept HO1.out (go (go HK1.out HB11.out) k))) (sliceAt_own' (own_kept HO2.out (go (go HK1.out HB11.out) k))) (own_ints (base := X1.heap.size) (own_kept ho3 k)) (sliceAt_own' (own_kept ho4 k)) HBO.out.1 HBO.out.2)
                unfold jobV at HSA
                clear ho3 ho4 hB11 hh11
                go_wp2_with fail
                (with_reducible refine (HSA.out _ (box_below _ _)).mono ?_)
                rintro e w12 ⟨rfl, hB12⟩
                have HB12 := Lib.hid (go (go (go (go HB10.out HK1.out) HB11.out) (box_below _ _)) hB12)
                clear hB12
                go_wp2_with fail
                refine ⟨⟨i + 1, by omega, by simp, Lib.hid (go HB.out HB12.out)⟩, ?_⟩
                simp only [RowKit.intOf]
                omega
              · obtain rfl : i = fl.length := by omega
                have HCZ := Lib.hid (show Two w1 wr ca cb (doC c cmd).1 (doC c cmd).1 0 0 ∧ CtOk ((n + 1 : Nat) : Int) (doC c cmd).1 ∧ (doC c cmd).1.jobs.length = fl.length from ⟨HC9.out.1.below hb, HC9.out.2⟩)
                go_wp2_with fail
                refine ⟨⟨n + 1, _, by omega, by simp, HCZ⟩, ?_⟩
                simp only [RowKit.intOf]
                omega
        · obtain rfl : n = cl.length := by omega
          have HBW := Lib.hid (go HB1.out hbw)
          clear hbw q1
          go_wp2_with fail
          (with_reducible refine (CA.out _ HBW.out).mono ?_)
          rintro e w3 ⟨rfl, hB3⟩
          go_wp2
          go_ret
          exact ⟨rfl, go HBW.out hB3⟩
end Go.Proofs.YtkjajlolfcioiaaGreatDoor.Control
