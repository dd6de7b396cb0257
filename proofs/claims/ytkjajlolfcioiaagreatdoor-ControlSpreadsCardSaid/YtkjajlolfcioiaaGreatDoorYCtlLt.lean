/- ControlSpreads, walked: true of any plan and commands. -/
import Derived.Test.YtkjajlolfcioiaaGreatDoorYCtlLb
import Derived.Test.YtkjajlolfcioiaaGreatDoorYCtlLw
import Derived.Laws.MakeOwn
namespace Go.Proofs.YtkjajlolfcioiaaGreatDoor.Control
open Go Go.RowKit Go.MapKept Go.Maps Go.Proofs Go.Proofs.YtkjajlolfcioiaaGreatDoor Go.Proofs.YtkjajlolfcioiaaGreatDoor.Expr Go.Proofs.YtkjajlolfcioiaaGreatDoor.Own Go.Proofs.YtkjajlolfcioiaaGreatDoor.Tail Go.Proofs.YtkjajlolfcioiaaGreatDoor.Mp Go.Proofs.YtkjajlolfcioiaaGreatDoor.Ints Go.Proofs.YtkjajlolfcioiaaGreatDoor.Plan Go.Proofs.YtkjajlolfcioiaaGreatDoor.Check Go.Proofs.YtkjajlolfcioiaaGreatDoor.Graph Go.Proofs.YtkjajlolfcioiaaGreatDoor.Ctl Go.Proofs.YtkjajlolfcioiaaGreatDoor.Rw
theorem infoInt : (Tryz.prog.info? 3).map (fun i => (i.zero, i.size, i.bytes)) = some (some (.int .i64 0), 1, 8) := by kernel_rfl
theorem make_ints (n : Nat) (hn : n ≤ 1000) (W : World) : (Instr.makeSlice 30 (.int .i64 (n : Int)) (.int .i64 (n : Int))).run Tryz.prog W = .ok (.slice (some ⟨W.heap.size, 0, none⟩) n n) (W.alloc (.cells (madeCells #[.int .i64 0] n) 3)) := by
  obtain ⟨i0, h1, h2, h3, h4⟩ := info_parts infoInt
  have := run_make (P := Tryz.prog) W 30 3 i0 (.int .i64 0) Tryz.underlying30 h1 h2 .i64 .i64 (n : Int) (n : Int) (by omega) (Int.le_refl _) (by rw [h4]; omega) (by omega)
  rw [this, h3]
  simp [Value.cells]
theorem nums_new (n : Nat) : ((List.replicate n (0 : Int)).map (Value.int .i64)).toArray = madeCells #[.int .i64 0] n := by
  unfold madeCells
  apply Array.ext
  · simp
  · intro i h1 h2
    simp [Nat.mod_one]
theorem was_new (tops : List Top) (fl : List FlwV) : WasOk (newC tops (fl.map (·.f))) (List.replicate fl.length 0) := by
  refine ⟨by simp [newC], fun q x a hx ha => .inl ?_⟩
  rw [List.getElem?_replicate] at hx
  split at hx
  · cases hx
    unfold newC at ha
    rw [List.getElem?_map] at ha
    obtain ⟨f, -, rfl⟩ := Option.map_eq_some_iff.1 ha
    rfl
  · cases hx
set_option maxHeartbeats 8000000 in
set_option maxRecDepth 100000 in
theorem lawSpreads_calls (tops : List Top) (fl : List FlwV) (cl : List CmdV) (tv fv cv : Value) (w : World) (hP : PlanAt w tv fv tops fl) (hS : SmallFlows fl) (hC : SliceAt w cv cl.length (cl.flatMap cmdvCells)) (hp : ∀ x ∈ cl, PartsAt w x.v x.c.parts) (hT : Tab w) (hg : 5 < w.heap.size) :
    Calls Tryz.prog 9 #[.agg #[tv, fv], cv] w (AwakePost w) := by
  have CS := Lib.hid (fun (X : World) (k : Below w.heap.size w X) => small_calls tops fl cl tv fv cv X (hP.below k) (hC.below k) (fun x hx => (hp x hx).below k))
  have CN := Lib.hid (fun (X : World) (k : Below w.heap.size w X) (hm : Small tops fl cl) => new_got tops fl cl tv fv X (hP.below k) hS (hT.below k) (Nat.lt_of_lt_of_le hg k.size) hm)
  have CA := Lib.hid (fun (X : World) (k : Below w.heap.size w X) => awake_calls X (hT.below k) (Nat.lt_of_lt_of_le hg k.size))
  obtain ⟨A1, c1, rfl, hc1, -⟩ := hP.tops
  obtain ⟨A2, c2, rfl, hc2, -⟩ := hP.flows
  obtain ⟨A3, c3, rfl, hc3, r3⟩ := hC
  have HCl := Lib.hid r3
  have HPa := Lib.hid hp
  have HG := Lib.hid hg
  clear hP hS hT hg r3 hp
  go_enter Tryz.func9, Tryz.ntmps9
  go_wp2_with fail
  (with_reducible refine (CS.out _ (box_below _ _)).mono ?_)
  rintro e w1 ⟨b, rfl, hb, hB1⟩
  have p0 := kc hB1 (cell_new (X := w) (g := w.heap.size) (cs := #[.slice A1 tops.length c1, .slice A2 fl.length c2]) (T := 25) (j := 0) rfl rfl)
  have p1 := kc hB1 (cell_new (X := w) (g := w.heap.size) (cs := #[.slice A1 tops.length c1, .slice A2 fl.length c2]) (T := 25) (j := 1) rfl rfl)
  have HB1 := Lib.hid (go (box_below _ _) hB1)
  clear hB1
  cases b with
  | false =>
    clear hb
    go_wp2
    go_ret
    exact ⟨rfl, HB1.out⟩
  | true =>
    have hm := hb rfl
    have HM := Lib.hid hm
    have hfl := hm.flows
    have hcl := hm.cmds
    clear hb hm
    go_wp2_with fail
    (with_reducible refine (CN.out _ HB1.out HM.out).mono ?_)
    rintro e w2 (⟨E, hE, rfl, hB2⟩ | ⟨cb, rfl, hA2, hok2⟩)
    · have e0 : (E == 0) = false := by simpa using hE
      have e1 : (E != 0) = true := by simpa using hE
      have HB2 := Lib.hid (go HB1.out hB2)
      clear hE hB2
      go_wp2_with (go_at_call 32; (with_reducible refine (CA.out _ HB2.out).mono ?_); rintro e w3 ⟨rfl, hB3⟩)
      go_ret
      exact ⟨rfl, go HB2.out hB3⟩
    · have q1 := kc hA2.bel p1
      have HA2 := Lib.hid hA2
      have hok2' : CtOk ((0 : Nat) : Int) (newC tops (fl.map (·.f))) := hok2
      have HOK2 := Lib.hid hok2'
      have HP1 := Lib.hid p1
      have hmk := make_ints fl.length (by omega)
      clear p0 p1 hA2 hok2 hok2'
      go_wp2_with fail
      clear hmk
      obtain ⟨X2, hX2⟩ : ∃ X2, w2.alloc (.cells (madeCells #[.int .i64 0] fl.length) 3) = X2 := ⟨_, rfl⟩
      have HA0 := Lib.hid (show AwP w1 X2 cb (newC tops (fl.map (·.f))) w2.heap.size ∧ CtOk ((0 : Nat) : Int) (newC tops (fl.map (·.f))) ∧ (newC tops (fl.map (·.f))).jobs.length = fl.length ∧ NumsAt X2 w2.heap.size 3 (List.replicate fl.length 0) ∧ WasOk (newC tops (fl.map (·.f))) (List.replicate fl.length 0) ∧ w2.heap.size < X2.heap.size from by
        rw [← hX2]
        refine ⟨HA2.out.beside _, HOK2.out, by simp [newC], ?_, was_new tops fl, by simp⟩
        unfold NumsAt
        rw [nums_new]
        exact heap_new _ _)
      have HSB := Lib.hid HA2.out.bel.size
      rw [hX2]
      clear hX2 HA2 HOK2
      go_loopw [8] (fun iv wr => ∃ (n : Nat) (c : Ct) (l : List Int), n ≤ cl.length ∧ iv = .int .i64 (n : Int) ∧ Hid (AwP w1 wr cb c w2.heap.size ∧ CtOk (n : Int) c ∧ c.jobs.length = fl.length ∧ NumsAt wr w2.heap.size 3 l ∧ WasOk c l ∧ w2.heap.size < wr.heap.size)) (fun iv _ => cl.length - (RowKit.intOf iv).toNat)
      case atStart => exact ⟨0, _, _, Nat.zero_le _, rfl, HA0⟩
      case round =>
        clear HA0 q1
        obtain ⟨n, c, l, hn, rfl, HA⟩ := hrel
        have hbw := HA.out.1.aw.bel
        have q1 := kc hbw HP1.out
        by_cases hlt : n < cl.length
        · have l0 : (n : Int) < (cl.length : Int) := by omega
          obtain ⟨b, o, e, hrow⟩ := HCl.out (by omega)
          subst e
          obtain ⟨⟨cmd, v⟩, hx⟩ : ∃ x, cl[n]? = some x := ⟨_, List.getElem?_eq_getElem hlt⟩
          have hxm := List.mem_of_getElem? hx
          obtain ⟨vA, vc, ev, -, -⟩ := HPa.out _ hxm
          dsimp only at ev
          subst ev
          have HPT := Lib.hid (show PartsAt w1 (.slice vA cmd.parts.length vc) cmd.parts from SliceAt.below (HPa.out _ hxm) HB1.out)
          have HPL := Lib.hid (show cmd.parts.length ≤ 1000 from by have := HM.out.parts _ hxm; dsimp only at this; omega)
          have hww := go HB1.out hbw
          have x0 : wr.cell? ⟨b, o + n * 8, none⟩ = some (.int .i64 cmd.kind) := kc hww (hrow (n * 8 + 0) _ (flat_get cmdvCells 8 (fun _ => rfl) _ n 0 _ hx (by decide)))
          have x1 : wr.cell? ⟨b, o + n * 8 + 1, none⟩ = some (.int .i64 cmd.flow) := kc hww (hrow (n * 8 + 1) _ (flat_get cmdvCells 8 (fun _ => rfl) _ n 1 _ hx (by decide)))
          have x2 : wr.cell? ⟨b, o + n * 8 + 2, none⟩ = some (.int .i64 cmd.att) := kc hww (hrow (n * 8 + 2) _ (flat_get cmdvCells 8 (fun _ => rfl) _ n 2 _ hx (by decide)))
          have x3 : wr.cell? ⟨b, o + n * 8 + 3, none⟩ = some (.int .i64 cmd.num) := kc hww (hrow (n * 8 + 3) _ (flat_get cmdvCells 8 (fun _ => rfl) _ n 3 _ hx (by decide)))
          have x4 : wr.cell? ⟨b, o + n * 8 + 4, none⟩ = some (.int .i64 cmd.wk) := kc hww (hrow (n * 8 + 4) _ (flat_get cmdvCells 8 (fun _ => rfl) _ n 4 _ hx (by decide)))
          have x5 : wr.cell? ⟨b, o + n * 8 + 5, none⟩ = some (.int .i64 cmd.rd) := kc hww (hrow (n * 8 + 5) _ (flat_get cmdvCells 8 (fun _ => rfl) _ n 5 _ hx (by decide)))
          have x6 : wr.cell? ⟨b, o + n * 8 + 6, none⟩ = some (.int .i64 cmd.kp) := kc hww (hrow (n * 8 + 6) _ (flat_get cmdvCells 8 (fun _ => rfl) _ n 6 _ hx (by decide)))
          have x7 : wr.cell? ⟨b, o + n * 8 + 7, none⟩ = some (.slice vA cmd.parts.length vc) := kc hww (hrow (n * 8 + 7) _ (flat_get cmdvCells 8 (fun _ => rfl) _ n 7 _ hx (by decide)))
          have hbl := lt_of_cell x0
          have HX := Lib.hid hx
          have HBW := Lib.hid hbw
          obtain ⟨R, hR⟩ : ∃ R, doC c cmd = R := ⟨_, rfl⟩
          have HDO := Lib.hid (show Calls Tryz.prog 34 #[.pointer (some ⟨cb, 0, none⟩), .agg #[.int .i64 cmd.kind, .int .i64 cmd.flow, .int .i64 cmd.att, .int .i64 cmd.num, .int .i64 cmd.wk, .int .i64 cmd.rd, .int .i64 cmd.kp, .slice vA cmd.parts.length vc]] wr (AwDoneP w1 wr cb w2.heap.size R) from by rw [← hR]; exact aw_doneP HA.out.1 (Below.refl _ _) HA.out.2.2.2.2.2 HA.out.2.1 (by have := hlt; omega) cmd (.slice vA cmd.parts.length vc) HPT.out HPL.out)
          have hdn := doC_ok cmd HA.out.2.1
          have HWB := Lib.hid (fun (k : Nat) (l : List Int) (x : Int) (j : Jb) (hm : WasMix c R.1 k l) (hx : l[k]? = some x) (hj : R.1.jobs[k]? = some j) (h1 : ¬ j.att = x) (h2 : j.places ≠ []) => (by subst hR; exact WasMix.begun hm HA.out.2.1 hx hj h1 h2 : 0 ≤ j.att ∧ j.places = placesOf (liveL R.1.lives) j.att (j.rd + j.kp)))
          rw [hR] at hdn
          have HOKR := Lib.hid (show CtOk ((n + 1 : Nat) : Int) R.1 ∧ R.1.jobs.length = fl.length from ⟨by have := hdn.ok; simpa using this, by rw [hdn.len]; exact HA.out.2.2.1⟩)
          have HLN := Lib.hid hdn.len
          clear hrow hx hxm hbw hww hR hdn
          go_wp2_with fail
          (with_reducible refine HDO.out.mono ?_)
          rintro e w6 ⟨rfl, hA6, hsb6⟩
          have HA6 := Lib.hid hA6
          have HN6 := Lib.hid (HA.out.2.2.2.1.block hsb6)
          have HLV := Lib.hid (aw_liveO hA6.aw HOKR.out.1)
          unfold LivePost at HLV
          clear hA6 hsb6 x0 x1 x2 x3 x4 x5 x6 x7 hbl q1 HDO
          go_wp2_with fail
          (with_reducible refine HLV.out.mono ?_)
          rintro e wv ⟨lvv, rfl, hol, hBl⟩
          obtain ⟨Al, cl2, rfl, -, -, -, -⟩ := own_form hol
          have HOL := Lib.hid hol
          have HZ6 := Lib.hid (show w2.heap.size < w6.heap.size from HN6.out.lt)
          have HK0 := Lib.hid (show AwP w1 wv cb R.1 w2.heap.size ∧ NumsAt wv w2.heap.size 3 l ∧ WasMix c R.1 0 l ∧ Kp (fun i => i = w2.heap.size) wv wv from ⟨HA6.out.below hBl, HN6.out.below hBl, HA.out.2.2.2.2.1.mix HLN.out, Kp.refl _ _⟩)
          have q6 := kc HK0.out.1.aw.bel HP1.out
          have HZV := Lib.hid (show w6.heap.size ≤ wv.heap.size from hBl.size)
          clear hol hBl HLV
          go_wp2_with fail
          go_loopw [10] (fun iv wr3 => ∃ (k : Nat) (l : List Int), k ≤ fl.length ∧ iv = .int .i64 (k : Int) ∧ Hid (AwP w1 wr3 cb R.1 w2.heap.size ∧ NumsAt wr3 w2.heap.size 3 l ∧ WasMix c R.1 k l ∧ Kp (fun i => i = w2.heap.size) wv wr3)) (fun iv _ => fl.length - (RowKit.intOf iv).toNat)
          case atStart => exact ⟨0, _, Nat.zero_le _, rfl, HK0⟩
          case round =>
            clear HK0 q6
            obtain ⟨wk, rfl⟩ : ∃ wk, wk = wr := ⟨wr, rfl⟩
            obtain ⟨k, l, hk3, rfl, HB⟩ := hrel
            have q7 := kc HB.out.1.aw.bel HP1.out
            by_cases hlt3 : k < fl.length
            · have l0 : (k : Int) < (fl.length : Int) := by omega
              obtain ⟨j, hj⟩ : ∃ j, R.1.jobs[k]? = some j := ⟨_, List.getElem?_eq_getElem (by have := HOKR.out.2; omega)⟩
              obtain ⟨x, hx⟩ : ∃ x, l[k]? = some x := ⟨_, List.getElem?_eq_getElem (by have := HB.out.2.2.1.len; have := HOKR.out.2; omega)⟩
              have sx0 := HB.out.2.1.cell hx
              have HJC := Lib.hid (aw_jobs (X := wk) HB.out.1.aw HOKR.out.1 hj)
              unfold JobOut jobV at HJC
              have hjo := HOKR.out.1.jobs j (List.mem_of_getElem? hj)
              have HJO := Lib.hid hjo
              have HKE := Lib.hid (fun (e : x = j.att ∨ j.places = []) => HB.out.2.2.1.keep hx hj e)
              have HSE := Lib.hid (HB.out.2.2.1.set hj)
              have HBE := Lib.hid (HWB.out k l x j HB.out.2.2.1 hx hj)
              clear hj hx hjo
              go_wp2_with fail
              (with_reducible refine HJC.out.mono ?_)
              rintro e w7 ⟨pv, av, rfl, hB7, ho1, ho2⟩
              obtain ⟨Bp, dp, rfl, -, -, -, -⟩ := own_form ho1
              obtain ⟨Ba, da, rfl, -, -, -, -⟩ := own_form ho2
              have sx7 := kc hB7 sx0
              have rq := kc hB7 q7
              have hsl := lt_of_cell sx7
              have HO1 := Lib.hid ho1
              have HB7 := Lib.hid hB7
              clear q7 sx0 ho1 ho2 hB7 HJC
              have hkc : ∀ (q : Nat) (u : Value), (#[.int .i64 j.att, .int .i64 j.rd, .int .i64 j.kp, .int .i64 j.done, .int .i64 j.num, .int .i64 j.next, .slice Bp j.places.length dp, .slice Ba j.acked.length da] : Array Value)[q]? = some u → (w7.alloc (.cells #[.int .i64 j.att, .int .i64 j.rd, .int .i64 j.kp, .int .i64 j.done, .int .i64 j.num, .int .i64 j.next, .slice Bp j.places.length dp, .slice Ba j.acked.length da] 55)).cell? ⟨w7.heap.size, q, none⟩ = some u := fun q u hq => cell_new rfl hq
              go_wp2_with fail
              obtain ⟨X7, hX7⟩ : ∃ X7, w7.alloc (.cells #[.int .i64 j.att, .int .i64 j.rd, .int .i64 j.kp, .int .i64 j.done, .int .i64 j.num, .int .i64 j.next, .slice Bp j.places.length dp, .slice Ba j.acked.length da] 55) = X7 := ⟨_, rfl⟩
              have hk7 : Below w7.heap.size w7 X7 := by rw [← hX7]; exact box_below _ _
              rw [hX7] at hkc ⊢
              have sx := kc hk7 sx7
              have v0 : X7.cell? ⟨w7.heap.size, 0, none⟩ = some (.int .i64 j.att) := hkc 0 _ rfl
              have v6 : X7.cell? ⟨w7.heap.size, 6, none⟩ = some (.slice Bp j.places.length dp) := hkc 6 _ rfl
              have HBB := Lib.hid (show Below wk.heap.size wk X7 from go HB7.out hk7)
              have HX7 := Lib.hid hk7
              have hlx : w7.heap.size < X7.heap.size := lt_of_cell v0
              clear hX7 hk7 hkc sx7 rq
              by_cases hat : j.att = x
              · have ta : (j.att == x) = true := by simpa using hat
                have HAT := Lib.hid hat
                clear hat
                go_quiet (fail)
                go_wp2_with fail
                refine ⟨⟨k + 1, _, by omega, by simp, Lib.hid ⟨HB.out.1.below (bdrewN HBB.out _), HB.out.2.1.below (bdrewN HBB.out _), (HKE.out (.inl HAT.out.symm)), HB.out.2.2.2.then (Kp.of_below (bdrewN HBB.out _))⟩⟩, ?_⟩
                simp only [RowKit.intOf]
                omega
              · have ta : (j.att == x) = false := by simpa using hat
                have HAT := Lib.hid hat
                clear hat
                by_cases hpe : j.places = []
                · have tp0 : j.places.length = 0 := by rw [hpe]; rfl
                  have HPE := Lib.hid hpe
                  rw [tp0] at v6
                  clear hpe tp0
                  go_quiet (fail)
                  go_wp2_with fail
                  refine ⟨⟨k + 1, _, by omega, by simp, Lib.hid ⟨HB.out.1.below (bdrewN HBB.out _), HB.out.2.1.below (bdrewN HBB.out _), (HKE.out (.inr HPE.out)), HB.out.2.2.2.then (Kp.of_below (bdrewN HBB.out _))⟩⟩, ?_⟩
                  simp only [RowKit.intOf]
                  omega
                · have tl0 : (j.places.length == 0) = false := by simpa using hpe
                  have tl1 : decide (j.places.length = 0) = false := by simpa using hpe
                  have tl2 : ((j.places.length : Int) == 0) = false := by simpa using hpe
                  have HPN := Lib.hid hpe
                  have HBG := Lib.hid (HBE.out HAT.out hpe)
                  clear hpe
                  go_quiet (fail)
                  have sf : X7.frozen? ⟨w2.heap.size, k, none⟩ = false := HB.out.2.1.below HBB.out |>.frozen k
                  go_wp2_with fail
                  obtain ⟨W8, hW8⟩ : ∃ W8, (X7.drewN nq).setCell ⟨w2.heap.size, k, none⟩ (.int .i64 j.att) = W8 := ⟨_, rfl⟩
                  have HA8 := Lib.hid (show AwP w1 W8 cb R.1 w2.heap.size from by rw [← hW8]; exact (HB.out.1.below (bdrewN HBB.out _)).set HSB.out (Nat.lt_of_lt_of_le HG.out HB1.out.size) k _)
                  have HN8 := Lib.hid (show NumsAt W8 w2.heap.size 3 (l.set k j.att) from by rw [← hW8]; exact (HB.out.2.1.below (bdrewN HBB.out _)).set k j.att)
                  have hwk : w2.heap.size < wk.heap.size := HB.out.2.1.lt
                  have HK8 := Lib.hid (show Kp (fun i => i = w2.heap.size) wv W8 from by rw [← hW8]; exact (HB.out.2.2.2.then (Kp.of_below (bdrewN HBB.out _))).then (Kp.set _ _ rfl))
                  have HPL8 := Lib.hid (show W8.ownsRow wk.heap.size 3 1 (.slice Bp j.places.length dp) j.places.length (j.places.map (Value.int .i64)) from by rw [← hW8]; exact own_put (own_kept HO1.out (bdrewN HX7.out _)) _ hwk)
                  have v8 : W8.cell? ⟨w7.heap.size, 6, none⟩ = some (.slice Bp j.places.length dp) := by rw [← hW8]; exact (World.cell?_setCell_other _ _ _ _ (by have := HB7.out.size; simp <;> omega)).trans v6
                  have HZ8 := Lib.hid (show W8.heap.size = X7.heap.size from by rw [← hW8]; simp [World.setCell])
                  rw [hW8]
                  have hlv8 := lt_of_cell v8
                  obtain ⟨W9, hW9⟩ : ∃ W9, W8.alloc (.cells #[.int .i64 0, .int .i64 0, .int .i64 0, .int .i64 0, .int .i64 0, .int .i64 0, .int .i64 0] 77) = W9 := ⟨_, rfl⟩
                  have hk9 : Below W8.heap.size W8 W9 := by rw [← hW9]; exact box_below _ _
                  have HC0 := Lib.hid (show NumsAt W9 X7.heap.size 77 (cnt7 (j.places.take 0)) ∧ Below W8.heap.size W8 W9 from ⟨by rw [← hW9]; unfold NumsAt; rw [List.take_zero, cnt7_nil, ← HZ8.out]; exact heap_new _ _, hk9⟩)
                  rw [hW9]
                  clear hW8 hW9 hk9 v0 v6 sx sf tl0 tl1 tl2 ta
                  have hpl16 : j.places.length ≤ 16 := by
                    have := HJO.out.1
                    rcases this.len with e | e
                    · rw [e]; simp
                    · have h1 := this.rd; have h2 := this.kp; omega
                  have hlin : ∀ p ∈ j.places, 1 ≤ p ∧ p ≤ 6 := fun p hp => (liveL_mem.1 (HJO.out.2.1 p hp)).1
                  have HLI := Lib.hid hlin
                  clear hlin
                  go_loopw [14] (fun iv wr4 => ∃ m : Nat, m ≤ j.places.length ∧ iv = .int .i64 (m : Int) ∧ Hid (NumsAt wr4 X7.heap.size 77 (cnt7 (j.places.take m)) ∧ Below W8.heap.size W8 wr4)) (fun iv _ => j.places.length - (RowKit.intOf iv).toNat)
                  case atStart => exact ⟨0, Nat.zero_le _, rfl, HC0⟩
                  case round =>
                    clear HC0
                    obtain ⟨m, hm, rfl, HC⟩ := hrel
                    have v9 := kc HC.out.2 v8
                    by_cases hlt4 : m < j.places.length
                    · have l0 : (m : Int) < (j.places.length : Int) := by omega
                      obtain ⟨p, hp⟩ : ∃ p, j.places[m]? = some p := ⟨_, List.getElem?_eq_getElem hlt4⟩
                      obtain ⟨hp1, hp6⟩ := HLI.out p (List.mem_of_getElem? hp)
                      obtain ⟨A, c', e, -, hr⟩ := own_ints (base := wk.heap.size) (own_kept HPL8.out HC.out.2)
                      obtain ⟨b2, o2, eb, hrow2⟩ := hr (by omega)
                      rw [eb] at e
                      obtain rfl : Bp = some ⟨b2, o2, none⟩ := (Value.slice.inj e).1
                      have d := hrow2 m (.int .i64 p) (by rw [List.getElem?_map, hp]; rfl)
                      have hcn := HC.out.1.cell (cnt7_at (j.places.take m) (by omega) hp6)
                      have hcf := HC.out.1.frozen p.toNat
                      have hcs := cnt7_step (j.places.take m) (by omega : 0 ≤ p) hp6
                      have hcl : (j.places.take m).count p ≤ 16 := Nat.le_trans List.count_le_length (by rw [List.length_take]; omega)
                      generalize (j.places.take m).count p = ct at hcn hcs hcl
                      have HTK := Lib.hid (show j.places.take m ++ [p] = j.places.take (m + 1) from by rw [List.take_add_one, hp]; rfl)
                      obtain ⟨pn, rfl⟩ : ∃ pn : Nat, p = (pn : Int) := ⟨p.toNat, by omega⟩
                      rw [Int.toNat_natCast] at hcn hcf hcs
                      have hpn1 : 1 ≤ pn := by omega
                      have hpn6 : pn ≤ 6 := by omega
                      have t1 : decide ((pn : Int) < 1) = false := decide_eq_false (by omega)
                      have t6 : decide (6 < (pn : Int)) = false := decide_eq_false (by omega)
                      have t1n : decide (pn < 1) = false := decide_eq_false (by omega)
                      have t6n : decide (6 < pn) = false := decide_eq_false (by omega)
                      have hb7 : (pn : Int) < 7 := by omega
                      have HCS := Lib.hid hcs
                      clear hp hr e eb hrow2 hcs hp1 hp6
                      go_wp2_with fail
                      refine ⟨⟨m + 1, by omega, by simp, Lib.hid ⟨?_, HC.out.2.setCell (p := ⟨X7.heap.size, pn, none⟩) (by have := HZ8.out; simp; omega) _⟩⟩, ?_⟩
                      · rw [← HTK.out, ← HCS.out]
                        exact HC.out.1.set pn _
                      · simp only [RowKit.intOf]
                        omega
                    · obtain rfl : m = j.places.length := by omega
                      have hct := HC.out.1
                      rw [List.take_length] at hct
                      have HCT := Lib.hid hct
                      have hcb : ∀ u : Int, j.places.count u ≤ 16 := fun u => Nat.le_trans List.count_le_length hpl16
                      have HCB := Lib.hid hcb
                      have HIL := Lib.hid (own_ints (base := w6.heap.size) (own_kept (own_kp HOL.out HK8.out (fun g cur _ hb e => by have := HZ6.out; have e : g = w2.heap.size := e; omega)) HC.out.2))
                      have hLne : liveL R.1.lives ≠ [] := fun e => HPN.out (HJO.out.2.2.2 (.inr e))
                      have HLN2 := Lib.hid hLne
                      have HLL := Lib.hid (show (liveL R.1.lives).length ≤ 6 from by have := List.length_filter_le (fun w => decide (0 < R.1.lives w)) ([1, 2, 3, 4, 5, 6] : List Int); simpa [liveL] using this)
                      have hll := HLL.out
                      clear hct hcb hLne
                      go_wp2_with fail
                      go_loopw [15, 16, 17] (fun lov hiv iv wr5 => wr5 = wr ∧ ∃ (m : Nat) (lo hi : Int), m ≤ (liveL R.1.lives).length ∧ iv = .int .i64 (m : Int) ∧ lov = .int .i64 lo ∧ hiv = .int .i64 hi ∧ Hid (MinMax (liveL R.1.lives) (fun u => j.places.count u) m lo hi)) (fun _ _ iv _ => (liveL R.1.lives).length - (RowKit.intOf iv).toNat)
                      case atStart => exact ⟨rfl, 0, 99, 0, Nat.zero_le _, rfl, rfl, rfl, Lib.hid (MinMax.start _ _)⟩
                      case round =>
                        obtain ⟨hwr, m2, lo, hi, hm2, rfl, rfl, rfl, HMM⟩ := hrel
                        subst hwr
                        by_cases hlt5 : m2 < (liveL R.1.lives).length
                        · have l0 : (m2 : Int) < ((liveL R.1.lives).length : Int) := by omega
                          obtain ⟨u, hu⟩ : ∃ u, (liveL R.1.lives)[m2]? = some u := ⟨_, List.getElem?_eq_getElem hlt5⟩
                          have hu6 := (liveL_mem.1 (List.mem_of_getElem? hu)).1
                          obtain ⟨A, c', e, -, hr⟩ := HIL.out
                          obtain ⟨b2, o2, eb, hrow2⟩ := hr (by omega)
                          rw [eb] at e
                          obtain rfl : Al = some ⟨b2, o2, none⟩ := (Value.slice.inj e).1
                          have d := hrow2 m2 (.int .i64 u) (by rw [List.getElem?_map, hu]; rfl)
                          have hcn := HCT.out.cell (cnt7_at j.places (by omega) hu6.2)
                          have HST := Lib.hid (HMM.out.step hu)
                          have hc16 := HCB.out u
                          obtain ⟨un, rfl⟩ : ∃ un : Nat, u = (un : Int) := ⟨u.toNat, by omega⟩
                          rw [Int.toNat_natCast] at hcn
                          have hun6 : un ≤ 6 := by omega
                          have hb7 : (un : Int) < 7 := by omega
                          clear hu hr e eb hrow2 hu6
                          go_wp2_with fail
                          refine ⟨⟨by trivial, m2 + 1, _, _, by omega, by simp, rfl, rfl, HST⟩, ?_⟩
                          simp only [RowKit.intOf]
                          omega
                        · obtain rfl : m2 = (liveL R.1.lives).length := by omega
                          obtain ⟨hev, hlo0, hlo9, hhi0, hhi6⟩ := HMM.out.even HLN2.out (fun u _ => HCB.out u) (fun u hu v hv => by show j.places.count u ≤ j.places.count v + 1; rw [HBG.out.2]; exact spread (live_nodup _) HBG.out.1 hu hv)
                          have te : decide (1 < hi - lo) = false := decide_eq_false (by omega)
                          have HRZ := Lib.hid (show AwP w1 wr cb R.1 w2.heap.size ∧ NumsAt wr w2.heap.size 3 (l.set k j.att) ∧ WasMix c R.1 (k + 1) (l.set k j.att) ∧ Kp (fun i => i = w2.heap.size) wv wr from ⟨HA8.out.below HC.out.2, HN8.out.below HC.out.2, HSE.out, HK8.out.then (Kp.of_below HC.out.2)⟩)
                          go_wp2_with fail
                          refine ⟨⟨k + 1, _, by omega, by simp, HRZ⟩, ?_⟩
                          simp only [RowKit.intOf]
                          omega
            · obtain rfl : k = fl.length := by omega
              have HAZ := Lib.hid (show AwP w1 wk cb R.1 w2.heap.size ∧ CtOk ((n + 1 : Nat) : Int) R.1 ∧ R.1.jobs.length = fl.length ∧ NumsAt wk w2.heap.size 3 l ∧ WasOk R.1 l ∧ w2.heap.size < wk.heap.size from ⟨HB.out.1, HOKR.out.1, HOKR.out.2, HB.out.2.1, HB.out.2.2.1.end (by have := HOKR.out.2; omega), HB.out.2.1.lt⟩)
              go_wp2_with fail
              refine ⟨⟨n + 1, _, _, by omega, by simp, HAZ⟩, ?_⟩
              simp only [RowKit.intOf]
              omega
        · obtain rfl : n = cl.length := by omega
          have HBW := Lib.hid (go HB1.out hbw)
          clear hbw q1
          go_wp2_with fail
          (with_reducible refine (CA.out _ HBW.out).mono ?_)
          rintro e w3 ⟨rfl, hB3⟩
          go_wp2
          go_ret
          exact ⟨rfl, go HBW.out hB3⟩
end Go.Proofs.YtkjajlolfcioiaaGreatDoor.Control
