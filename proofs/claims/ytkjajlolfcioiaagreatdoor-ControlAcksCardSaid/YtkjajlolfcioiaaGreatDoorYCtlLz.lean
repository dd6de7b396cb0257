/- ControlAcks, walked: true of any plan and rows of parts. -/
import Derived.Test.YtkjajlolfcioiaaGreatDoorYCtlLy
namespace Go.Proofs.YtkjajlolfcioiaaGreatDoor.Control
open Go Go.RowKit Go.MapKept Go.Maps Go.Proofs Go.Proofs.YtkjajlolfcioiaaGreatDoor Go.Proofs.YtkjajlolfcioiaaGreatDoor.Expr Go.Proofs.YtkjajlolfcioiaaGreatDoor.Own Go.Proofs.YtkjajlolfcioiaaGreatDoor.Tail Go.Proofs.YtkjajlolfcioiaaGreatDoor.Mp Go.Proofs.YtkjajlolfcioiaaGreatDoor.Ints Go.Proofs.YtkjajlolfcioiaaGreatDoor.Plan Go.Proofs.YtkjajlolfcioiaaGreatDoor.Check Go.Proofs.YtkjajlolfcioiaaGreatDoor.Graph Go.Proofs.YtkjajlolfcioiaaGreatDoor.Ctl Go.Proofs.YtkjajlolfcioiaaGreatDoor.Rw
/-- behind join, start and trigger. -/
theorem acks_start {w X : World} {cb : Nat} {tops : List Top} {f : Flw} {fr : List Flw} (h : planE ⟨tops, f :: fr⟩ = 0) (hA : Aw w X cb (newC tops (f :: fr))) (hok : CtOk ((0 : Nat) : Int) (newC tops (f :: fr))) (hv : PartsAt w (.slice none 0 0) []) :
    Calls Tryz.prog 34 #[.pointer (some ⟨cb, 0, none⟩), .agg (cmdCells joinX (.slice none 0 0))] X fun e X' => e = .returned (.int .i64 0) ∧
      Calls Tryz.prog 34 #[.pointer (some ⟨cb, 0, none⟩), .agg (cmdCells startX (.slice none 0 0))] X' fun e X' => e = .returned (.int .i64 0) ∧
        Calls Tryz.prog 34 #[.pointer (some ⟨cb, 0, none⟩), .agg (cmdCells trigX (.slice none 0 0))] X' fun e X' => e = .returned (.int .i64 0) ∧
          ∃ c j, Aw w X' cb c ∧ CtOk ((3 : Nat) : Int) c ∧ partsAt c 0 = partsOf tops f.frm ∧ c.jobs[0]? = some j ∧ ackingJ j [] := by
  obtain ⟨j, c, e1, e2, e3, h4, h5, h6, h7⟩ := acks_begin h
  have o1 := (doC_ok joinX hok).ok
  have o2 := (doC_ok startX o1).ok
  have o3 := (doC_ok trigX o2).ok
  rw [e3] at o3
  refine (aw_done hA (Below.refl _ _) hok (by decide) joinX _ hv (by decide)).mono ?_
  rintro e X1 ⟨r1, A1, -, -⟩
  rw [e1] at r1
  refine ⟨r1, (aw_done A1 (Below.refl _ _) o1 (by decide) startX _ hv (by decide)).mono ?_⟩
  rintro e X2 ⟨r2, A2, -, -⟩
  rw [e2] at r2
  refine ⟨r2, (aw_done A2 (Below.refl _ _) o2 (by decide) trigX _ hv (by decide)).mono ?_⟩
  rintro e X3 ⟨r3, A3, -, -⟩
  rw [e3] at r3 A3
  refine ⟨r3, c, j, A3, by simpa using o3, ?_, h6, h7⟩
  unfold partsAt
  rw [h4, h5]
  rfl
set_option maxHeartbeats 8000000 in
set_option maxRecDepth 100000 in
theorem lawAcks_calls (tops : List Top) (fl : List FlwV) (rows : List PRow) (tv fv rv : Value) (fail : Int) (w : World) (hP : PlanAt w tv fv tops fl) (hS : SmallFlows fl) (hC : SliceAt w rv rows.length (rows.map (·.v))) (hp : ∀ x ∈ rows, PartsAt w x.v x.parts) (hT : Tab w) (hg : 5 < w.heap.size) :
    Calls Tryz.prog 8 #[.agg #[tv, fv], rv, .int .i64 fail] w (AwakePost w) := by
  have hn0 : PartsAt w (.slice none 0 0) [] := ⟨none, 0, rfl, Nat.le_refl _, fun h => absurd h (by simp)⟩
  have CS := Lib.hid (fun (X : World) (k : Below w.heap.size w X) => small_calls tops fl [] tv fv (.slice none 0 0) X (hP.below k) ⟨none, 0, rfl, Nat.le_refl _, fun h => absurd h (by simp)⟩ (fun x hx => by cases hx))
  have CN := Lib.hid (fun (X : World) (k : Below w.heap.size w X) (hm : Small tops fl []) => new_got tops fl [] tv fv X (hP.below k) hS (hT.below k) (Nat.lt_of_lt_of_le hg k.size) hm)
  have CA := Lib.hid (fun (X : World) (k : Below w.heap.size w X) => awake_calls X (hT.below k) (Nat.lt_of_lt_of_le hg k.size))
  obtain ⟨A1, c1, rfl, hc1, r1⟩ := hP.tops
  obtain ⟨A2, c2, rfl, hc2, r2⟩ := hP.flows
  obtain ⟨A3, c3, rfl, hc3, r3⟩ := hC
  have HN0 := Lib.hid hn0
  have HTo := Lib.hid r1
  have HFl := Lib.hid r2
  have HCl := Lib.hid r3
  have HPa := Lib.hid hp
  have HG := Lib.hid hg
  have H60 := Lib.hid (show True from trivial)
  clear hP hS hT hg r1 r2 r3 hp hn0
  go_enter Tryz.func8, Tryz.ntmps8
  go_wp2_with fail
  (with_reducible refine (CS.out _ (box_below _ _)).mono ?_)
  rintro e w1 ⟨b, rfl, hb, hB1⟩
  have p0 := kc hB1 (cell_new (X := w) (g := w.heap.size) (cs := #[.slice A1 tops.length c1, .slice A2 fl.length c2]) (T := 25) (j := 0) rfl rfl)
  have p1 := kc hB1 (cell_new (X := w) (g := w.heap.size) (cs := #[.slice A1 tops.length c1, .slice A2 fl.length c2]) (T := 25) (j := 1) rfl rfl)
  have HB1 := Lib.hid (go (box_below _ _) hB1)
  clear hB1
  cases b with
  | false =>
    clear hb
    go_wp2
    go_ret
    exact ⟨rfl, HB1.out⟩
  | true =>
    have hm := hb rfl
    have HM := Lib.hid hm
    have hfl := hm.flows
    have htl := hm.tops
    clear hb hm
    by_cases h60 : 60 < rows.length
    · have t60 : decide ((60 : Int) < (rows.length : Int)) = true := decide_eq_true (by omega)
      go_wp2
      go_ret
      exact ⟨rfl, HB1.out⟩
    have t60 : decide ((60 : Int) < (rows.length : Int)) = false := decide_eq_false (by omega)
    have H60 := Lib.hid h60
    clear h60
    go_wp2_with fail
    (with_reducible refine (CN.out _ HB1.out HM.out).mono ?_)
    rintro e w2 (⟨E, hE, rfl, hB2⟩ | ⟨cb, rfl, hA2, hok2⟩)
    · have e0 : (E == 0) = false := by simpa using hE
      have e1 : (E != 0) = true := by simpa using hE
      have HB2 := Lib.hid (go HB1.out hB2)
      clear hE hB2
      go_wp2_with (go_at_call 32; (with_reducible refine (CA.out _ HB2.out).mono ?_); rintro e w3 ⟨rfl, hB3⟩)
      go_ret
      exact ⟨rfl, go HB2.out hB3⟩
    · have q0 := kc hA2.bel p0
      have q1 := kc hA2.bel p1
      have HBW2 := Lib.hid (go HB1.out hA2.bel)
      cases fl with
      | nil =>
        clear p0 p1
        go_wp2_with (go_at_call 32; (with_reducible refine (CA.out _ HBW2.out).mono ?_); rintro e w3 ⟨rfl, hB3⟩; have q13 := kc hB3 q1)
        go_ret
        exact ⟨rfl, go HBW2.out hB3⟩
      | cons f0 fr =>
        have hnf : ((f0 :: fr).length : Int) ≠ 0 := by simp; omega
        have tnf : (((f0 :: fr).length : Int) == 0) = false := by simpa using hnf
        have HNF := Lib.hid (show 0 < (f0 :: fr).length from by simp)
        have hpl := hok2.plan
        have HPL0 := Lib.hid (show planE ⟨tops, f0.f :: fr.map (·.f)⟩ = 0 from hpl)
        have HST := Lib.hid (show Calls Tryz.prog 34 #[.pointer (some ⟨cb, 0, none⟩), .agg #[.int .i64 1, .int .i64 0, .int .i64 0, .int .i64 1, .int .i64 1, .int .i64 0, .int .i64 0, .slice none 0 0]] w2 _ from acks_start (f := f0.f) (fr := fr.map (·.f)) hpl hA2 hok2 (SliceAt.below HN0.out HB1.out))
        have HP0 := Lib.hid p0
        have HP1 := Lib.hid p1
        clear p0 p1 hA2 hok2 hpl hnf
        go_wp2_with fail
        (with_reducible refine HST.out.mono ?_)
        rintro e w3 ⟨rfl, hST3⟩
        have HST3 := Lib.hid (show Calls Tryz.prog 34 #[.pointer (some ⟨cb, 0, none⟩), .agg #[.int .i64 3, .int .i64 0, .int .i64 0, .int .i64 0, .int .i64 0, .int .i64 0, .int .i64 0, .slice none 0 0]] w3 _ from hST3)
        clear hST3 HST q0 q1
        go_wp2_with fail
        (with_reducible refine HST3.out.mono ?_)
        rintro e w4 ⟨rfl, hST4⟩
        have HST4 := Lib.hid (show Calls Tryz.prog 34 #[.pointer (some ⟨cb, 0, none⟩), .agg #[.int .i64 6, .int .i64 0, .int .i64 0, .int .i64 0, .int .i64 0, .int .i64 0, .int .i64 0, .slice none 0 0]] w4 _ from hST4)
        clear hST4 HST3
        go_wp2_with fail
        (with_reducible refine HST4.out.mono ?_)
        rintro e w5 ⟨rfl, c, j0, hA5, hok5, hpt5, hj5, hac5⟩
        clear HST4
        have HA5 := Lib.hid hA5
        have HOK5 := Lib.hid hok5
        have HPT5 := Lib.hid hpt5
        have HJ5 := Lib.hid hj5
        have HAC5 := Lib.hid hac5
        have q0 := kc hA5.bel HP0.out
        have q1 := kc hA5.bel HP1.out
        obtain ⟨b2, o2, e2, hfrow⟩ := HFl.out HNF.out
        subst e2
        have hf1 : w.cell? ⟨b2, o2 + 1, none⟩ = some (.string f0.f.frm) := hfrow 1 _ rfl
        have q2 : w5.cell? ⟨b2, o2 + 1, none⟩ = some (.string f0.f.frm) := kc (go HB1.out hA5.bel) hf1
        have HFP := Lib.hid (plan_flow HPL0.out f0.f (by simp))
        have HQ0 := Lib.hid q0
        have HQ1 := Lib.hid q1
        have HQ2 := Lib.hid q2
        have hfl0 : (0 : Int) < ((f0 :: fr).length : Int) := by have := HNF.out; omega
        obtain ⟨nf, hnfe⟩ : ∃ nf, (f0 :: fr).length = nf := ⟨_, rfl⟩
        rw [hnfe] at HQ1 hfl0 q1
        clear hA5 hok5 hpt5 hj5 hac5 hfrow hf1 q2 q0 q1 tnf hfl
        go_wp2_with fail
        go_loopw [9, 10] (fun pv iv wr => ∃ i : Nat, i ≤ tops.length ∧ iv = .int .i64 (i : Int) ∧ pv = .int .i64 (partsOf (tops.take i) f0.f.frm) ∧ Hid (Below w5.heap.size w5 wr)) (fun _ iv _ => tops.length - (RowKit.intOf iv).toNat)
        case atStart => exact ⟨0, Nat.zero_le _, rfl, rfl, Lib.hid (Below.refl _ _)⟩
        case round =>
          obtain ⟨i, hi, rfl, rfl, HB⟩ := hrel
          have q0 := kc HB.out HQ0.out
          have q1 := kc HB.out HQ1.out
          have q2 := kc HB.out HQ2.out
          by_cases hlt : i < tops.length
          · have l0 : (i : Int) < (tops.length : Int) := by omega
            obtain ⟨b1, o1, e1, hrow⟩ := HTo.out (by omega)
            subst e1
            obtain ⟨t, ht⟩ : ∃ t, tops[i]? = some t := ⟨_, List.getElem?_eq_getElem hlt⟩
            have hww := go (go HB1.out HA5.out.bel) HB.out
            have x0 : wr.cell? ⟨b1, o1 + i * 2, none⟩ = some (.string t.name) := kc hww (hrow (i * 2 + 0) _ (flat_get topCells 2 (fun _ => rfl) _ i 0 _ ht (by decide)))
            have x1 : wr.cell? ⟨b1, o1 + i * 2 + 1, none⟩ = some (.int .i64 t.parts) := kc hww (hrow (i * 2 + 1) _ (flat_get topCells 2 (fun _ => rfl) _ i 1 _ ht (by decide)))
            have HNX := Lib.hid (plan_names HPL0.out ht f0.f.frm)
            clear hrow ht hww
            by_cases hq : t.name = f0.f.frm
            · have q : (t.name.toList == f0.f.frm.toList) = true := by rw [hq]; simp
              have HQ := Lib.hid hq
              clear hq
              go_wp2
              go_quiet (fail)
              go_wp2
              go_roundw
              case rel =>
                refine ⟨i + 1, by omega, by simp, ?_, Lib.hid (bdrewN HB.out _)⟩
                rw [HNX.out, if_pos HQ.out]
              case measure => simp only [RowKit.intOf]; omega
            · have q : (t.name.toList == f0.f.frm.toList) = false := by rw [beq_eq_false_iff_ne]; intro e; rw [Lib.toList_data, Lib.toList_data] at e; exact hq (bytes_eq e)
              have HQ := Lib.hid hq
              clear hq
              go_wp2
              go_quiet (fail)
              go_wp2
              go_roundw
              case rel =>
                refine ⟨i + 1, by omega, by simp, ?_, Lib.hid (bdrewN HB.out _)⟩
                rw [HNX.out, if_neg HQ.out]
              case measure => simp only [RowKit.intOf]; omega
          · obtain rfl : i = tops.length := by omega
            rw [List.take_length]
            obtain ⟨pp, hpp⟩ : ∃ pp, partsOf tops f0.f.frm = pp := ⟨_, rfl⟩
            have hppr := HFP.out.parts
            rw [hpp] at hppr ⊢
            have HPP := Lib.hid hpp
            have HPR := Lib.hid hppr
            clear hpp hppr q1 q2
            go_wp2_with fail
            clear q0
            obtain ⟨X0, hX0⟩ : ∃ X0, wr.alloc (.cells #[.bool false, .bool false, .bool false, .bool false, .bool false, .bool false, .bool false, .bool false, .bool false, .bool false, .bool false, .bool false, .bool false, .bool false, .bool false, .bool false, .bool false, .bool false, .bool false, .bool false, .bool false, .bool false, .bool false, .bool false, .bool false, .bool false, .bool false, .bool false, .bool false, .bool false, .bool false, .bool false] 73) = X0 := ⟨_, rfl⟩
            have HR0 := Lib.hid (show AckRel w1 X0 cb wr.heap.size pp c false [] [] 3 ∧ 3 ≤ 2 * 0 + 3 ∧ (false = true → fail < ((0 : Nat) : Int)) ∧ ([] : List (Int × Int)).length ≤ 100 * 0 from by
              rw [← hX0]
              refine ⟨⟨(HA5.out.below HB.out).beside _, HOK5.out, HPT5.out.trans HPP.out, ⟨j0, HJ5.out, fun _ => ⟨HAC5.out, by have := HPR.out; simp; omega⟩, fun e => by cases e⟩, ?_, List.Pairwise.nil⟩, by omega, (fun e => by cases e), Nat.le_refl _⟩
              show (wr.alloc _).heap[wr.heap.size]? = _
              rw [heap_new]
              rfl)
            have HSB := Lib.hid (show w1.heap.size ≤ wr.heap.size from (HA5.out.below HB.out).bel.size)
            rw [hX0]
            obtain ⟨sb, hsb⟩ : ∃ sb, wr.heap.size = sb := ⟨_, rfl⟩
            rw [hsb] at HR0 HSB ⊢
            clear hX0
            go_loopw [12, 13, 14] (fun mv bv iv wr2 => ∃ (i n : Nat) (c : Ct) (b : Bool) (L : List (Int × Int)), i ≤ rows.length ∧ iv = .int .i64 (i : Int) ∧ mv = .int .i64 (L.length : Int) ∧ bv = .bool b ∧ Hid (AckRel w1 wr2 cb sb pp c b L L n ∧ n ≤ 2 * i + 3 ∧ (b = true → fail < (i : Int)) ∧ L.length ≤ 100 * i)) (fun _ _ iv _ => rows.length - (RowKit.intOf iv).toNat)
            case atStart => exact ⟨0, 3, c, false, [], Nat.zero_le _, rfl, rfl, rfl, HR0⟩
            case round =>
              clear HR0 HJ5 HAC5 HOK5 HPT5
              obtain ⟨i, n, c', b, L, hi, rfl, rfl, rfl, HA⟩ := hrel
              have HWW := Lib.hid (go HB1.out HA.out.1.awp.aw.bel)
              have hrl : rows.length ≤ 60 := by have := H60.out; omega
              by_cases hlt : i < rows.length
              · have l0 : (i : Int) < (rows.length : Int) := by omega
                obtain ⟨b3, o3, e3, hrow⟩ := HCl.out (by omega)
                subst e3
                obtain ⟨⟨v, P⟩, hx⟩ : ∃ x, rows[i]? = some x := ⟨_, List.getElem?_eq_getElem hlt⟩
                have hxm := List.mem_of_getElem? hx
                obtain ⟨vA, vc, ev, -, hpr⟩ := HPa.out _ hxm
                dsimp only at ev hpr
                subst ev
                have HPT := Lib.hid (show PartsAt w1 (.slice vA P.length vc) P from SliceAt.below (HPa.out _ hxm) HB1.out)
                have HPC := Lib.hid hpr
                have HX0 := Lib.hid (show w.cell? ⟨b3, o3 + i, none⟩ = some (.slice vA P.length vc) from hrow i _ (by rw [List.getElem?_map, hx]; rfl))
                have x0 := kc HWW.out HX0.out
                have hbl := lt_of_cell x0
                clear hrow hx hxm hpr
                by_cases h100 : 100 < P.length
                · have t100 : decide ((100 : Int) < (P.length : Int)) = true := decide_eq_true (by omega)
                  go_wp2
                  go_ret
                  exact ⟨rfl, HWW.out⟩
                have t100 : decide ((100 : Int) < (P.length : Int)) = false := decide_eq_false (by omega)
                have HPL := Lib.hid (show P.length ≤ 1000 by omega)
                have HNN := Lib.hid (show n ≤ 900 by have := HA.out.2.1; have := H60.out; omega)
                have HP100 := Lib.hid (show P.length ≤ 100 by omega)
                clear h100
                by_cases hif : (i : Int) = fail
                · have hb : b = false := by
                    cases b
                    · rfl
                    · have := HA.out.2.2.1 (by first | trivial | rfl)
                      omega
                  subst hb
                  have tif : ((i : Int) == fail) = true := by simpa using hif
                  have HF := Lib.hid (HA.out.1.fails (by have := HNN.out; omega) (SliceAt.below HN0.out HB1.out))
                  have HIF := Lib.hid hif
                  clear hif
                  go_wp2_with fail
                  (with_reducible refine HF.out.mono ?_)
                  rintro e w6 ⟨rfl, c6, hA6⟩
                  have x6 := kc (go HB1.out hA6.awp.aw.bel) HX0.out
                  have HS := Lib.hid (hA6.stale (by have := HNN.out; omega) P _ HPT.out HPL.out)
                  clear hA6 HF x0
                  go_wp2_with fail
                  (with_reducible refine HS.out.mono ?_)
                  rintro e w7 ⟨rfl, hA7⟩
                  have HA7 := Lib.hid hA7
                  clear hA7 HS
                  go_wp2_with fail
                  refine ⟨⟨i + 1, n + 1, c6, true, L, by omega, by simp, rfl, rfl, Lib.hid ⟨HA7.out, by have := HA.out.2.1; omega, (fun _ => by have := HIF.out; omega), by have := HA.out.2.2.2; omega⟩⟩, ?_⟩
                  simp only [RowKit.intOf]
                  omega
                · have tif : ((i : Int) == fail) = false := by simpa using hif
                  clear hif
                  cases b with
                  | true =>
                    have HS := Lib.hid (HA.out.1.stale (by have := HNN.out; omega) P _ HPT.out HPL.out)
                    go_wp2_with fail
                    (with_reducible refine HS.out.mono ?_)
                    rintro e w7 ⟨rfl, hA7⟩
                    have HA7 := Lib.hid hA7
                    clear hA7 HS x0
                    go_wp2_with fail
                    refine ⟨⟨i + 1, n, c', true, L, by omega, by simp, rfl, rfl, Lib.hid ⟨HA7.out, by have := HA.out.2.1; omega, (fun _ => by have := HA.out.2.2.1 (by first | trivial | rfl); omega), by have := HA.out.2.2.2; omega⟩⟩, ?_⟩
                    simp only [RowKit.intOf]
                    omega
                  | false =>
                    by_cases hP : ∃ p ∈ P, ¬ PartOk pp p
                    · have HS := Lib.hid (HA.out.1.bad (by have := HNN.out; omega) P _ HPT.out HPL.out hP)
                      clear hP
                      go_wp2_with fail
                      (with_reducible refine HS.out.mono ?_)
                      rintro e w7 ⟨rfl, hA7⟩
                      have HA7 := Lib.hid hA7
                      clear hA7 HS x0
                      obtain ⟨j, hj, hjf, -⟩ := HA7.out.job
                      obtain ⟨⟨-, -, hjn, hjd, -⟩, hjl⟩ := hjf rfl
                      have HJC := Lib.hid (show Calls Tryz.prog 33 #[.pointer (some ⟨cb, 0, none⟩), .int .i64 0] _ (JobOut j _) from aw_jobs HA7.out.awp.aw HA7.out.ok hj)
                      unfold JobOut jobV at HJC
                      have tl : ((L.length : Int) == pp + 16) = false := by simpa using hjl
                      have HPR2 := HPR.out
                      have HJD := Lib.hid hjd
                      have HJN := Lib.hid hjn
                      clear hj hjf hjl hjd hjn
                      go_wp2_with fail
                      (with_reducible refine HJC.out.mono ?_)
                      rintro e w8 ⟨pv, av, rfl, hB8, ho1, ho2⟩
                      obtain ⟨Bp, dp, rfl, -, -, -, -⟩ := own_form ho1
                      obtain ⟨Ba, da, rfl, -, -, -, -⟩ := own_form ho2
                      have v3 : (w8.alloc (.cells #[.int .i64 j.att, .int .i64 j.rd, .int .i64 j.kp, .int .i64 j.done, .int .i64 j.num, .int .i64 j.next, .slice Bp j.places.length dp, .slice Ba j.acked.length da] 55)).cell? ⟨w8.heap.size, 3, none⟩ = some (.int .i64 0) := cell_new rfl (by rw [← HJD.out]; rfl)
                      have v4 : (w8.alloc (.cells #[.int .i64 j.att, .int .i64 j.rd, .int .i64 j.kp, .int .i64 j.done, .int .i64 j.num, .int .i64 j.next, .slice Bp j.places.length dp, .slice Ba j.acked.length da] 55)).cell? ⟨w8.heap.size, 4, none⟩ = some (.int .i64 1) := cell_new rfl (by rw [← HJN.out]; rfl)
                      have HAZ := Lib.hid ((HA7.out.below hB8).below (box_below w8 (.cells #[.int .i64 j.att, .int .i64 j.rd, .int .i64 j.kp, .int .i64 j.done, .int .i64 j.num, .int .i64 j.next, .slice Bp j.places.length dp, .slice Ba j.acked.length da] 55)))
                      clear ho1 ho2 hB8 HJC
                      go_wp2_with fail
                      refine ⟨⟨i + 1, n, c', false, L, by omega, by simp, rfl, rfl, Lib.hid ⟨HAZ.out, by have := HA.out.2.1; omega, (fun e => by cases e), by have := HA.out.2.2.2; omega⟩⟩, ?_⟩
                      simp only [RowKit.intOf]
                      omega
                    · have hP2 : ∀ p ∈ P, PartOk pp p := fun p hp => Decidable.byContradiction fun h => hP ⟨p, hp, h⟩
                      have HS := Lib.hid (HA.out.1.good (by have := HNN.out; omega) P _ HPT.out HPL.out hP2)
                      have HPO := Lib.hid hP2
                      have HLS := Lib.hid HA.out.1.sorted
                      clear hP hP2
                      go_wp2_with fail
                      (with_reducible refine HS.out.mono ?_)
                      rintro e w7 ⟨rfl, c7, hA7⟩
                      have HA7 := Lib.hid (show AckAny w1 w7 cb sb pp c7 (addP L P) (addP L (P.take 0)) (n + 1) from hA7)
                      clear hA7 HS x0
                      go_wp2_with fail
                      go_loopw [12, 16] (fun mv kv wr3 => ∃ k : Nat, k ≤ P.length ∧ kv = .int .i64 (k : Int) ∧ mv = .int .i64 ((addP L (P.take k)).length : Int) ∧ Hid (AckAny w1 wr3 cb sb pp c7 (addP L P) (addP L (P.take k)) (n + 1))) (fun _ kv _ => P.length - (RowKit.intOf kv).toNat)
                      case atStart => exact ⟨0, Nat.zero_le _, rfl, rfl, HA7⟩
                      case round =>
                        clear HA7
                        obtain ⟨k, hk, rfl, rfl, HB⟩ := hrel
                        have HW3 := Lib.hid (go HB1.out HB.out.awp.aw.bel)
                        have hp100 := HP100.out
                        have x0 := kc HW3.out HX0.out
                        by_cases hlk : k < P.length
                        · have l1 : (k : Int) < (P.length : Int) := by omega
                          obtain ⟨b4, o4, e4, hcs⟩ := HPC.out (by omega)
                          subst e4
                          obtain ⟨⟨kd, pn⟩, hpk⟩ : ∃ x, P[k]? = some x := ⟨_, List.getElem?_eq_getElem hlk⟩
                          have y0 : wr.cell? ⟨b4, o4 + k * 2, none⟩ = some (.int .i64 kd) := kc HW3.out (hcs (k * 2 + 0) _ (flat_get partCells 2 (fun _ => rfl) _ k 0 _ hpk (by decide)))
                          have y1 : wr.cell? ⟨b4, o4 + k * 2 + 1, none⟩ = some (.int .i64 pn) := kc HW3.out (hcs (k * 2 + 1) _ (flat_get partCells 2 (fun _ => rfl) _ k 1 _ hpk (by decide)))
                          have hbl4 := lt_of_cell y0
                          have hok := HPO.out _ (List.mem_of_getElem? hpk)
                          have hpr := HPR.out
                          have HAT := Lib.hid (show addP L (P.take (k + 1)) = insP (kd, pn) (addP L (P.take k)) from by rw [List.take_add_one, hpk]; exact addP_snoc _ _ _)
                          have HLN := Lib.hid (insP_len (kd, pn) (addP L (P.take k)) (addP_sorted _ _ HLS.out))
                          obtain ⟨q, hq⟩ : ∃ q : Nat, pn = (q : Int) := ⟨pn.toNat, by unfold PartOk at hok; omega⟩
                          subst hq
                          have hq16 : q < 16 := by unfold PartOk at hok; omega
                          have i0 : (q : Int) < 16 := by omega
                          have i1 : decide ((q : Int) < 0) = false := decide_eq_false (by omega)
                          have i2 : decide ((15 : Int) < (q : Int)) = false := decide_eq_false (by omega)
                          have hlen7 : (addP L (P.take k)).length ≤ 7000 := by have ha := addP_le (P.take k) L; have := HA.out.2.2.2; have := HP100.out; rw [List.length_take] at ha; omega
                          clear hcs hpk
                          have hkd : kd = 1 ∨ kd = 2 := by unfold PartOk at hok; omega
                          rcases hkd with rfl | rfl
                          · have i3 : decide (pp ≤ (q : Int)) = false := decide_eq_false (by unfold PartOk at hok; omega)
                            have HC := Lib.hid (HB.out.has.cell 0 q (by decide) hq16)
                            have HFZ := Lib.hid (HB.out.has.frozen (0 * 16 + q))
                            clear hok
                            go_wp2_with fail
                            obtain ⟨X4, hX4⟩ : ∃ X4, wr.alloc (.cells #[.int .i64 1, .int .i64 (q : Int)] 75) = X4 := ⟨_, rfl⟩
                            have HB4 := Lib.hid (show AckAny w1 X4 cb sb pp c7 (addP L P) (addP L (P.take k)) (n + 1) from by rw [← hX4]; exact HB.out.below (box_below _ _))
                            have z0 : X4.cell? ⟨wr.heap.size, 0, none⟩ = some (.int .i64 1) := by rw [← hX4]; exact cell_new rfl rfl
                            have z1 : X4.cell? ⟨wr.heap.size, 1, none⟩ = some (.int .i64 (q : Int)) := by rw [← hX4]; exact cell_new rfl rfl
                            rw [hX4]
                            clear hX4 x0 y0 y1 HC HFZ
                            have hc4 := HB4.out.has.cell 0 q (by decide) hq16
                            have hf4 := HB4.out.has.frozen (0 * 16 + q)
                            obtain ⟨r, hr⟩ : ∃ r, decide ((((1 : Nat) : Int), (q : Int)) ∈ addP L (P.take k)) = r := ⟨_, rfl⟩
                            rw [hr] at hc4
                            have HRR := Lib.hid hr
                            clear hr
                            have hc5 : X4.cell? ⟨sb, q, none⟩ = some (.bool r) := by simpa using hc4
                            have hf5 : X4.frozen? ⟨sb, q, none⟩ = false := by simpa using hf4
                            clear hc4 hf4
                            clear i1 i2
                            have hw1 : IntKind.i64.wrap (((addP L (P.take k)).length : Int) + 1) = ((addP L (P.take k)).length : Int) + 1 := by rw [IntKind.wrap_i64]; omega
                            obtain ⟨nl, hnl⟩ : ∃ nl, (addP L (P.take k)).length = nl := ⟨_, rfl⟩
                            rw [hnl] at hw1 hlen7 ⊢
                            have HNL := Lib.hid hnl
                            clear hnl
                            go_wp2_with fail
                            cases r with
                            | true =>
                              go_quiet (fail)
                              obtain ⟨X5, hX5⟩ : ∃ X5, X4.drewN nq = X5 := ⟨_, rfl⟩
                              have y0 : X5.cell? ⟨wr.heap.size, 0, none⟩ = some (.int .i64 1) := by rw [← hX5]; exact z0
                              have y1 : X5.cell? ⟨wr.heap.size, 1, none⟩ = some (.int .i64 (q : Int)) := by rw [← hX5]; exact z1
                              have hc6 : X5.cell? ⟨sb, q, none⟩ = some (.bool true) := by rw [← hX5]; exact hc5
                              have hf6 : X5.frozen? ⟨sb, q, none⟩ = false := by rw [← hX5]; exact hf5
                              have HB5 := Lib.hid (show AckAny w1 X5 cb sb pp c7 (addP L P) (addP L (P.take k)) (n + 1) from by rw [← hX5]; exact HB4.out.below (bdrewN (Below.refl _ _) _))
                              rw [hX5]
                              clear hX5 z0 z1 hc5 hf5 HB4
                              go_wp2_with fail
                              have hwl : IntKind.i64.wrap 0 = 0 := by decide +kernel
                              refine wp_region_forced 7 (by kernel_rfl) (by kernel_rfl) ?_
                              simp only [List.take_succ_cons, List.take_zero, List.drop_succ_cons, List.drop_zero, List.size_toArray, List.length_cons, List.length_nil, Nat.zero_add, Nat.reduceAdd]
                              refine wpAny_of_held (S := fun X : World => X.cell? ⟨wr.heap.size, 0, none⟩ = some (.int .i64 1) ∧ X.cell? ⟨wr.heap.size, 1, none⟩ = some (.int .i64 (q : Int))) _ _ _ _ ?_
                              have hS0 : (fun X : World => X.cell? ⟨wr.heap.size, 0, none⟩ = some (.int .i64 1) ∧ X.cell? ⟨wr.heap.size, 1, none⟩ = some (.int .i64 (q : Int))) X5.drew := ⟨y0, y1⟩
                              refine wpAnyH_take (i := 0) (v := ?_) rfl (by kernel_rfl) (by kernel_rfl) (by kernel_rfl) (fun _ _ _ h => h) (Or.inl ⟨by rfl, ?_⟩) hS0 ?_
                              rotate_left
                              · intro w hSw; (try dsimp only at hSw); go_simp; (first | done | with_reducible rfl)
                              simp only [Act.put, List.setIfInBounds_toArray]
                              refine wpAnyH_take (i := 1) (v := ?_) rfl (by kernel_rfl) (by kernel_rfl) (by kernel_rfl) (fun _ _ _ h => h) (Or.inl ⟨by rfl, ?_⟩) hS0 ?_
                              rotate_left
                              · intro w hSw; (try dsimp only at hSw); go_simp; (first | done | with_reducible rfl)
                              simp only [Act.put]
                              refine wpAnyH_take (i := 2) (v := ?_) rfl (by kernel_rfl) (by kernel_rfl) (by kernel_rfl) (fun _ _ _ h => h) (Or.inl ⟨by rfl, ?_⟩) hS0 ?_
                              rotate_left
                              · intro w hSw; (try dsimp only at hSw); go_simp; (first | done | with_reducible rfl)
                              simp only [Act.put]
                              refine wpAnyH_take (i := 3) (v := ?_) rfl (by kernel_rfl) (by kernel_rfl) (by kernel_rfl) (fun _ _ _ h => h) (Or.inl ⟨by rfl, ?_⟩) hS0 ?_
                              rotate_left
                              · intro w hSw; (try dsimp only at hSw); go_simp; (first | done | with_reducible rfl)
                              simp only [Act.put]
                              refine wpAnyH_take (i := 4) (v := ?_) rfl (by kernel_rfl) (by kernel_rfl) (by kernel_rfl) (fun _ _ _ h => h) (Or.inl ⟨by rfl, ?_⟩) hS0 ?_
                              rotate_left
                              · intro w hSw; (try dsimp only at hSw); go_simp; (first | done | with_reducible rfl)
                              simp only [Act.put]
                              refine wpAnyH_take (i := 5) (v := ?_) rfl (by kernel_rfl) (by kernel_rfl) (by kernel_rfl) (fun _ _ _ h => h) (Or.inl ⟨by rfl, ?_⟩) hS0 ?_
                              rotate_left
                              · intro w hSw; (try dsimp only at hSw); go_simp; (first | done | with_reducible rfl)
                              simp only [Act.put]
                              refine wpAnyH_take (i := 6) (v := ?_) rfl (by kernel_rfl) (by kernel_rfl) (by kernel_rfl) (fun _ _ _ h => h) (Or.inl ⟨by rfl, ?_⟩) hS0 ?_
                              rotate_left
                              · intro w hSw; (try dsimp only at hSw); go_simp; (first | done | with_reducible rfl)
                              simp only [Act.put]
                              refine wpAnyH_done (by kernel_rfl) ?_ _
                              show wpList _ _ _ _ _ _
                              go_wp2_with fail
                              refine ⟨⟨k + 1, by omega, by simp, ?_, Lib.hid ?_⟩, ?_⟩
                              · rw [HAT.out, HLN.out, if_pos (show ((1 : Int), (q : Int)) ∈ _ from of_decide_eq_true HRR.out), HNL.out]
                              · rw [HAT.out]
                                have := (HB5.out.below (Below.refl _ _).drew).set HSB.out (Nat.lt_of_lt_of_le HG.out HB1.out.size) 0 q hq16
                                rw [show 0 * 16 + q = q by omega] at this
                                exact this
                              · simp only [RowKit.intOf]
                                omega
                            | false =>
                              go_quiet (fail)
                              obtain ⟨X5, hX5⟩ : ∃ X5, X4.drewN nq = X5 := ⟨_, rfl⟩
                              have y0 : X5.cell? ⟨wr.heap.size, 0, none⟩ = some (.int .i64 1) := by rw [← hX5]; exact z0
                              have y1 : X5.cell? ⟨wr.heap.size, 1, none⟩ = some (.int .i64 (q : Int)) := by rw [← hX5]; exact z1
                              have hc6 : X5.cell? ⟨sb, q, none⟩ = some (.bool false) := by rw [← hX5]; exact hc5
                              have hf6 : X5.frozen? ⟨sb, q, none⟩ = false := by rw [← hX5]; exact hf5
                              have HB5 := Lib.hid (show AckAny w1 X5 cb sb pp c7 (addP L P) (addP L (P.take k)) (n + 1) from by rw [← hX5]; exact HB4.out.below (bdrewN (Below.refl _ _) _))
                              rw [hX5]
                              clear hX5 z0 z1 hc5 hf5 HB4
                              go_wp2_with fail
                              have hwl : IntKind.i64.wrap 0 = 0 := by decide +kernel
                              refine wp_region_forced 7 (by kernel_rfl) (by kernel_rfl) ?_
                              simp only [List.take_succ_cons, List.take_zero, List.drop_succ_cons, List.drop_zero, List.size_toArray, List.length_cons, List.length_nil, Nat.zero_add, Nat.reduceAdd]
                              refine wpAny_of_held (S := fun X : World => X.cell? ⟨wr.heap.size, 0, none⟩ = some (.int .i64 1) ∧ X.cell? ⟨wr.heap.size, 1, none⟩ = some (.int .i64 (q : Int))) _ _ _ _ ?_
                              have hS0 : (fun X : World => X.cell? ⟨wr.heap.size, 0, none⟩ = some (.int .i64 1) ∧ X.cell? ⟨wr.heap.size, 1, none⟩ = some (.int .i64 (q : Int))) X5.drew := ⟨y0, y1⟩
                              refine wpAnyH_take (i := 0) (v := ?_) rfl (by kernel_rfl) (by kernel_rfl) (by kernel_rfl) (fun _ _ _ h => h) (Or.inl ⟨by rfl, ?_⟩) hS0 ?_
                              rotate_left
                              · intro w hSw; (try dsimp only at hSw); go_simp; (first | done | with_reducible rfl)
                              simp only [Act.put, List.setIfInBounds_toArray]
                              refine wpAnyH_take (i := 1) (v := ?_) rfl (by kernel_rfl) (by kernel_rfl) (by kernel_rfl) (fun _ _ _ h => h) (Or.inl ⟨by rfl, ?_⟩) hS0 ?_
                              rotate_left
                              · intro w hSw; (try dsimp only at hSw); go_simp; (first | done | with_reducible rfl)
                              simp only [Act.put]
                              refine wpAnyH_take (i := 2) (v := ?_) rfl (by kernel_rfl) (by kernel_rfl) (by kernel_rfl) (fun _ _ _ h => h) (Or.inl ⟨by rfl, ?_⟩) hS0 ?_
                              rotate_left
                              · intro w hSw; (try dsimp only at hSw); go_simp; (first | done | with_reducible rfl)
                              simp only [Act.put]
                              refine wpAnyH_take (i := 3) (v := ?_) rfl (by kernel_rfl) (by kernel_rfl) (by kernel_rfl) (fun _ _ _ h => h) (Or.inl ⟨by rfl, ?_⟩) hS0 ?_
                              rotate_left
                              · intro w hSw; (try dsimp only at hSw); go_simp; (first | done | with_reducible rfl)
                              simp only [Act.put]
                              refine wpAnyH_take (i := 4) (v := ?_) rfl (by kernel_rfl) (by kernel_rfl) (by kernel_rfl) (fun _ _ _ h => h) (Or.inl ⟨by rfl, ?_⟩) hS0 ?_
                              rotate_left
                              · intro w hSw; (try dsimp only at hSw); go_simp; (first | done | with_reducible rfl)
                              simp only [Act.put]
                              refine wpAnyH_take (i := 5) (v := ?_) rfl (by kernel_rfl) (by kernel_rfl) (by kernel_rfl) (fun _ _ _ h => h) (Or.inl ⟨by rfl, ?_⟩) hS0 ?_
                              rotate_left
                              · intro w hSw; (try dsimp only at hSw); go_simp; (first | done | with_reducible rfl)
                              simp only [Act.put]
                              refine wpAnyH_take (i := 6) (v := ?_) rfl (by kernel_rfl) (by kernel_rfl) (by kernel_rfl) (fun _ _ _ h => h) (Or.inl ⟨by rfl, ?_⟩) hS0 ?_
                              rotate_left
                              · intro w hSw; (try dsimp only at hSw); go_simp; (first | done | with_reducible rfl)
                              simp only [Act.put]
                              refine wpAnyH_done (by kernel_rfl) ?_ _
                              show wpList _ _ _ _ _ _
                              go_wp2_with fail
                              refine ⟨⟨k + 1, by omega, by simp, ?_, Lib.hid ?_⟩, ?_⟩
                              · rw [HAT.out, HLN.out, if_neg (show ¬ ((1 : Int), (q : Int)) ∈ _ from of_decide_eq_false HRR.out), HNL.out]
                                rfl
                              · rw [HAT.out]
                                have := (HB5.out.below (Below.refl _ _).drew).set HSB.out (Nat.lt_of_lt_of_le HG.out HB1.out.size) 0 q hq16
                                rw [show 0 * 16 + q = q by omega] at this
                                exact this
                              · simp only [RowKit.intOf]
                                omega
                          · skip
                            have HC := Lib.hid (HB.out.has.cell 1 q (by decide) hq16)
                            have HFZ := Lib.hid (HB.out.has.frozen (1 * 16 + q))
                            clear hok
                            go_wp2_with fail
                            obtain ⟨X4, hX4⟩ : ∃ X4, wr.alloc (.cells #[.int .i64 2, .int .i64 (q : Int)] 75) = X4 := ⟨_, rfl⟩
                            have HB4 := Lib.hid (show AckAny w1 X4 cb sb pp c7 (addP L P) (addP L (P.take k)) (n + 1) from by rw [← hX4]; exact HB.out.below (box_below _ _))
                            have z0 : X4.cell? ⟨wr.heap.size, 0, none⟩ = some (.int .i64 2) := by rw [← hX4]; exact cell_new rfl rfl
                            have z1 : X4.cell? ⟨wr.heap.size, 1, none⟩ = some (.int .i64 (q : Int)) := by rw [← hX4]; exact cell_new rfl rfl
                            rw [hX4]
                            clear hX4 x0 y0 y1 HC HFZ
                            have hc4 := HB4.out.has.cell 1 q (by decide) hq16
                            have hf4 := HB4.out.has.frozen (1 * 16 + q)
                            obtain ⟨r, hr⟩ : ∃ r, decide ((((2 : Nat) : Int), (q : Int)) ∈ addP L (P.take k)) = r := ⟨_, rfl⟩
                            rw [hr] at hc4
                            have HRR := Lib.hid hr
                            clear hr
                            have hc5 : X4.cell? ⟨sb, 16 + q, none⟩ = some (.bool r) := by simpa using hc4
                            have hf5 : X4.frozen? ⟨sb, 16 + q, none⟩ = false := by simpa using hf4
                            clear hc4 hf4
                            clear i1 i2
                            have hw1 : IntKind.i64.wrap (((addP L (P.take k)).length : Int) + 1) = ((addP L (P.take k)).length : Int) + 1 := by rw [IntKind.wrap_i64]; omega
                            obtain ⟨nl, hnl⟩ : ∃ nl, (addP L (P.take k)).length = nl := ⟨_, rfl⟩
                            rw [hnl] at hw1 hlen7 ⊢
                            have HNL := Lib.hid hnl
                            clear hnl
                            go_wp2_with fail
                            cases r with
                            | true =>
                              go_quiet (fail)
                              obtain ⟨X5, hX5⟩ : ∃ X5, X4.drewN nq = X5 := ⟨_, rfl⟩
                              have y0 : X5.cell? ⟨wr.heap.size, 0, none⟩ = some (.int .i64 2) := by rw [← hX5]; exact z0
                              have y1 : X5.cell? ⟨wr.heap.size, 1, none⟩ = some (.int .i64 (q : Int)) := by rw [← hX5]; exact z1
                              have hc6 : X5.cell? ⟨sb, 16 + q, none⟩ = some (.bool true) := by rw [← hX5]; exact hc5
                              have hf6 : X5.frozen? ⟨sb, 16 + q, none⟩ = false := by rw [← hX5]; exact hf5
                              have HB5 := Lib.hid (show AckAny w1 X5 cb sb pp c7 (addP L P) (addP L (P.take k)) (n + 1) from by rw [← hX5]; exact HB4.out.below (bdrewN (Below.refl _ _) _))
                              rw [hX5]
                              clear hX5 z0 z1 hc5 hf5 HB4
                              go_wp2_with fail
                              have hwl : IntKind.i64.wrap 1 = 1 := by decide +kernel
                              refine wp_region_forced 7 (by kernel_rfl) (by kernel_rfl) ?_
                              simp only [List.take_succ_cons, List.take_zero, List.drop_succ_cons, List.drop_zero, List.size_toArray, List.length_cons, List.length_nil, Nat.zero_add, Nat.reduceAdd]
                              refine wpAny_of_held (S := fun X : World => X.cell? ⟨wr.heap.size, 0, none⟩ = some (.int .i64 2) ∧ X.cell? ⟨wr.heap.size, 1, none⟩ = some (.int .i64 (q : Int))) _ _ _ _ ?_
                              have hS0 : (fun X : World => X.cell? ⟨wr.heap.size, 0, none⟩ = some (.int .i64 2) ∧ X.cell? ⟨wr.heap.size, 1, none⟩ = some (.int .i64 (q : Int))) X5.drew := ⟨y0, y1⟩
                              refine wpAnyH_take (i := 0) (v := ?_) rfl (by kernel_rfl) (by kernel_rfl) (by kernel_rfl) (fun _ _ _ h => h) (Or.inl ⟨by rfl, ?_⟩) hS0 ?_
                              rotate_left
                              · intro w hSw; (try dsimp only at hSw); go_simp; (first | done | with_reducible rfl)
                              simp only [Act.put, List.setIfInBounds_toArray]
                              refine wpAnyH_take (i := 1) (v := ?_) rfl (by kernel_rfl) (by kernel_rfl) (by kernel_rfl) (fun _ _ _ h => h) (Or.inl ⟨by rfl, ?_⟩) hS0 ?_
                              rotate_left
                              · intro w hSw; (try dsimp only at hSw); go_simp; (first | done | with_reducible rfl)
                              simp only [Act.put]
                              refine wpAnyH_take (i := 2) (v := ?_) rfl (by kernel_rfl) (by kernel_rfl) (by kernel_rfl) (fun _ _ _ h => h) (Or.inl ⟨by rfl, ?_⟩) hS0 ?_
                              rotate_left
                              · intro w hSw; (try dsimp only at hSw); go_simp; (first | done | with_reducible rfl)
                              simp only [Act.put]
                              refine wpAnyH_take (i := 3) (v := ?_) rfl (by kernel_rfl) (by kernel_rfl) (by kernel_rfl) (fun _ _ _ h => h) (Or.inl ⟨by rfl, ?_⟩) hS0 ?_
                              rotate_left
                              · intro w hSw; (try dsimp only at hSw); go_simp; (first | done | with_reducible rfl)
                              simp only [Act.put]
                              refine wpAnyH_take (i := 4) (v := ?_) rfl (by kernel_rfl) (by kernel_rfl) (by kernel_rfl) (fun _ _ _ h => h) (Or.inl ⟨by rfl, ?_⟩) hS0 ?_
                              rotate_left
                              · intro w hSw; (try dsimp only at hSw); go_simp; (first | done | with_reducible rfl)
                              simp only [Act.put]
                              refine wpAnyH_take (i := 5) (v := ?_) rfl (by kernel_rfl) (by kernel_rfl) (by kernel_rfl) (fun _ _ _ h => h) (Or.inl ⟨by rfl, ?_⟩) hS0 ?_
                              rotate_left
                              · intro w hSw; (try dsimp only at hSw); go_simp; (first | done | with_reducible rfl)
                              simp only [Act.put]
                              refine wpAnyH_take (i := 6) (v := ?_) rfl (by kernel_rfl) (by kernel_rfl) (by kernel_rfl) (fun _ _ _ h => h) (Or.inl ⟨by rfl, ?_⟩) hS0 ?_
                              rotate_left
                              · intro w hSw; (try dsimp only at hSw); go_simp; (first | done | with_reducible rfl)
                              simp only [Act.put]
                              refine wpAnyH_done (by kernel_rfl) ?_ _
                              show wpList _ _ _ _ _ _
                              go_wp2_with fail
                              refine ⟨⟨k + 1, by omega, by simp, ?_, Lib.hid ?_⟩, ?_⟩
                              · rw [HAT.out, HLN.out, if_pos (show ((2 : Int), (q : Int)) ∈ _ from of_decide_eq_true HRR.out), HNL.out]
                              · rw [HAT.out]
                                have := (HB5.out.below (Below.refl _ _).drew).set HSB.out (Nat.lt_of_lt_of_le HG.out HB1.out.size) 1 q hq16
                                rw [show 1 * 16 + q = 16 + q by omega] at this
                                exact this
                              · simp only [RowKit.intOf]
                                omega
                            | false =>
                              go_quiet (fail)
                              obtain ⟨X5, hX5⟩ : ∃ X5, X4.drewN nq = X5 := ⟨_, rfl⟩
                              have y0 : X5.cell? ⟨wr.heap.size, 0, none⟩ = some (.int .i64 2) := by rw [← hX5]; exact z0
                              have y1 : X5.cell? ⟨wr.heap.size, 1, none⟩ = some (.int .i64 (q : Int)) := by rw [← hX5]; exact z1
                              have hc6 : X5.cell? ⟨sb, 16 + q, none⟩ = some (.bool false) := by rw [← hX5]; exact hc5
                              have hf6 : X5.frozen? ⟨sb, 16 + q, none⟩ = false := by rw [← hX5]; exact hf5
                              have HB5 := Lib.hid (show AckAny w1 X5 cb sb pp c7 (addP L P) (addP L (P.take k)) (n + 1) from by rw [← hX5]; exact HB4.out.below (bdrewN (Below.refl _ _) _))
                              rw [hX5]
                              clear hX5 z0 z1 hc5 hf5 HB4
                              go_wp2_with fail
                              have hwl : IntKind.i64.wrap 1 = 1 := by decide +kernel
                              refine wp_region_forced 7 (by kernel_rfl) (by kernel_rfl) ?_
                              simp only [List.take_succ_cons, List.take_zero, List.drop_succ_cons, List.drop_zero, List.size_toArray, List.length_cons, List.length_nil, Nat.zero_add, Nat.reduceAdd]
                              refine wpAny_of_held (S := fun X : World => X.cell? ⟨wr.heap.size, 0, none⟩ = some (.int .i64 2) ∧ X.cell? ⟨wr.heap.size, 1, none⟩ = some (.int .i64 (q : Int))) _ _ _ _ ?_
                              have hS0 : (fun X : World => X.cell? ⟨wr.heap.size, 0, none⟩ = some (.int .i64 2) ∧ X.cell? ⟨wr.heap.size, 1, none⟩ = some (.int .i64 (q : Int))) X5.drew := ⟨y0, y1⟩
                              refine wpAnyH_take (i := 0) (v := ?_) rfl (by kernel_rfl) (by kernel_rfl) (by kernel_rfl) (fun _ _ _ h => h) (Or.inl ⟨by rfl, ?_⟩) hS0 ?_
                              rotate_left
                              · intro w hSw; (try dsimp only at hSw); go_simp; (first | done | with_reducible rfl)
                              simp only [Act.put, List.setIfInBounds_toArray]
                              refine wpAnyH_take (i := 1) (v := ?_) rfl (by kernel_rfl) (by kernel_rfl) (by kernel_rfl) (fun _ _ _ h => h) (Or.inl ⟨by rfl, ?_⟩) hS0 ?_
                              rotate_left
                              · intro w hSw; (try dsimp only at hSw); go_simp; (first | done | with_reducible rfl)
                              simp only [Act.put]
                              refine wpAnyH_take (i := 2) (v := ?_) rfl (by kernel_rfl) (by kernel_rfl) (by kernel_rfl) (fun _ _ _ h => h) (Or.inl ⟨by rfl, ?_⟩) hS0 ?_
                              rotate_left
                              · intro w hSw; (try dsimp only at hSw); go_simp; (first | done | with_reducible rfl)
                              simp only [Act.put]
                              refine wpAnyH_take (i := 3) (v := ?_) rfl (by kernel_rfl) (by kernel_rfl) (by kernel_rfl) (fun _ _ _ h => h) (Or.inl ⟨by rfl, ?_⟩) hS0 ?_
                              rotate_left
                              · intro w hSw; (try dsimp only at hSw); go_simp; (first | done | with_reducible rfl)
                              simp only [Act.put]
                              refine wpAnyH_take (i := 4) (v := ?_) rfl (by kernel_rfl) (by kernel_rfl) (by kernel_rfl) (fun _ _ _ h => h) (Or.inl ⟨by rfl, ?_⟩) hS0 ?_
                              rotate_left
                              · intro w hSw; (try dsimp only at hSw); go_simp; (first | done | with_reducible rfl)
                              simp only [Act.put]
                              refine wpAnyH_take (i := 5) (v := ?_) rfl (by kernel_rfl) (by kernel_rfl) (by kernel_rfl) (fun _ _ _ h => h) (Or.inl ⟨by rfl, ?_⟩) hS0 ?_
                              rotate_left
                              · intro w hSw; (try dsimp only at hSw); go_simp; (first | done | with_reducible rfl)
                              simp only [Act.put]
                              refine wpAnyH_take (i := 6) (v := ?_) rfl (by kernel_rfl) (by kernel_rfl) (by kernel_rfl) (fun _ _ _ h => h) (Or.inl ⟨by rfl, ?_⟩) hS0 ?_
                              rotate_left
                              · intro w hSw; (try dsimp only at hSw); go_simp; (first | done | with_reducible rfl)
                              simp only [Act.put]
                              refine wpAnyH_done (by kernel_rfl) ?_ _
                              show wpList _ _ _ _ _ _
                              go_wp2_with fail
                              refine ⟨⟨k + 1, by omega, by simp, ?_, Lib.hid ?_⟩, ?_⟩
                              · rw [HAT.out, HLN.out, if_neg (show ¬ ((2 : Int), (q : Int)) ∈ _ from of_decide_eq_false HRR.out), HNL.out]
                                rfl
                              · rw [HAT.out]
                                have := (HB5.out.below (Below.refl _ _).drew).set HSB.out (Nat.lt_of_lt_of_le HG.out HB1.out.size) 1 q hq16
                                rw [show 1 * 16 + q = 16 + q by omega] at this
                                exact this
                              · simp only [RowKit.intOf]
                                omega
                        · obtain rfl : k = P.length := by omega
                          rw [List.take_length] at HB ⊢
                          rcases HB.out with ⟨hln, hdn⟩ | ⟨hln, hrl⟩
                          · obtain ⟨j, hj, hjd, hjn⟩ := hdn.job
                            have HDN := Lib.hid hdn
                            have HJC := Lib.hid (show Calls Tryz.prog 33 #[.pointer (some ⟨cb, 0, none⟩), .int .i64 0] _ (JobOut j _) from aw_jobs hdn.awp.aw hdn.ok hj)
                            unfold JobOut jobV at HJC
                            rw [hln]
                            have hpr2 := HPR.out
                            have HJD := Lib.hid hjd
                            have HJN := Lib.hid hjn
                            clear hj hjd hjn hln hdn
                            go_wp2_with fail
                            (with_reducible refine HJC.out.mono ?_)
                            rintro e w8 ⟨pv, av, rfl, hB8, ho1, ho2⟩
                            obtain ⟨Bp, dp, rfl, -, -, -, -⟩ := own_form ho1
                            obtain ⟨Ba, da, rfl, -, -, -, -⟩ := own_form ho2
                            have v3 : (w8.alloc (.cells #[.int .i64 j.att, .int .i64 j.rd, .int .i64 j.kp, .int .i64 j.done, .int .i64 j.num, .int .i64 j.next, .slice Bp j.places.length dp, .slice Ba j.acked.length da] 55)).cell? ⟨w8.heap.size, 3, none⟩ = some (.int .i64 1) := cell_new rfl (by rw [← HJD.out]; rfl)
                            have v4 : (w8.alloc (.cells #[.int .i64 j.att, .int .i64 j.rd, .int .i64 j.kp, .int .i64 j.done, .int .i64 j.num, .int .i64 j.next, .slice Bp j.places.length dp, .slice Ba j.acked.length da] 55)).cell? ⟨w8.heap.size, 4, none⟩ = some (.int .i64 0) := cell_new rfl (by rw [← HJN.out]; rfl)
                            have HBZ := Lib.hid (show Below wr.heap.size wr (w8.alloc (.cells #[.int .i64 j.att, .int .i64 j.rd, .int .i64 j.kp, .int .i64 j.done, .int .i64 j.num, .int .i64 j.next, .slice Bp j.places.length dp, .slice Ba j.acked.length da] 55)) from go hB8 (box_below _ _))
                            clear ho1 ho2 hB8 HJC x0
                            go_wp2_with fail
                            (with_reducible refine (CA.out _ (go HW3.out HBZ.out)).mono ?_)
                            rintro e w9 ⟨rfl, hB9⟩
                            have x9 := kc (go HW3.out (go HBZ.out hB9)) HX0.out
                            have HS := Lib.hid (HDN.out.stale (by have := HNN.out; omega) (go HBZ.out hB9) P _ HPT.out HPL.out)
                            go_wp2_with fail
                            (with_reducible refine HS.out.mono ?_)
                            rintro e w10 ⟨rfl, hB10⟩
                            go_wp2
                            go_ret
                            exact ⟨rfl, go HB1.out hB10⟩
                          · have HA8 := Lib.hid hrl
                            clear hln hrl
                            obtain ⟨j, hj, hjf, -⟩ := HA8.out.job
                            obtain ⟨⟨-, -, hjn, hjd, -⟩, hjl⟩ := hjf rfl
                            have HJC := Lib.hid (show Calls Tryz.prog 33 #[.pointer (some ⟨cb, 0, none⟩), .int .i64 0] _ (JobOut j _) from aw_jobs HA8.out.awp.aw HA8.out.ok hj)
                            unfold JobOut jobV at HJC
                            have tl : (((addP L P).length : Int) == pp + 16) = false := by simpa using hjl
                            have HPR2 := HPR.out
                            have HJD := Lib.hid hjd
                            have HJN := Lib.hid hjn
                            clear hj hjf hjl hjd hjn
                            go_wp2_with fail
                            (with_reducible refine HJC.out.mono ?_)
                            rintro e w8 ⟨pv, av, rfl, hB8, ho1, ho2⟩
                            obtain ⟨Bp, dp, rfl, -, -, -, -⟩ := own_form ho1
                            obtain ⟨Ba, da, rfl, -, -, -, -⟩ := own_form ho2
                            have v3 : (w8.alloc (.cells #[.int .i64 j.att, .int .i64 j.rd, .int .i64 j.kp, .int .i64 j.done, .int .i64 j.num, .int .i64 j.next, .slice Bp j.places.length dp, .slice Ba j.acked.length da] 55)).cell? ⟨w8.heap.size, 3, none⟩ = some (.int .i64 0) := cell_new rfl (by rw [← HJD.out]; rfl)
                            have v4 : (w8.alloc (.cells #[.int .i64 j.att, .int .i64 j.rd, .int .i64 j.kp, .int .i64 j.done, .int .i64 j.num, .int .i64 j.next, .slice Bp j.places.length dp, .slice Ba j.acked.length da] 55)).cell? ⟨w8.heap.size, 4, none⟩ = some (.int .i64 1) := cell_new rfl (by rw [← HJN.out]; rfl)
                            have HAZ := Lib.hid ((HA8.out.below hB8).below (box_below w8 (.cells #[.int .i64 j.att, .int .i64 j.rd, .int .i64 j.kp, .int .i64 j.done, .int .i64 j.num, .int .i64 j.next, .slice Bp j.places.length dp, .slice Ba j.acked.length da] 55)))
                            clear ho1 ho2 hB8 HJC
                            go_wp2_with fail
                            refine ⟨⟨i + 1, n + 1, c7, false, addP L P, by omega, by simp, rfl, rfl, Lib.hid ⟨HAZ.out, by have := HA.out.2.1; omega, (fun e => by cases e), by have := HA.out.2.2.2; have := addP_le P L; have := HP100.out; omega⟩⟩, ?_⟩
                            simp only [RowKit.intOf]
                            omega
              · obtain rfl : i = rows.length := by omega
                go_wp2_with fail
                (with_reducible refine (CA.out _ HWW.out).mono ?_)
                rintro e w3 ⟨rfl, hB3⟩
                go_wp2
                go_ret
                exact ⟨rfl, go HWW.out hB3⟩
end Go.Proofs.YtkjajlolfcioiaaGreatDoor.Control
