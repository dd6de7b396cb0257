/- GraphPairs, walked. -/
import Derived.Test.YtkjajlolfcioiaaGreatDoorLawGB
import Derived.Deep.RegionHeld3
import Derived.WalkSpells
namespace Go.Proofs.YtkjajlolfcioiaaGreatDoor.Graph
open Go.RowKit Go.Proofs.YtkjajlolfcioiaaGreatDoor Go.Proofs.YtkjajlolfcioiaaGreatDoor.Own Go.Proofs.YtkjajlolfcioiaaGreatDoor.Tail Go.Proofs.YtkjajlolfcioiaaGreatDoor.Mp Go.Proofs.YtkjajlolfcioiaaGreatDoor.Ints Go.Proofs.YtkjajlolfcioiaaGreatDoor.Scan Go.Proofs.YtkjajlolfcioiaaGreatDoor.Plan Go.Proofs.YtkjajlolfcioiaaGreatDoor.Expr Go.Proofs.YtkjajlolfcioiaaGreatDoor.Check Go.Lib

/-- the law answers true. -/
def Yes (w : World) (e : Ending) (w' : World) : Prop := e = .returned (.bool true) ∧ Below w.heap.size w w'
/-- the law's examples hold, in every later world. -/
def Awake (w : World) : Prop := ∀ X, Below w.heap.size w X → Calls Tryz.prog 18 #[] X (Yes X)
theorem small_is (tops : List Top) (fl : List FlwV) (tv fv : Value) (w : World) (hP : PlanAt w tv fv tops fl) (hl : fl.length ≤ 1000000000000) (hS : SmallFlows fl) (hT : Tab w) (hg : 5 < w.heap.size) (hA : Awake w) (hE : planE (plnOf tops fl) ≠ 0) :
    Calls Tryz.prog 4 #[.agg #[tv, fv]] w (Yes w) := by
  have hP1 := hP.below (box_below w (.cells #[tv, fv] 25))
  have HSM := Lib.hid (small_calls tops fl tv fv _ hP1 hl)
  have hord := fun X (k : Below w.heap.size w X) => order_calls tops fl tv fv X (hP.below k) hS (hT.below k) (by have := k.size; omega)
  have hR : orderR (plnOf tops fl) = ([], planE (plnOf tops fl)) := by unfold orderR; rw [if_pos hE]
  have hc := code_plan (plnOf tops fl)
  rw [hR] at hord
  obtain ⟨E, hEE⟩ : ∃ E, planE (plnOf tops fl) = E := ⟨_, rfl⟩
  rw [hEE] at hE hc
  simp only [hEE] at hord
  have HORD := Lib.hid hord
  have t1 : ((E : Int) != 0) = true := by simpa using hE
  have t2 : ((E : Int) != 60) = true := by simpa using hc
  have HA := Lib.hid hA
  obtain ⟨⟨A1, c1, rfl, hc1, hr1⟩, ⟨A2, c2, rfl, hc2, hr2⟩, hpre, hpost⟩ := hP
  clear hr1 hr2 hpre hpost hP1 hS hT hord hR hE hc hEE hA
  go_enter Tryz.func4, Tryz.ntmps4
  go_wp2_with fail
  refine HSM.out.mono ?_
  rintro e w1 ⟨⟨b, rfl⟩, hB1⟩
  have b0 : w1.cell? ⟨w.heap.size, 0, none⟩ = some (.slice A1 tops.length c1) := kc hB1 (cell_new rfl rfl)
  have b1 : w1.cell? ⟨w.heap.size, 1, none⟩ = some (.slice A2 fl.length c2) := kc hB1 (cell_new rfl rfl)
  have HB1 := Lib.hid (go (box_below _ _) hB1)
  clear hB1
  cases b
  · go_wp2
    go_ret
    exact ⟨rfl, HB1.out⟩
  · go_wp2_with (first
      | (go_at_call 17; go_must (refine (HORD.out _ HB1.out).mono ?_); rintro e w2 ⟨v, rfl, ⟨vA, vc, rfl, -, -⟩, hB2⟩; have HB2 := Lib.hid (go HB1.out hB2); clear hB2)
      | (go_at_call 18; go_must (refine (HA.out _ HB2.out).mono ?_); rintro e w3 ⟨rfl, hB3⟩; have HB3 := Lib.hid (go HB2.out hB3); clear hB3))
    go_ret
    exact ⟨rfl, HB3.out⟩
theorem rch_range {nx : Int → List Int} {n : Nat} (hr : ∀ i, ∀ k ∈ nx i, 0 ≤ k ∧ k < (n : Int)) {i k : Int} (h : Rch nx i k) : 0 ≤ k ∧ k < n := by
  induction h with
  | one hk => exact hr _ _ hk
  | more _ _ ih => exact ih
theorem nxA_range {F : List Int} (hF : EdgesOk F) (i : Int) : ∀ k ∈ nxA F i, 0 ≤ k ∧ k < (F.length : Int) := fun k hk => by
  obtain ⟨h0, h1, h2, h3⟩ := mem_nxA.1 hk
  exact ⟨h2, by rw [← h3]; exact (hF _ (getD_mem (by omega))).2⟩
theorem nxB_range {F : List Int} (i : Int) : ∀ k ∈ nxB F i, 0 ≤ k ∧ k < (F.length : Int) := fun k hk => by
  obtain ⟨h0, h1, _⟩ := mem_nxB.1 hk
  exact ⟨h0, h1⟩
theorem rises_nodup {L : List Int} (h : L.Pairwise (· < ·)) : L.Nodup := by
  rw [List.nodup_iff_pairwise_ne]
  exact h.imp (fun q e => by omega)
/-- what is told of a flow that is there. -/
def Told2 (P : Int → Prop) (w : World) (e : Ending) (w' : World) : Prop := ∃ A c L, e = .returned (.tuple #[.slice A L.length c, .int .i64 0]) ∧ L.length ≤ 1000 ∧ (∀ k, k ∈ L ↔ P k) ∧ IntsAt w' (.slice A L.length c) L ∧ Below w.heap.size w w'
theorem told_of {p : Pln} {i : Int} {P : Int → Prop} {n : Nat} (h0 : gE p i = 0) (hn : n ≤ 1000) (hP : ∀ k, P k → 0 ≤ k ∧ k < (n : Int)) {w : World} {e : Ending} {w' : World} (h : GraphPost p i P w e w') : Told2 P w e w' := by
  obtain ⟨v, L, he, h1, _, h3, ⟨A, c, hv, hc, hr⟩, hB⟩ := h
  have hm := h3 h0
  have hlen := nodup_len n L (rises_nodup h1) (fun x hx => hP x ((hm x).1 hx))
  subst hv
  refine ⟨A, c, L, by rw [he, h0], by omega, hm, ⟨A, c, rfl, hc, hr⟩, hB⟩
theorem gE_zero {p : Pln} {i : Int} (h : planE p = 0) (h0 : 0 ≤ i) (h1 : i < p.flows.length) : gE p i = 0 := by
  unfold gE
  rw [if_neg (by simpa using h), if_neg (by omega)]
theorem head_ints {w : World} {A : Option Addr} {n c k : Nat} {L : List Int} (h : IntsAt w (.slice A n c) L) (hk : k ≤ L.length) : IntsAt w (.slice A k c) (L.take k) := by
  obtain ⟨A', c', e, hc, hr⟩ := h
  cases e
  have hl : (L.take k).length = k := by rw [List.length_take]; omega
  refine ⟨A, c, by rw [hl], by omega, fun h0 => ?_⟩
  obtain ⟨b, o, rfl, hrow⟩ := hr (by omega)
  refine ⟨b, o, rfl, fun j u hj => hrow j u ?_⟩
  rw [List.map_take, List.getElem?_take] at hj
  split at hj
  · exact hj
  · cases hj
set_option maxHeartbeats 16000000 in
set_option maxRecDepth 100000 in
theorem pairs_main (tops : List Top) (fl : List FlwV) (tv fv : Value) (w : World) (hP : PlanAt w tv fv tops fl) (hl : fl.length ≤ 1000000000000) (hS : SmallFlows fl) (hT : Tab w) (hg : 5 < w.heap.size) (hA : Awake w) (hE : planE (plnOf tops fl) = 0) :
    Calls Tryz.prog 4 #[.agg #[tv, fv]] w (Yes w) := by
  have hP1 := hP.below (box_below w (.cells #[tv, fv] 25))
  have HSM := Lib.hid (small_calls tops fl tv fv _ hP1 hl)
  have h8 := planE_flows hE
  have hF := edgesL_ok (fl.map (·.f))
  have hFl := edgesL_length (fl.map (·.f))
  rw [List.length_map] at hFl
  have hfl : (plnOf tops fl).flows.length = fl.length := by simp [plnOf]
  have hord := fun X (k : Below w.heap.size w X) => order_calls tops fl tv fv X (hP.below k) hS (hT.below k) (by have := k.size; omega)
  have hah := fun X (i : Int) (k : Below w.heap.size w X) (h0 : 0 ≤ i) (h1 : i < fl.length) => (ahead_calls tops fl tv fv i X (hP.below k) hS (hT.below k) (by have := k.size; omega)).mono (fun e w' h => told_of (gE_zero hE h0 (by rw [hfl]; exact h1)) (n := fl.length) (by omega) (fun k hk => by have := rch_range (nxA_range hF) hk; rw [hFl] at this; exact this) h)
  have hbe := fun X (i : Int) (k : Below w.heap.size w X) (h0 : 0 ≤ i) (h1 : i < fl.length) => (behind_calls tops fl tv fv i X (hP.below k) hS (hT.below k) (by have := k.size; omega)).mono (fun e w' h => told_of (gE_zero hE h0 (by rw [hfl]; exact h1)) (n := fl.length) (by omega) (fun k hk => by have := rch_range nxB_range hk; rw [hFl] at this; exact this) h)
  have hR : orderR (plnOf tops fl) = if (orderL (edgesL (fl.map (·.f)))).length < fl.length then ([], 60) else (orderL (edgesL (fl.map (·.f))), 0) := by
    unfold orderR; rw [if_neg (by simpa using hE)]; simp [plnOf]
  rw [hR] at hord
  have hli := loop_iff hF
  have hai := fun (p : Nat) (x k : Int) => ahead_in (F := edgesL (fl.map (·.f))) (p := p) (x := x) (k := k)
  have hna := fun (p : Nat) (x : Int) => not_ahead (F := edgesL (fl.map (·.f))) (p := p) (x := x)
  have hin := fun (x : Int) (hx : x ∈ orderL (edgesL (fl.map (·.f)))) => (orderL_is (edgesL (fl.map (·.f)))).1.range x hx
  have hle := (orderL_is (edgesL (fl.map (·.f)))).1.len
  obtain ⟨F, hFe⟩ : ∃ F, edgesL (fl.map (·.f)) = F := ⟨_, rfl⟩
  simp only [hFe] at hF hFl hord hah hbe hli hai hna hin hle
  rw [hFl] at hli hle
  -- the order: its list, its code
  obtain ⟨q, hq⟩ : ∃ q, decide ((orderL F).length < fl.length) = q := ⟨_, rfl⟩
  obtain ⟨Rl, hRl⟩ : ∃ Rl : List Int, Rl = if q = true then [] else orderL F := ⟨_, rfl⟩
  obtain ⟨Re, hRe⟩ : ∃ Re : Int, Re = if q = true then 60 else 0 := ⟨_, rfl⟩
  have hord2 : ∀ X, Below w.heap.size w X → Calls Tryz.prog 17 #[.agg #[tv, fv]] X (OrderPost (Rl, Re) X) := fun X k => by
    have := hord X k
    by_cases hs : (orderL F).length < fl.length
    · rw [if_pos hs] at this
      have hqt : q = true := by rw [← hq]; exact decide_eq_true hs
      rw [hRl, hRe, if_pos hqt, if_pos hqt]
      exact this
    · rw [if_neg hs] at this
      have hqf : q = false := by rw [← hq]; exact decide_eq_false hs
      rw [hRl, hRe, if_neg (by rw [hqf]; simp), if_neg (by rw [hqf]; simp)]
      exact this
  have hrl : Rl.length ≤ 8 := by
    rw [hRl]
    by_cases h : q = true
    · rw [if_pos h]; simp
    · rw [if_neg h]; omega
  have hro : 0 < Rl.length → Rl = orderL F := fun h0 => by
    by_cases h : q = true
    · rw [hRl, if_pos h] at h0; simp at h0
    · rw [hRl, if_neg h]
  have hlen : q = false → Rl.length = fl.length := fun h => by
    rw [hRl, if_neg (by rw [h]; simp)]
    have : ¬ (orderL F).length < fl.length := of_decide_eq_false (hq.trans h)
    omega
  have HRO1 := Lib.hid hro
  have HLEN := Lib.hid hlen
  have HORD := Lib.hid hord2
  have HAH := Lib.hid hah
  have HBE := Lib.hid hbe
  have HLI := Lib.hid hli
  have HAI := Lib.hid hai
  have HNA := Lib.hid hna
  have HIN := Lib.hid hin
  have HQ := Lib.hid hq
  have HRL := Lib.hid hRl
  have HRE := Lib.hid hRe
  have HF := Lib.hid hF
  have HFL := Lib.hid hFl
  have HLE := Lib.hid hle
  have HA := Lib.hid hA
  obtain ⟨⟨A1, c1, rfl, hc1, hr1⟩, ⟨A2, c2, rfl, hc2, hr2⟩, hpre, hpost⟩ := hP
  clear hr1 hr2 hpre hpost hP1 hS hT hord hord2 hR hE hFe hA hF hFl hfl hah hbe hli hai hna hin hle hq hRl hRe hl hro hlen
  go_enter Tryz.func4, Tryz.ntmps4
  go_wp2_with fail
  refine HSM.out.mono ?_
  rintro e w1 ⟨⟨b, rfl⟩, hB1⟩
  have b0 : w1.cell? ⟨w.heap.size, 0, none⟩ = some (.slice A1 tops.length c1) := kc hB1 (cell_new rfl rfl)
  have b1 : w1.cell? ⟨w.heap.size, 1, none⟩ = some (.slice A2 fl.length c2) := kc hB1 (cell_new rfl rfl)
  have HB1 := Lib.hid (go (box_below _ _) hB1)
  clear hB1
  cases b
  · go_wp2
    go_ret
    exact ⟨rfl, HB1.out⟩
  · go_wp2_with fail
    refine (HORD.out _ HB1.out).mono ?_
    rintro e w2 ⟨v, rfl, hv, hB2⟩
    obtain ⟨vA, vc, rfl, hvc, hvr⟩ := hv
    have HV := Lib.hid (show IntsAt w2 (.slice vA Rl.length vc) Rl from ⟨vA, vc, rfl, hvc, hvr⟩)
    have B0 := Lib.hid (kc hB2 b0)
    have B1 := Lib.hid (kc hB2 b1)
    have HB2 := Lib.hid (go HB1.out hB2)
    clear hB2 b0 b1 HB1 hvr HORD HSM
    have t1 : ((Re : Int) != 0) = q := by rw [HRE.out]; cases q <;> rfl
    have t2 : ((Re : Int) != 60) = !q := by rw [HRE.out]; cases q <;> rfl
    have t3 : ((Re : Int) == 60) = q := by rw [HRE.out]; cases q <;> rfl
    clear HRE
    cases q
    all_goals
      go_wp2
      go_loopw [5, 6] (fun lv iv wr => ∃ (k1 : Nat) (lb : Bool), k1 ≤ fl.length ∧ iv = .int .i64 (k1 : Int) ∧ lv = .bool lb ∧ Hid (lb = true ↔ ∃ j : Nat, j < k1 ∧ Rch (nxB F) j j) ∧ Below w2.heap.size w2 wr) (fun _ iv _ => fl.length - (RowKit.intOf iv).toNat)
      case atStart => exact ⟨0, false, Nat.zero_le _, rfl, rfl, Lib.hid ⟨fun h => by simp at h, fun ⟨j, hj, _⟩ => absurd hj (by omega)⟩, Below.refl _ _⟩
      case round =>
        obtain ⟨wo, rfl⟩ : ∃ wo : World, wo = wr := ⟨_, rfl⟩
        obtain ⟨k1, lb, hk1, rfl, rfl, hlb, hB⟩ := hrel
        have r0 := kc hB B0.out
        have r1 := kc hB B1.out
        by_cases hlt : k1 < fl.length
        · have hlt' : (k1 : Int) < fl.length := by omega
          have HB := Lib.hid (go HB2.out hB)
          have HBW := Lib.hid hB
          have hk1c : (0 : Int) ≤ k1 := by omega
          clear hB
          go_wp2_with fail
          refine (HBE.out _ (k1 : Int) HB.out hk1c hlt').mono ?_
          rintro e w5 ⟨A5, c5, L5, rfl, hl5, hm5, hi5, hB5⟩
          have HM5 := Lib.hid hm5
          have HI5 := Lib.hid hi5
          have HB5 := Lib.hid (go HB.out hB5)
          have HBW5 := Lib.hid (go HBW.out hB5)
          clear hm5 hi5 hB5 r0 r1
          obtain ⟨t5, ht5⟩ : ∃ t, decide ((k1 : Int) ∈ L5) = t := ⟨_, rfl⟩
          have hin5 := lawin_calls (.slice A5 L5.length c5) L5 (k1 : Int) w5 HI5.out hl5
          rw [ht5] at hin5
          have HIN5 := Lib.hid hin5
          have hlb2 : (lb || t5) = true ↔ ∃ j : Nat, j < k1 + 1 ∧ Rch (nxB F) j j := by
            rw [Bool.or_eq_true, hlb.out, ← ht5, decide_eq_true_eq, HM5.out]
            constructor
            · rintro (⟨j, hj, h⟩ | h)
              · exact ⟨j, by omega, h⟩
              · exact ⟨k1, by omega, h⟩
            · rintro ⟨j, hj, h⟩
              by_cases hjk : j < k1
              · exact .inl ⟨j, hjk, h⟩
              · obtain rfl : j = k1 := by omega
                exact .inr h
          have HLB2 := Lib.hid hlb2
          clear hin5 hlb2 ht5 hlb
          obtain ⟨lc, hlc⟩ : ∃ lc, (lb || t5) = lc := ⟨_, rfl⟩
          rw [hlc] at HLB2
          cases lb
          all_goals
            first | (obtain rfl : t5 = lc := hlc) | (obtain rfl : true = lc := hlc)
            go_wp2_with (go_at_call 22; (with_reducible refine (HIN5.out).mono ?_); rintro e w6 ⟨rfl, hw6⟩; rw [hw6]; clear hw6)
            go_loopw [9] (fun kv wr => ∃ k2 : Nat, k2 ≤ fl.length ∧ kv = .int .i64 (k2 : Int) ∧ Below w5.heap.size w5 wr) (fun kv _ => fl.length - (RowKit.intOf kv).toNat)
            case atStart => exact ⟨0, Nat.zero_le _, rfl, Below.refl _ _⟩
            case round =>
              obtain ⟨k2, hk2, rfl, hB⟩ := hrel
              have r0 := kc hB (kc HBW5.out B0.out)
              have r1 := kc hB (kc HBW5.out B1.out)
              by_cases hlt2 : k2 < fl.length
              · have hlt2' : (k2 : Int) < fl.length := by omega
                have hk2c : (0 : Int) ≤ k2 := by omega
                have HBX := Lib.hid hB
                clear hB
                go_wp2_with fail
                refine (HAH.out _ (k2 : Int) (go HB5.out HBX.out) hk2c hlt2').mono ?_
                rintro e w7 ⟨A7, c7, L7, rfl, hl7, hm7, hi7, hB7⟩
                obtain ⟨t, ht⟩ : ∃ t, decide ((k2 : Int) ∈ L5) = t := ⟨_, rfl⟩
                have ht2 : decide ((k1 : Int) ∈ L7) = t := by
                  rw [← ht]
                  have := (hm7 k1).trans (((rch_swap hk1c).symm).trans (HM5.out k2).symm)
                  exact decide_eq_decide.2 this
                have h1 := lawin_calls (.slice A7 L7.length c7) L7 (k1 : Int) w7 hi7 hl7
                have h2 := lawin_calls (.slice A5 L5.length c5) L5 (k2 : Int) w7 ((HI5.out.below HBX.out).below hB7) hl5
                rw [ht2] at h1
                rw [ht] at h2
                have H1 := Lib.hid h1
                have H2 := Lib.hid h2
                have HBY := Lib.hid (go HBX.out hB7)
                clear h1 h2 ht ht2 hm7 hi7 hB7 r0 r1
                cases t
                all_goals
                  go_wp2_with (first | (go_at_call 22; (with_reducible refine (H1.out).mono ?_); rintro e w8 ⟨rfl, rfl⟩) | (go_at_call 22; (with_reducible refine (H2.out).mono ?_); rintro e w8 ⟨rfl, rfl⟩))
                  go_roundw
                  case rel => exact ⟨k2 + 1, by omega, by go_num, HBY.out⟩
                  case measure => simp [RowKit.intOf]; omega
              · obtain rfl : k2 = fl.length := by omega
                have hlt2' : ¬ (fl.length : Int) < fl.length := by omega
                have HBZ := Lib.hid (go HBW5.out hB)
                clear hB
                go_wp2
                go_roundw
                case rel => exact ⟨k1 + 1, _, by omega, by go_num, rfl, Lib.hid ⟨fun h => HLB2.out.1 (by first | exact h | trivial), fun h => by first | exact HLB2.out.2 h | rfl⟩, HBZ.out⟩
                case measure => simp [RowKit.intOf]; omega
        · obtain rfl : k1 = fl.length := by omega
          have hlt' : ¬ (fl.length : Int) < fl.length := by omega
          have hlq : lb = decide ((orderL F).length < fl.length) := Bool.eq_iff_iff.2 (by rw [hlb.out, decide_eq_true_eq]; exact HLI.out)
          rw [HQ.out] at hlq
          subst hlq
          have HBW := Lib.hid hB
          clear hB hlb hk1
          go_wp2
          go_loopw [12] (fun iv wr => ∃ k3 : Nat, k3 ≤ Rl.length ∧ iv = .int .i64 (k3 : Int) ∧ Below w2.heap.size w2 wr) (fun iv _ => Rl.length - (RowKit.intOf iv).toNat)
          case atStart => exact ⟨0, Nat.zero_le _, rfl, HBW.out⟩
          case round =>
            clear r0 r1 HBW
            obtain ⟨wp, rfl⟩ : ∃ wp : World, wp = wr := ⟨_, rfl⟩
            obtain ⟨k3, hk3, rfl, hB⟩ := hrel
            have r0 := kc hB B0.out
            have r1 := kc hB B1.out
            have HVW := Lib.hid (HV.out.below hB)
            have HB := Lib.hid (go HB2.out hB)
            have HBW := Lib.hid hB
            clear hB
            by_cases hlt3 : k3 < Rl.length
            · have hlt3' : (k3 : Int) < Rl.length := by omega
              have hRO := HRO1.out (by omega)
              obtain ⟨y, hy⟩ : ∃ y, Rl[k3]? = some y := ⟨_, List.getElem?_eq_getElem hlt3⟩
              obtain ⟨A', c', e', hvc', hcells⟩ := HVW.out
              cases e'
              obtain ⟨b, o, rfl, hrow⟩ := hcells (by omega)
              have d0 : wp.cell? ⟨b, o + k3, none⟩ = some (.int .i64 y) := hrow k3 _ (by rw [List.getElem?_map, hy]; rfl)
              have hy2 := hy
              rw [hRO] at hy2
              obtain ⟨hy0, hy1⟩ := HIN.out y (List.mem_of_getElem? hy2)
              rw [HFL.out] at hy1
              have HY := Lib.hid hy
              have HY2 := Lib.hid hy2
              have HRO := Lib.hid hRO
              have hk3c : (0 : Int) ≤ k3 := by omega
              have hk3v : (k3 : Int) ≤ vc := by omega
              clear hy hy2 hRO hcells hrow
              go_wp2
              go_region_held (fun w' => w'.cell? ⟨w.heap.size, 0, none⟩ = some (.slice A1 tops.length c1) ∧ w'.cell? ⟨w.heap.size, 1, none⟩ = some (.slice A2 fl.length c2) ∧ w'.cell? ⟨b, o + k3, none⟩ = some (.int .i64 y)) (first | exact ⟨r0, r1, d0⟩ | exact ⟨kc hB7 r0, kc hB7 r1, kc hB7 d0⟩) ((go_at_call 23; go_must (refine (HAH.out _ y (by first | exact HB.out.drew | exact HB.out) hy0 hy1).mono ?_); rintro e w7 ⟨A7, c7, L7, rfl, hl7, hm7, hi7, hB7⟩))
              have HM7 := Lib.hid hm7
              have HI7 := Lib.hid hi7
              have HB7w := Lib.hid (show Below wp.heap.size wp w7 from by first | exact hB7 | exact Below.trans (Below.refl _ _).drew hB7)
              clear hm7 hi7 hB7 r0 r1 d0
              have HVB := Lib.hid (go HBW.out HB7w.out)
              go_wp2
              go_loopw [15] (fun iv wr => ∃ k4 : Nat, k4 ≤ L7.length ∧ iv = .int .i64 (k4 : Int) ∧ Below w7.heap.size w7 wr) (fun iv _ => L7.length - (RowKit.intOf iv).toNat)
              case atStart => exact ⟨0, Nat.zero_le _, rfl, Below.refl _ _⟩
              case round =>
                obtain ⟨k4, hk4, rfl, hB⟩ := hrel
                have HVX := Lib.hid ((HV.out.below HVB.out).below hB)
                by_cases hlt4 : k4 < L7.length
                · have hlt4' : (k4 : Int) < L7.length := by omega
                  obtain ⟨z, hz⟩ : ∃ z, L7[k4]? = some z := ⟨_, List.getElem?_eq_getElem hlt4⟩
                  obtain ⟨A'', c'', e'', hc7, hcells⟩ := HI7.out.below hB
                  cases e''
                  obtain ⟨b7, o7, rfl, hrow⟩ := hcells (by omega)
                  have d0 : wr.cell? ⟨b7, o7 + k4, none⟩ = some (.int .i64 z) := hrow k4 _ (by rw [List.getElem?_map, hz]; rfl)
                  have hzin : z ∈ Rl.take k3 := by rw [HRO.out]; exact HAI.out k3 y z HY2.out ((HM7.out z).1 (List.mem_of_getElem? hz))
                  have hk4c : (0 : Int) ≤ k4 := by omega
                  have hq4 : ∀ n, Calls Tryz.prog 22 #[.slice (some ⟨b, o, none⟩) k3 vc, .int .i64 z] (wr.drewN n) fun e w' => e = .returned (.bool true) ∧ w' = wr.drewN n := fun n => by
                    have := lawin_calls (.slice (some ⟨b, o, none⟩) k3 vc) (Rl.take k3) z (wr.drewN n) (show IntsAt (wr.drewN n) _ _ from head_ints HVX.out (by omega)) (by rw [List.length_take]; omega)
                    rw [decide_eq_true hzin] at this
                    exact this
                  have HQ4 := Lib.hid hq4
                  have HBD := Lib.hid hB
                  clear hz hcells hrow hzin hq4 hB
                  go_wp2
                  go_quiet ((go_at_call 22; exact Calls.quiet_of_same (HQ4.out _)))
                  go_wp2
                  go_roundw
                  case rel => exact ⟨k4 + 1, by omega, by go_num, bdrewN HBD.out _⟩
                  case measure => simp [RowKit.intOf]; omega
                · obtain rfl : k4 = L7.length := by omega
                  have hlt4' : ¬ (L7.length : Int) < L7.length := by omega
                  obtain ⟨A'', c'', e'', hvc2, hcells⟩ := HVX.out
                  cases e''
                  obtain ⟨b', o', e3, hrow⟩ := hcells (by omega)
                  cases e3
                  have d0 : wr.cell? ⟨b, o + k3, none⟩ = some (.int .i64 y) := hrow k3 _ (by rw [List.getElem?_map, HY.out]; rfl)
                  have hyn : y ∉ Rl.take k3 := by rw [HRO.out]; exact HNA.out k3 y HY2.out
                  have hq4 : ∀ n, Calls Tryz.prog 22 #[.slice (some ⟨b, o, none⟩) k3 vc, .int .i64 y] (wr.drewN n) fun e w' => e = .returned (.bool false) ∧ w' = wr.drewN n := fun n => by
                    have := lawin_calls (.slice (some ⟨b, o, none⟩) k3 vc) (Rl.take k3) y (wr.drewN n) (show IntsAt (wr.drewN n) _ _ from head_ints HVX.out (by omega)) (by rw [List.length_take]; omega)
                    rw [decide_eq_false hyn] at this
                    exact this
                  have HQ4 := Lib.hid hq4
                  have HBD := Lib.hid (go HVB.out hB)
                  clear hcells hrow hyn hq4 hB
                  go_wp2
                  go_quiet ((go_at_call 22; exact Calls.quiet_of_same (HQ4.out _)))
                  go_wp2
                  go_roundw
                  case rel => exact ⟨k3 + 1, by omega, by go_num, bdrewN HBD.out _⟩
                  case measure => simp [RowKit.intOf]; omega
            · obtain rfl : k3 = Rl.length := by omega
              have hlt3' : ¬ (Rl.length : Int) < Rl.length := by omega
              go_wp2_with (go_at_call 18; go_must (refine (HA.out _ HB.out).mono ?_); rintro e w9 ⟨rfl, hB9⟩; have HB9 := Lib.hid (go HB.out hB9); have r9 := kc hB9 r1; clear hB9)
              go_ret
              refine ⟨?_, HB9.out⟩
              first | (exact rfl) | (have hln : Rl.length = fl.length := (by first | exact HLEN.out trivial | exact HLEN.out rfl | exact HLEN.out); exact ret_bool (by simp [hln]))
/-- GraphPairs answers true. -/
theorem pairs_calls (tops : List Top) (fl : List FlwV) (tv fv : Value) (w : World) (hP : PlanAt w tv fv tops fl) (hl : fl.length ≤ 1000000000000) (hS : SmallFlows fl) (hT : Tab w) (hg : 5 < w.heap.size) (hA : Awake w) :
    Calls Tryz.prog 4 #[.agg #[tv, fv]] w (Yes w) := by
  by_cases hE : planE (plnOf tops fl) = 0
  · exact pairs_main tops fl tv fv w hP hl hS hT hg hA hE
  · exact small_is tops fl tv fv w hP hl hS hT hg hA hE
end Go.Proofs.YtkjajlolfcioiaaGreatDoor.Graph
