/- graph: the steps ahead and behind. -/
import Derived.Test.YtkjajlolfcioiaaGreatDoorGraphE
import Derived.WalkSpells
namespace Go.Proofs.YtkjajlolfcioiaaGreatDoor.Graph
open Go.RowKit Go.Proofs.YtkjajlolfcioiaaGreatDoor Go.Proofs.YtkjajlolfcioiaaGreatDoor.Own Go.Proofs.YtkjajlolfcioiaaGreatDoor.Tail Go.Proofs.YtkjajlolfcioiaaGreatDoor.Mp Go.Proofs.YtkjajlolfcioiaaGreatDoor.Ints Go.Proofs.YtkjajlolfcioiaaGreatDoor.Scan Go.Proofs.YtkjajlolfcioiaaGreatDoor.Plan Go.Proofs.YtkjajlolfcioiaaGreatDoor.Expr Go.Proofs.YtkjajlolfcioiaaGreatDoor.Check Go.Lib

/-- the edges, in a variable. -/
structure EdgeVar (F : List Int) (p g : Nat) (X : World) : Prop where
  c : X.cell? ⟨p, 0, none⟩ = some (.slice (some ⟨g, 0, none⟩) F.length F.length)
  i : Ints X 3 g F
theorem EdgeVar.but {F : List Int} {p g b : Nat} {X Y : World} (h : EdgeVar F p g X) (k : But b X Y) (hp : p ≠ b) (hg : g ≠ b) : EdgeVar F p g Y := ⟨k.cell hp h.c, h.i.but k hg⟩
theorem EdgeVar.below {F : List Int} {p g : Nat} {X Y : World} (h : EdgeVar F p g X) (k : Below X.heap.size X Y) : EdgeVar F p g Y := ⟨kc k h.c, h.i.below k⟩
def nxA (F : List Int) (i : Int) : List Int := if 0 ≤ i ∧ i < F.length ∧ 0 ≤ F.getD i.toNat (-1) then [F.getD i.toNat (-1)] else []
def nxB (F : List Int) (i : Int) : List Int := ((List.range F.length).filter (fun k => decide (F.getD k (-1) = i))).map (fun k : Nat => (k : Int))
theorem getD_some {F : List Int} {k : Nat} (h : k < F.length) : F[k]? = some (F.getD k (-1)) := by
  rw [List.getD_eq_getElem?_getD, List.getElem?_eq_getElem h]
  rfl
set_option maxHeartbeats 2000000 in
theorem ahead1_calls (F : List Int) (p g mb : Nat) (k : Nat) (w : World) (hJ : EdgeVar F p g w) (hk : k < F.length) (hF : F.length ≤ 8) (hg : g ≠ mb) :
    Calls Tryz.prog 61 #[.int .i64 (k : Int), .pointer (some ⟨p, 0, none⟩)] w fun e w' => (∃ v, e = .returned v ∧ AwayAt w' mb v (nxA F k)) ∧ Below w.heap.size w w' := by
  obtain ⟨c0, hI⟩ := hJ
  obtain ⟨x, hx⟩ : ∃ x, F.getD k (-1) = x := ⟨_, rfl⟩
  have hxs := getD_some hk
  rw [hx] at hxs
  have d0 := hI.cell hxs
  have hki : (k : Int) < F.length := by omega
  have hk1 : (k : Int) + 1 ≤ F.length := by omega
  have hf8 : (F.length : Int) ≤ 8 := by omega
  by_cases h0 : x < 0
  · have HN := Lib.hid (show nxA F (k : Int) = [] by unfold nxA; rw [if_neg (by rw [Int.toNat_natCast, hx]; omega)])
    clear hx hxs hI
    go_enter Tryz.func61, Tryz.ntmps61
    go_wp2
    go_ret
    exact ⟨⟨_, rfl, by rw [HN.out]; exact ⟨none, 0, rfl, fun h => absurd h (by simp)⟩⟩, Below.refl _ _⟩
  · have HN := Lib.hid (show nxA F (k : Int) = [x] by unfold nxA; rw [Int.toNat_natCast, hx, if_pos (by omega)])
    have HI := Lib.hid hI
    have HXS := Lib.hid hxs
    clear hx hxs hI
    go_enter Tryz.func61, Tryz.ntmps61
    go_wp2
    go_ret
    refine ⟨⟨_, rfl, ?_⟩, Below.refl _ _⟩
    rw [HN.out]
    refine ⟨some ⟨g, k, none⟩, F.length - k, rfl, fun _ => ⟨g, k, rfl, hg, ?_⟩⟩
    intro j u hj
    rcases j with _ | j
    · obtain rfl : Value.int .i64 x = u := by simpa using hj
      exact HI.out.cell HXS.out
    · simp at hj
theorem nxB_take {F : List Int} {i x : Int} {k : Nat} (hx : F.getD k (-1) = x) :
    ((List.range (k + 1)).filter (fun k => decide (F.getD k (-1) = i))).map (fun k : Nat => (k : Int)) = ((List.range k).filter (fun k => decide (F.getD k (-1) = i))).map (fun k : Nat => (k : Int)) ++ (if x = i then [(k : Int)] else []) := by
  rw [List.range_succ, List.filter_append, List.map_append]
  congr 1
  by_cases h : x = i
  · rw [if_pos h]
    have : decide (F.getD k (-1) = i) = true := by rw [hx]; simpa using h
    rw [List.filter_cons_of_pos (by simpa using this)]
    rfl
  · rw [if_neg h]
    have : ¬ decide (F.getD k (-1) = i) = true := by rw [hx]; simpa using h
    rw [List.filter_cons_of_neg (by simpa using this)]
    rfl
set_option maxHeartbeats 4000000 in
set_option maxRecDepth 100000 in
theorem behind1_calls (F : List Int) (p g mb : Nat) (i : Int) (w : World) (hJ : EdgeVar F p g w) (hF : F.length ≤ 8) (hmb : mb < w.heap.size) :
    Calls Tryz.prog 60 #[.int .i64 i, .pointer (some ⟨p, 0, none⟩)] w fun e w' => (∃ v, e = .returned v ∧ AwayAt w' mb v (nxB F i)) ∧ Below w.heap.size w w' := by
  have c0 := hJ.c
  have HJ := Lib.hid hJ
  have hf8 : (F.length : Int) ≤ 8 := by omega
  clear hJ
  go_enter Tryz.func60, Tryz.ntmps60
  go_wp2
  go_loopw [4, 9] (fun v iv wr => ∃ (k : Nat) (L : List Int), k ≤ F.length ∧ L.length ≤ k ∧ iv = .int .i64 (k : Int) ∧ Hid (((List.range k).filter (fun k => decide (F.getD k (-1) = i))).map (fun k : Nat => (k : Int)) = L) ∧ wr.ownsRow w.heap.size 3 1 v L.length (L.map (Value.int .i64)) ∧ Below w.heap.size w wr) (fun _ iv _ => F.length - (RowKit.intOf iv).toNat)
  case atStart => exact ⟨0, [], Nat.zero_le _, Nat.le_refl _, rfl, Lib.hid rfl, own_nil _ _ _ _, Below.refl _ _⟩
  case round =>
    obtain ⟨k, L, hk, hLk, rfl, hL, hown, hB⟩ := hrel
    by_cases hlt : k < F.length
    · have hlt' : (k : Int) < F.length := by omega
      obtain ⟨x, hx⟩ : ∃ x, F.getD k (-1) = x := ⟨_, rfl⟩
      have hxs := getD_some hlt
      rw [hx] at hxs
      have d0 := (HJ.out.below hB).i.cell hxs
      have HX := Lib.hid (nxB_take (i := i) hx)
      clear hx hxs
      by_cases hxi : x = i
      · have t1 : ((x : Int) == i) = true := by simpa using hxi
        have HE := Lib.hid hxi
        have HOWN := Lib.hid hown
        have HSRC := Lib.hid (fun X : World => Src.new X #[.int .i64 (k : Int)] 3 1 1 1 rfl (by simp [Value.oneCell']))
        have hsz := hB.size
        clear hxi hown
        go_wp2_with (at_builtin; refine list_app sliceOfInt rfl _ _ rfl (base := w.heap.size) rfl (own_kept HOWN.out (box_below _ _)) rfl (HSRC.out _) (by unfold maxLen; omega) (by omega) (by simp; omega) ?_; intro v7 w7 ho7 hB7 hg7)
        go_roundw
        case rel =>
          refine ⟨k + 1, L ++ [(k : Int)], by omega, by simp; omega, by go_num, Lib.hid ?_, ?_, (hB.trans ((box_below wr _).mono hsz)).trans hB7⟩
          · rw [HX.out, if_pos HE.out, hL.out]
          · rw [List.map_append, List.length_append]; exact ho7
        case measure => simp [RowKit.intOf]; omega
      · have t1 : ((x : Int) == i) = false := by simpa using hxi
        have HE := Lib.hid hxi
        obtain ⟨A, cp, rfl, -⟩ := own_form hown
        clear hxi
        go_wp2
        go_roundw
        case rel =>
          refine ⟨k + 1, L, by omega, by omega, by go_num, Lib.hid ?_, hown, hB⟩
          rw [HX.out, if_neg HE.out, List.append_nil, hL.out]
        case measure => simp [RowKit.intOf]; omega
    · obtain rfl : k = F.length := by omega
      have hlt' : ¬ (F.length : Int) < F.length := by omega
      have HN := Lib.hid (show nxB F i = L from hL.out)
      obtain ⟨A, cp, rfl, hcp, hcm, hn, hr⟩ := own_form hown
      have HR := Lib.hid hr
      have HOWN := Lib.hid hown
      clear hn hr hown hL
      go_wp2
      go_ret
      refine ⟨⟨_, rfl, ?_⟩, hB⟩
      rw [HN.out]
      refine ⟨A, cp, rfl, fun h0 => ?_⟩
      obtain ⟨A', cp', e, _, hc⟩ := own_ints HOWN.out
      cases e
      obtain ⟨g', o', rfl, hcells⟩ := hc h0
      refine ⟨g', o', rfl, ?_, hcells⟩
      have := (HR.out _ rfl).1
      have h2 : w.heap.size ≤ g' := this
      omega
/-- a plan's error, or that there is no such flow. -/
def gE (p : Pln) (i : Int) : Int := if planE p ≠ 0 then planE p else if i < 0 ∨ (p.flows.length : Int) ≤ i then 1 else 0
theorem gE_ok {p : Pln} {i : Int} (h : gE p i = 0) : planE p = 0 ∧ 0 ≤ i ∧ i < p.flows.length := by
  unfold gE at h
  by_cases h1 : planE p = 0
  · rw [if_neg (by simpa using h1)] at h
    refine ⟨h1, ?_⟩
    by_cases h2 : i < 0 ∨ (p.flows.length : Int) ≤ i
    · rw [if_pos h2] at h; exact absurd h (by decide)
    · omega
  · rw [if_pos h1] at h; exact absurd h h1
set_option maxHeartbeats 4000000 in
set_option maxRecDepth 100000 in
theorem gcheck_calls (tops : List Top) (fl : List FlwV) (tv fv : Value) (i : Int) (w : World) (hP : PlanAt w tv fv tops fl) (hS : SmallFlows fl) (hT : Tab w) (hg : 5 < w.heap.size) :
    Calls Tryz.prog 58 #[.agg #[tv, fv], .int .i64 i] w fun e w' => e = .returned (.int .i64 (gE (plnOf tops fl) i)) ∧ Below w.heap.size w w' := by
  have HC := Lib.hid (check_calls tops fl tv fv (w.alloc (.cells #[tv, fv] 25)) (hP.below (box_below _ _)) hS (hT.below (box_below _ _)) (by simp; omega))
  have hfl : (plnOf tops fl).flows.length = fl.length := by simp [plnOf]
  obtain ⟨R, hR⟩ : ∃ R, gE (plnOf tops fl) i = R := ⟨_, rfl⟩
  rw [hR]
  unfold gE at hR
  rw [hfl] at hR
  obtain ⟨E, hE⟩ : ∃ E, planE (plnOf tops fl) = E := ⟨_, rfl⟩
  rw [hE] at HC hR
  have HR := Lib.hid hR
  obtain ⟨⟨A1, c1, rfl, hc1, hr1⟩, ⟨A2, c2, rfl, hc2, hr2⟩, hpre, hpost⟩ := hP
  clear hE hR hS hT hr1 hr2 hpre hpost hfl
  by_cases h0 : E = 0
  · subst h0
    by_cases h1 : i < 0
    · have HF := Lib.hid (show R = 1 by rw [← HR.out, if_neg (by simp), if_pos (.inl h1)])
      go_enter Tryz.func58, Tryz.ntmps58
      go_wp2_with (go_at_call 52; go_must (refine (HC.out).mono ?_); rintro e w1 ⟨⟨n, rfl⟩, hB⟩; have b1 : w1.cell? ⟨w.heap.size, 1, none⟩ = some (.slice A2 fl.length c2) := kc hB (cell_new rfl rfl); have HB := Lib.hid (go (box_below _ _) hB); clear hB)
      rw [HF.out]
      go_ret
      exact ⟨rfl, HB.out⟩
    · by_cases h2 : (fl.length : Int) ≤ i
      · have HF := Lib.hid (show R = 1 by rw [← HR.out, if_neg (by simp), if_pos (.inr h2)])
        go_enter Tryz.func58, Tryz.ntmps58
        go_wp2_with (go_at_call 52; go_must (refine (HC.out).mono ?_); rintro e w1 ⟨⟨n, rfl⟩, hB⟩; have b1 : w1.cell? ⟨w.heap.size, 1, none⟩ = some (.slice A2 fl.length c2) := kc hB (cell_new rfl rfl); have HB := Lib.hid (go (box_below _ _) hB); clear hB)
        rw [HF.out]
        go_ret
        exact ⟨rfl, HB.out⟩
      · have HF := Lib.hid (show R = 0 by rw [← HR.out, if_neg (by simp), if_neg (fun h => h.elim h1 h2)])
        go_enter Tryz.func58, Tryz.ntmps58
        go_wp2_with (go_at_call 52; go_must (refine (HC.out).mono ?_); rintro e w1 ⟨⟨n, rfl⟩, hB⟩; have b1 : w1.cell? ⟨w.heap.size, 1, none⟩ = some (.slice A2 fl.length c2) := kc hB (cell_new rfl rfl); have HB := Lib.hid (go (box_below _ _) hB); clear hB)
        rw [HF.out]
        go_ret
        exact ⟨rfl, HB.out⟩
  · have t1 : ((E : Int) != 0) = true := by simpa using h0
    have HF := Lib.hid (show R = E by rw [← HR.out, if_pos h0])
    clear h0
    go_enter Tryz.func58, Tryz.ntmps58
    go_wp2_with (go_at_call 52; go_must (refine (HC.out).mono ?_); rintro e w1 ⟨⟨n, rfl⟩, hB⟩; have HB := Lib.hid (go (box_below _ _) hB); clear hB)
    rw [HF.out]
    go_ret
    exact ⟨rfl, HB.out⟩
end Go.Proofs.YtkjajlolfcioiaaGreatDoor.Graph
