/- graph.Ahead, Behind, Source, walked. -/
import Derived.Test.YtkjajlolfcioiaaGreatDoorGraphF
import Derived.WalkSpells
namespace Go.Proofs.YtkjajlolfcioiaaGreatDoor.Graph
open Go.RowKit Go.Proofs.YtkjajlolfcioiaaGreatDoor Go.Proofs.YtkjajlolfcioiaaGreatDoor.Own Go.Proofs.YtkjajlolfcioiaaGreatDoor.Tail Go.Proofs.YtkjajlolfcioiaaGreatDoor.Mp Go.Proofs.YtkjajlolfcioiaaGreatDoor.Ints Go.Proofs.YtkjajlolfcioiaaGreatDoor.Scan Go.Proofs.YtkjajlolfcioiaaGreatDoor.Plan Go.Proofs.YtkjajlolfcioiaaGreatDoor.Expr Go.Proofs.YtkjajlolfcioiaaGreatDoor.Check Go.Lib

/-- what is told of a flow. -/
def GraphPost (p : Pln) (i : Int) (P : Int → Prop) (w : World) (e : Ending) (w' : World) : Prop :=
  ∃ v L, e = .returned (.tuple #[v, .int .i64 (gE p i)]) ∧ L.Pairwise (· < ·) ∧ (gE p i ≠ 0 → L = []) ∧ (gE p i = 0 → ∀ k, k ∈ L ↔ P k) ∧ IntsAt w' v L ∧ Below w.heap.size w w'
/-- the steps ahead, behind: as functions that are handed over. -/
theorem nextA (F : List Int) (p g mb : Nat) (hF : EdgesOk F) (h8 : F.length ≤ 8) (hp : p ≠ mb) (hg : g ≠ mb) : NextFn (EdgeVar F p g) mb F.length 61 #[.pointer (some ⟨p, 0, none⟩)] (nxA F) where
  enters := enters_of Tryz.func61 (by kernel_rfl) rfl
  calls i X hX h0 hn := by
    obtain ⟨k, rfl⟩ := Int.eq_ofNat_of_zero_le h0
    exact ahead1_calls F p g mb k X hX (by omega) h8 hg
  keep X Y hX k := hX.but k hp hg
  range i k hk := by
    unfold nxA at hk
    split at hk
    · rename_i h
      obtain rfl : k = F.getD i.toNat (-1) := by simpa using hk
      exact ⟨h.2.2, (hF _ (getD_mem (by omega))).2⟩
    · cases hk
  short i := by unfold nxA; split <;> simp
theorem nextB (F : List Int) (p g mb : Nat) (h8 : F.length ≤ 8) (hp : p ≠ mb) (hg : g ≠ mb) : NextFn (fun X => EdgeVar F p g X ∧ mb < X.heap.size) mb F.length 60 #[.pointer (some ⟨p, 0, none⟩)] (nxB F) where
  enters := enters_of Tryz.func60 (by kernel_rfl) rfl
  calls i X hX h0 hn := behind1_calls F p g mb i X hX.1 h8 hX.2
  keep X Y hX k := ⟨hX.1.but k hp hg, by have := k.size; have := hX.2; omega⟩
  range i k hk := by
    unfold nxB at hk
    obtain ⟨j, hj, rfl⟩ := List.mem_map.1 hk
    have := List.mem_range.1 (List.mem_filter.1 hj).1
    omega
  short i := by
    unfold nxB
    rw [List.length_map]
    have := List.length_filter_le (fun k => decide (F.getD k (-1) = i)) (List.range F.length)
    rw [List.length_range] at this
    omega

/-- .. of a flow that is there. -/
def ToldAhead (F : List Int) (i : Int) (w : World) (e : Ending) (w' : World) : Prop := ∃ v L, e = .returned (.tuple #[v, .int .i64 0]) ∧ L.Pairwise (· < ·) ∧ (∀ k, k ∈ L ↔ Rch (nxA F) i k) ∧ IntsAt w' v L ∧ Below w.heap.size w w'
set_option maxHeartbeats 4000000 in
set_option maxRecDepth 100000 in
theorem ahead_calls (tops : List Top) (fl : List FlwV) (tv fv : Value) (i : Int) (w : World) (hP : PlanAt w tv fv tops fl) (hS : SmallFlows fl) (hT : Tab w) (hg : 5 < w.heap.size) :
    Calls Tryz.prog 23 #[.agg #[tv, fv], .int .i64 i] w (GraphPost (plnOf tops fl) i (Rch (nxA (edgesL (fl.map (·.f)))) i) w) := by
  have HC := Lib.hid (gcheck_calls tops fl tv fv i (w.alloc (.cells #[tv, fv] 25)) (hP.below (box_below _ _)) hS (hT.below (box_below _ _)) (by simp; omega))
  have hfl : (plnOf tops fl).flows.length = fl.length := by simp [plnOf]
  obtain ⟨R, hR⟩ : ∃ R, gE (plnOf tops fl) i = R := ⟨_, rfl⟩
  have hok := fun h => gE_ok (p := plnOf tops fl) (i := i) h
  rw [hR] at HC hok
  unfold GraphPost
  rw [hR]
  by_cases h0 : R = 0
  · obtain ⟨h1, h2, h3⟩ := hok h0
    subst h0
    rw [hfl] at h3
    have h8 := planE_flows h1
    have hed := fun X (k : Below w.heap.size w X) => edges_calls tops fl tv fv X (hP.below k) h8
    have hF := edgesL_ok (fl.map (·.f))
    have hFl := edgesL_length (fl.map (·.f))
    rw [List.length_map] at hFl
    obtain ⟨F, hFe⟩ : ∃ F, edgesL (fl.map (·.f)) = F := ⟨_, rfl⟩
    rw [hFe] at hF hFl ⊢
    simp only [hFe] at hed
    have HED := Lib.hid hed
    have HF := Lib.hid hF
    have HFL := Lib.hid hFl
    obtain ⟨⟨A1, c1, rfl, hc1, hr1⟩, ⟨A2, c2, rfl, hc2, hr2⟩, hpre, hpost⟩ := hP
    have hmf : ∀ (fn : Fn) (first cap : Array Value) (w : World), (Instr.makeFunc fn first cap).run Tryz.prog w = .ok (.func fn first cap) w := fun _ _ _ _ => rfl
    clear hok hR hS hT hr1 hr2 hpre hpost hed hF hFl hFe h1 hfl
    have HPOST : ∀ (e : Ending) (w' : World), (∃ v L, e = .returned (.tuple #[v, .int .i64 0]) ∧ L.Pairwise (· < ·) ∧ (∀ k, k ∈ L ↔ Rch (nxA F) i k) ∧ IntsAt w' v L ∧ Below w.heap.size w w') → ∃ v L, e = .returned (.tuple #[v, .int .i64 0]) ∧ L.Pairwise (· < ·) ∧ ((0 : Int) ≠ 0 → L = []) ∧ ((0 : Int) = 0 → ∀ k, k ∈ L ↔ Rch (nxA F) i k) ∧ IntsAt w' v L ∧ Below w.heap.size w w' :=
      fun e w' ⟨v, L, q1, q2, q3, q4, q5⟩ => ⟨v, L, q1, q2, fun h => absurd rfl h, fun _ => q3, q4, q5⟩
    refine Calls.mono (R := fun e w' => ToldAhead F i w e w') ?_ (fun e w' h => HPOST e w' h)
    clear HPOST
    go_enter Tryz.func23, Tryz.ntmps23
    go_wp2_with (first
      | (go_at_call 58; go_must (refine (HC.out).mono ?_); rintro e w1 ⟨rfl, hB⟩; have b0 : w1.cell? ⟨w.heap.size, 0, none⟩ = some (.slice A1 tops.length c1) := kc hB (cell_new rfl rfl); have b1 : w1.cell? ⟨w.heap.size, 1, none⟩ = some (.slice A2 fl.length c2) := kc hB (cell_new rfl rfl); have HB := Lib.hid (go (box_below _ _) hB); clear hB)
      | (go_at_call 53; go_must (refine (HED.out _ HB.out).mono ?_); rintro e w3 ⟨g, rfl, hI, hgb, hB3⟩; have HB3 := Lib.hid (go HB.out hB3); have hgl := hI.lt; have HI := Lib.hid hI; clear hI hB3))
    have hsz : (w3.alloc (.cells #[.slice (some ⟨g, 0, none⟩) F.length F.length] 30)).heap.size = w3.heap.size + 1 := by simp
    have hN : NextFn (EdgeVar F w3.heap.size g) ((w3.alloc (.cells #[.slice (some ⟨g, 0, none⟩) F.length F.length] 30)).heap.size + 1) F.length 61 #[.pointer (some ⟨w3.heap.size, 0, none⟩)] (nxA F) := by
      rw [hsz]
      exact nextA F w3.heap.size g (w3.heap.size + 1 + 1) HF.out (by rw [HFL.out]; exact h8) (by omega) (by omega)
    refine (reach_calls _ F.length _ _ _ i _ hN (fun X hX hX2 => ?_) h2 (by rw [HFL.out]; exact h3) (by rw [HFL.out]; omega)).mono ?_
    · have hv : EdgeVar F w3.heap.size g X := EdgeVar.below ⟨cell_new rfl rfl, HI.out.alloc _⟩ hX
      exact hv
    · rintro e w5 ⟨v, L, rfl, q1, q2, q3, q4⟩
      have Q1 := Lib.hid q1
      have Q2 := Lib.hid q2
      have Q3 := Lib.hid q3
      have Q4 := Lib.hid (go (HB3.out.alloc HB3.out.size _) q4)
      clear q1 q2 q3 q4 hN
      go_wp2
      go_ret2
      exact ⟨_, L, rfl, Q1.out, Q2.out, Q3.out, Q4.out⟩
  · have t1 : ((R : Int) != 0) = true := by simpa using h0
    have H0 := Lib.hid h0
    clear h0 hok hR hS hT hP
    refine Calls.mono (R := fun e w' => e = .returned (.tuple #[.slice none 0 0, .int .i64 R]) ∧ Below w.heap.size w w') ?_ (fun e w' h => ⟨.slice none 0 0, [], h.1, List.Pairwise.nil, fun _ => rfl, fun h => absurd h H0.out, nil_ints _, h.2⟩)
    go_enter Tryz.func23, Tryz.ntmps23
    go_wp2_with (go_at_call 58; go_must (refine (HC.out).mono ?_); rintro e w1 ⟨rfl, hB⟩; have HB := Lib.hid (go (box_below _ _) hB); clear hB)
    go_ret2
    exact ⟨rfl, HB.out⟩

/-- .. of a flow that is there. -/
def ToldBehind (F : List Int) (i : Int) (w : World) (e : Ending) (w' : World) : Prop := ∃ v L, e = .returned (.tuple #[v, .int .i64 0]) ∧ L.Pairwise (· < ·) ∧ (∀ k, k ∈ L ↔ Rch (nxB F) i k) ∧ IntsAt w' v L ∧ Below w.heap.size w w'
set_option maxHeartbeats 4000000 in
set_option maxRecDepth 100000 in
theorem behind_calls (tops : List Top) (fl : List FlwV) (tv fv : Value) (i : Int) (w : World) (hP : PlanAt w tv fv tops fl) (hS : SmallFlows fl) (hT : Tab w) (hg : 5 < w.heap.size) :
    Calls Tryz.prog 21 #[.agg #[tv, fv], .int .i64 i] w (GraphPost (plnOf tops fl) i (Rch (nxB (edgesL (fl.map (·.f)))) i) w) := by
  have HC := Lib.hid (gcheck_calls tops fl tv fv i (w.alloc (.cells #[tv, fv] 25)) (hP.below (box_below _ _)) hS (hT.below (box_below _ _)) (by simp; omega))
  have hfl : (plnOf tops fl).flows.length = fl.length := by simp [plnOf]
  obtain ⟨R, hR⟩ : ∃ R, gE (plnOf tops fl) i = R := ⟨_, rfl⟩
  have hok := fun h => gE_ok (p := plnOf tops fl) (i := i) h
  rw [hR] at HC hok
  unfold GraphPost
  rw [hR]
  by_cases h0 : R = 0
  · obtain ⟨h1, h2, h3⟩ := hok h0
    subst h0
    rw [hfl] at h3
    have h8 := planE_flows h1
    have hed := fun X (k : Below w.heap.size w X) => edges_calls tops fl tv fv X (hP.below k) h8
    have hF := edgesL_ok (fl.map (·.f))
    have hFl := edgesL_length (fl.map (·.f))
    rw [List.length_map] at hFl
    obtain ⟨F, hFe⟩ : ∃ F, edgesL (fl.map (·.f)) = F := ⟨_, rfl⟩
    rw [hFe] at hF hFl ⊢
    simp only [hFe] at hed
    have HED := Lib.hid hed
    have HF := Lib.hid hF
    have HFL := Lib.hid hFl
    obtain ⟨⟨A1, c1, rfl, hc1, hr1⟩, ⟨A2, c2, rfl, hc2, hr2⟩, hpre, hpost⟩ := hP
    have hmf : ∀ (fn : Fn) (first cap : Array Value) (w : World), (Instr.makeFunc fn first cap).run Tryz.prog w = .ok (.func fn first cap) w := fun _ _ _ _ => rfl
    clear hok hR hS hT hr1 hr2 hpre hpost hed hF hFl hFe h1 hfl
    have HPOST : ∀ (e : Ending) (w' : World), (∃ v L, e = .returned (.tuple #[v, .int .i64 0]) ∧ L.Pairwise (· < ·) ∧ (∀ k, k ∈ L ↔ Rch (nxB F) i k) ∧ IntsAt w' v L ∧ Below w.heap.size w w') → ∃ v L, e = .returned (.tuple #[v, .int .i64 0]) ∧ L.Pairwise (· < ·) ∧ ((0 : Int) ≠ 0 → L = []) ∧ ((0 : Int) = 0 → ∀ k, k ∈ L ↔ Rch (nxB F) i k) ∧ IntsAt w' v L ∧ Below w.heap.size w w' :=
      fun e w' ⟨v, L, q1, q2, q3, q4, q5⟩ => ⟨v, L, q1, q2, fun h => absurd rfl h, fun _ => q3, q4, q5⟩
    refine Calls.mono (R := fun e w' => ToldBehind F i w e w') ?_ (fun e w' h => HPOST e w' h)
    clear HPOST
    go_enter Tryz.func21, Tryz.ntmps21
    go_wp2_with (first
      | (go_at_call 58; go_must (refine (HC.out).mono ?_); rintro e w1 ⟨rfl, hB⟩; have b0 : w1.cell? ⟨w.heap.size, 0, none⟩ = some (.slice A1 tops.length c1) := kc hB (cell_new rfl rfl); have b1 : w1.cell? ⟨w.heap.size, 1, none⟩ = some (.slice A2 fl.length c2) := kc hB (cell_new rfl rfl); have HB := Lib.hid (go (box_below _ _) hB); clear hB)
      | (go_at_call 53; go_must (refine (HED.out _ HB.out).mono ?_); rintro e w3 ⟨g, rfl, hI, hgb, hB3⟩; have HB3 := Lib.hid (go HB.out hB3); have hgl := hI.lt; have HI := Lib.hid hI; clear hI hB3))
    have hsz : (w3.alloc (.cells #[.slice (some ⟨g, 0, none⟩) F.length F.length] 30)).heap.size = w3.heap.size + 1 := by simp
    have hN : NextFn (fun X => EdgeVar F w3.heap.size g X ∧ w3.heap.size + 1 + 1 < X.heap.size) ((w3.alloc (.cells #[.slice (some ⟨g, 0, none⟩) F.length F.length] 30)).heap.size + 1) F.length 60 #[.pointer (some ⟨w3.heap.size, 0, none⟩)] (nxB F) := by
      rw [hsz]
      exact nextB F w3.heap.size g (w3.heap.size + 1 + 1) (by rw [HFL.out]; exact h8) (by omega) (by omega)
    refine (reach_calls _ F.length _ _ _ i _ hN (fun X hX hX2 => ?_) h2 (by rw [HFL.out]; exact h3) (by rw [HFL.out]; omega)).mono ?_
    · have hv : EdgeVar F w3.heap.size g X := EdgeVar.below ⟨cell_new rfl rfl, HI.out.alloc _⟩ hX
      exact ⟨hv, by rw [hsz] at hX2; exact hX2⟩
    · rintro e w5 ⟨v, L, rfl, q1, q2, q3, q4⟩
      have Q1 := Lib.hid q1
      have Q2 := Lib.hid q2
      have Q3 := Lib.hid q3
      have Q4 := Lib.hid (go (HB3.out.alloc HB3.out.size _) q4)
      clear q1 q2 q3 q4 hN
      go_wp2
      go_ret2
      exact ⟨_, L, rfl, Q1.out, Q2.out, Q3.out, Q4.out⟩
  · have t1 : ((R : Int) != 0) = true := by simpa using h0
    have H0 := Lib.hid h0
    clear h0 hok hR hS hT hP
    refine Calls.mono (R := fun e w' => e = .returned (.tuple #[.slice none 0 0, .int .i64 R]) ∧ Below w.heap.size w w') ?_ (fun e w' h => ⟨.slice none 0 0, [], h.1, List.Pairwise.nil, fun _ => rfl, fun h => absurd h H0.out, nil_ints _, h.2⟩)
    go_enter Tryz.func21, Tryz.ntmps21
    go_wp2_with (go_at_call 58; go_must (refine (HC.out).mono ?_); rintro e w1 ⟨rfl, hB⟩; have HB := Lib.hid (go (box_below _ _) hB); clear hB)
    go_ret2
    exact ⟨rfl, HB.out⟩

end Go.Proofs.YtkjajlolfcioiaaGreatDoor.Graph
