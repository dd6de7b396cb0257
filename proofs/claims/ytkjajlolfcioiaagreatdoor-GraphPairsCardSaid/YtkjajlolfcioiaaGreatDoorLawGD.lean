/- graph.Source; the law's line of flows, walked. -/
import Derived.Test.YtkjajlolfcioiaaGreatDoorLawGC
import Derived.WalkSpells
namespace Go.Proofs.YtkjajlolfcioiaaGreatDoor.Graph
open Go.RowKit Go.Proofs.YtkjajlolfcioiaaGreatDoor Go.Proofs.YtkjajlolfcioiaaGreatDoor.Own Go.Proofs.YtkjajlolfcioiaaGreatDoor.Tail Go.Proofs.YtkjajlolfcioiaaGreatDoor.Mp Go.Proofs.YtkjajlolfcioiaaGreatDoor.Ints Go.Proofs.YtkjajlolfcioiaaGreatDoor.Scan Go.Proofs.YtkjajlolfcioiaaGreatDoor.Plan Go.Proofs.YtkjajlolfcioiaaGreatDoor.Expr Go.Proofs.YtkjajlolfcioiaaGreatDoor.Check Go.Lib

/-- what Source comes to. -/
def SourcePost (p : Pln) (i : Int) (w : World) (e : Ending) (w' : World) : Prop := e = .returned (.tuple #[.int .i64 (if gE p i = 0 then (edgesL p.flows).getD i.toNat (-1) else 0), .int .i64 (gE p i)]) ∧ Below w.heap.size w w'
set_option maxHeartbeats 4000000 in
set_option maxRecDepth 100000 in
theorem source_calls (tops : List Top) (fl : List FlwV) (tv fv : Value) (i : Int) (w : World) (hP : PlanAt w tv fv tops fl) (hS : SmallFlows fl) (hT : Tab w) (hg : 5 < w.heap.size) :
    Calls Tryz.prog 24 #[.agg #[tv, fv], .int .i64 i] w (SourcePost (plnOf tops fl) i w) := by
  have HC := Lib.hid (gcheck_calls tops fl tv fv i (w.alloc (.cells #[tv, fv] 25)) (hP.below (box_below _ _)) hS (hT.below (box_below _ _)) (by simp; omega))
  have hfl : (plnOf tops fl).flows = fl.map (·.f) := rfl
  have hok := fun h => gE_ok (p := plnOf tops fl) (i := i) h
  unfold SourcePost
  obtain ⟨R, hR⟩ : ∃ R, gE (plnOf tops fl) i = R := ⟨_, rfl⟩
  rw [hR] at HC hok ⊢
  rw [hfl] at hok ⊢
  by_cases h0 : R = 0
  · obtain ⟨h1, h2, h3⟩ := hok h0
    rw [List.length_map] at h3
    subst h0
    rw [if_pos rfl]
    have h8 := planE_flows h1
    have hed := fun X (k : Below w.heap.size w X) => edges_calls tops fl tv fv X (hP.below k) h8
    have hFl := edgesL_length (fl.map (·.f))
    rw [List.length_map] at hFl
    obtain ⟨F, hFe⟩ : ∃ F, edgesL (fl.map (·.f)) = F := ⟨_, rfl⟩
    simp only [hFe] at hed hFl ⊢
    obtain ⟨k, rfl⟩ := Int.eq_ofNat_of_zero_le h2
    have hkl : k < F.length := by omega
    have hki : (k : Int) < F.length := by omega
    obtain ⟨x, hx⟩ : ∃ x, F.getD (k : Int).toNat (-1) = x := ⟨_, rfl⟩
    rw [hx]
    have hxs := getD_some hkl
    rw [Int.toNat_natCast] at hx
    rw [hx] at hxs
    have HXS := Lib.hid hxs
    have HED := Lib.hid hed
    obtain ⟨⟨A1, c1, rfl, hc1, hr1⟩, ⟨A2, c2, rfl, hc2, hr2⟩, hpre, hpost⟩ := hP
    clear hok hR hS hT hr1 hr2 hpre hpost hed hFl hFe h1 hx hxs hfl h3
    go_enter Tryz.func24, Tryz.ntmps24
    go_wp2_with (first
      | (go_at_call 58; go_must (refine (HC.out).mono ?_); rintro e w1 ⟨rfl, hB⟩; have b0 : w1.cell? ⟨w.heap.size, 0, none⟩ = some (.slice A1 tops.length c1) := kc hB (cell_new rfl rfl); have b1 : w1.cell? ⟨w.heap.size, 1, none⟩ = some (.slice A2 fl.length c2) := kc hB (cell_new rfl rfl); have HB := Lib.hid (go (box_below _ _) hB); clear hB)
      | (go_at_call 53; go_must (refine (HED.out _ HB.out).mono ?_); rintro e w3 ⟨g, rfl, hI, hgb, hB3⟩; have HB3 := Lib.hid (go HB.out hB3); have d0 := hI.cell HXS.out; clear hI hB3))
    go_ret2
    exact ⟨rfl, HB3.out⟩
  · rw [if_neg h0]
    have t1 : ((R : Int) != 0) = true := by simpa using h0
    clear h0 hok hR hS hT hP hfl
    go_enter Tryz.func24, Tryz.ntmps24
    go_wp2_with (go_at_call 58; go_must (refine (HC.out).mono ?_); rintro e w1 ⟨rfl, hB⟩; have HB := Lib.hid (go (box_below _ _) hB); clear hB)
    go_ret2
    exact ⟨rfl, HB.out⟩
end Go.Proofs.YtkjajlolfcioiaaGreatDoor.Graph
