/- GraphPairs: the plain law. -/
import Derived.Test.YtkjajlolfcioiaaGreatDoorLawGA
import Derived.WalkSpells
namespace Go.Proofs.YtkjajlolfcioiaaGreatDoor.Graph
open Go.Proofs.YtkjajlolfcioiaaGreatDoor.Scan Go.Proofs.YtkjajlolfcioiaaGreatDoor.Plan

theorem mem_nxA {F : List Int} {i j : Int} : j ∈ nxA F i ↔ 0 ≤ i ∧ i < F.length ∧ 0 ≤ j ∧ F.getD i.toNat (-1) = j := by
  unfold nxA
  by_cases h : 0 ≤ i ∧ i < F.length ∧ 0 ≤ F.getD i.toNat (-1)
  · rw [if_pos h, List.mem_singleton]
    constructor
    · rintro rfl; exact ⟨h.1, h.2.1, h.2.2, rfl⟩
    · rintro ⟨_, _, _, e⟩; exact e.symm
  · rw [if_neg h]
    constructor
    · intro hm; cases hm
    · rintro ⟨h1, h2, h3, e⟩
      exact absurd ⟨h1, h2, by rw [e]; exact h3⟩ h
theorem mem_nxB {F : List Int} {i j : Int} : j ∈ nxB F i ↔ 0 ≤ j ∧ j < F.length ∧ F.getD j.toNat (-1) = i := by
  unfold nxB
  rw [List.mem_map]
  constructor
  · rintro ⟨k, hk, rfl⟩
    obtain ⟨h1, h2⟩ := List.mem_filter.1 hk
    have := List.mem_range.1 h1
    exact ⟨by omega, by omega, by simpa using h2⟩
  · rintro ⟨h0, h1, h2⟩
    exact ⟨j.toNat, List.mem_filter.2 ⟨List.mem_range.2 (by omega), by simpa using h2⟩, by omega⟩
theorem nx_swap {F : List Int} {i j : Int} (h : 0 ≤ i) : j ∈ nxB F i ↔ i ∈ nxA F j := by
  rw [mem_nxB, mem_nxA]
  constructor
  · rintro ⟨h1, h2, h3⟩; exact ⟨h1, h2, h, h3⟩
  · rintro ⟨h1, h2, _, h3⟩; exact ⟨h1, h2, h3⟩
theorem rch_swap {F : List Int} {i k : Int} (h : 0 ≤ i) : Rch (nxB F) i k ↔ Rch (nxA F) k i := by
  constructor
  · intro hr
    induction hr with
    | one hk => exact .one ((nx_swap h).1 hk)
    | more hj _ ih => exact (ih (mem_nxB.1 hj).1).then ((nx_swap h).1 hj)
  · intro hr
    induction hr with
    | one hk => exact .one ((nx_swap h).2 hk)
    | more hj _ ih => exact (ih h).then ((nx_swap (mem_nxA.1 hj).2.2.1).2 hj)
theorem rch_hops {F : List Int} {i k : Int} (h : Rch (nxA F) i k) : Hangs F i k := by
  induction h with
  | @one i k hk =>
    obtain ⟨h0, h1, h2, h3⟩ := mem_nxA.1 hk
    have h4 : hop F i = k := by
      unfold hop
      rw [if_pos h0]
      exact h3
    exact ⟨h2, 0, h4⟩
  | @more i j k hj _ ih =>
    obtain ⟨h0, h1, h2, h3⟩ := mem_nxA.1 hj
    obtain ⟨q0, m, q⟩ := ih
    refine ⟨q0, m + 1, ?_⟩
    have := hops_add F 1 i (m + 1)
    rw [show 1 + (m + 1) = m + 1 + 1 by omega] at this
    rw [this]
    have hh : hops F 1 i = j := by show hop F i = j; unfold hop; rw [if_pos h0]; exact h3
    rw [hh]
    exact q
theorem hops_rch {F : List Int} (hF : EdgesOk F) : ∀ (m : Nat) (i k : Int), 0 ≤ i → i < F.length → 0 ≤ k → hops F (m + 1) i = k → Rch (nxA F) i k
  | 0, i, k, h0, h1, hk, h => by
    refine .one (mem_nxA.2 ⟨h0, h1, hk, ?_⟩)
    have : hop F i = k := h
    unfold hop at this
    rwa [if_pos h0] at this
  | m + 1, i, k, h0, h1, hk, h => by
    have h2 := hops_add F 1 i (m + 1)
    rw [show 1 + (m + 1) = m + 1 + 1 by omega, h] at h2
    obtain ⟨j, hj⟩ : ∃ j, hops F 1 i = j := ⟨_, rfl⟩
    rw [hj] at h2
    have hj0 : 0 ≤ j := by
      apply Decidable.byContradiction
      intro hn
      have := hops_neg (F := F) (m := m + 1) (i := j) (by omega)
      omega
    have hje : F.getD i.toNat (-1) = j := by
      have : hop F i = j := hj
      unfold hop at this
      rwa [if_pos h0] at this
    have hjl : j < F.length := by rw [← hje]; exact (hF _ (getD_mem (by omega))).2
    exact .more (mem_nxA.2 ⟨h0, h1, hj0, hje⟩) (hops_rch hF m j k hj0 hjl hk h2.symm)
theorem hangs_rch {F : List Int} (hF : EdgesOk F) {i k : Int} (h0 : 0 ≤ i) (h1 : i < F.length) : Hangs F i k ↔ Rch (nxA F) i k :=
  ⟨fun ⟨hk, m, h⟩ => hops_rch hF m i k h0 h1 hk h, rch_hops⟩
/-- a loop just where an order stops short. -/
theorem loop_iff {F : List Int} (hF : EdgesOk F) : (∃ i : Nat, i < F.length ∧ Rch (nxB F) i i) ↔ (orderL F).length < F.length := by
  constructor
  · rintro ⟨i, hi, hr⟩
    apply Decidable.byContradiction
    intro hs
    have hle := (orderL_is F).1.len
    exact whole_free (by omega) i hi (rch_hops ((rch_swap (by omega)).1 hr))
  · intro hs
    obtain ⟨i, hi, hh⟩ := short_loop hF hs
    exact ⟨i, hi, (rch_swap (by omega)).2 ((hangs_rch hF (by omega) (by omega)).1 hh)⟩
/-- what is ahead of a flow in an order stands ahead of it. -/
theorem ahead_in {F : List Int} {p : Nat} {x k : Int} (hx : (orderL F)[p]? = some x) (h : Rch (nxA F) x k) : k ∈ (orderL F).take p := by
  obtain ⟨h0, m, hm⟩ := rch_hops h
  exact ahead_take (orderL_is F).1 p x hx m k h0 hm
theorem not_ahead {F : List Int} {p : Nat} {x : Int} (hx : (orderL F)[p]? = some x) : x ∉ (orderL F).take p := by
  intro hm
  obtain ⟨q, hq1, hq2⟩ := List.mem_iff_getElem.1 hm
  rw [List.length_take] at hq1
  rw [List.getElem_take] at hq2
  obtain ⟨hp, hp2⟩ := List.getElem?_eq_some_iff.1 hx
  exact List.pairwise_iff_getElem.1 (orderL_is F).1.nodup q p (by omega) hp (by omega) (hq2.trans hp2.symm)

/-! ### no plan's error is that of a loop -/
def Code (c : Int) : Prop := c ≠ 60
theorem code_ite {p : Prop} [Decidable p] {a b : Int} (ha : Code a) (hb : Code b) : Code (if p then a else b) := by
  split
  · exact ha
  · exact hb
theorem code_scan : ∀ (n : Nat) (wants : Bool) (opn : Nat) (l : List UInt8) (parts : Nat), Code (scanN n wants opn l parts)
  | 0, _, _, _, _ => by unfold scanN Code; decide
  | n + 1, wants, opn, l, parts => by
    unfold scanN
    split
    · exact code_ite (by unfold Code; decide) (by unfold Code; decide)
    · repeat' (first | exact code_scan n _ _ _ _ | (refine code_ite ?_ ?_) | (unfold Code; decide))
theorem code_expr (l : List UInt8) : Code (exprE l) := by
  unfold exprE scan
  exact code_ite (by unfold Code; decide) (code_scan _ _ _ _ _)
theorem code_step (s : Stp) (post : Bool) : Code (stepE s post) := by
  unfold stepE
  repeat' (first | exact code_expr _ | (refine code_ite ?_ ?_) | (unfold Code; decide))
theorem code_steps (post : Bool) : ∀ l : List Stp, Code (stepsE l post)
  | [] => by unfold stepsE Code; decide
  | s :: r => by
    unfold stepsE
    exact code_ite (code_steps post r) (code_step s post)
theorem code_inner (parts : Int) (f : Flw) : Code (innerE parts f) := by
  unfold innerE
  repeat' (first | exact code_steps _ _ | (refine code_ite ?_ ?_) | (unfold Code; decide))
theorem code_flow (p : Pln) (ahead : List Flw) (f : Flw) : Code (flowE p ahead f) := by
  unfold flowE
  repeat' (first | exact code_inner _ _ | (refine code_ite ?_ ?_) | (unfold Code; decide))
theorem code_top (ahead : List Top) (t : Top) : Code (topE ahead t) := by
  unfold topE
  repeat' (first | (refine code_ite ?_ ?_) | (unfold Code; decide))
theorem code_tops : ∀ (l ahead : List Top), Code (topsE ahead l)
  | [], _ => by unfold topsE Code; decide
  | t :: r, ahead => by
    unfold topsE
    exact code_ite (code_tops r _) (code_top _ _)
theorem code_flows (p : Pln) : ∀ (l ahead : List Flw), Code (flowsE p ahead l)
  | [], _ => by unfold flowsE Code; decide
  | t :: r, ahead => by
    unfold flowsE
    exact code_ite (code_flows p r _) (code_flow _ _ _)
theorem code_plan (p : Pln) : planE p ≠ 60 := by
  show Code (planE p)
  unfold planE
  exact code_ite (by unfold Code; decide) (code_ite (code_flows _ _ _) (code_tops _ _))
end Go.Proofs.YtkjajlolfcioiaaGreatDoor.Graph
