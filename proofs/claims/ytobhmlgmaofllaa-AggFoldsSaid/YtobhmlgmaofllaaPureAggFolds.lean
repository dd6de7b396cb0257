/- What is kept of any values, one joined to the other, is what the document's own text keeps of them, and what is told of it is the same. No condition. -/
import Derived.Test.YtobhmlgmaofllaaPAggFoldsx5
namespace Go.Proofs.Ytobhmlgmaofllaa.Pure
open Go.RowKit Go.Proofs.Ytobhmlgmaofllaa.PAggFolds Go.Proofs.YtobhmlgmaofllaaW.PrintWords Go.Proofs.YtobhmlgmaofllaaW.PrintLast

theorem AggFolds_wf {x : Int} (h : (Lit.int .i64 x).wf = true) : -9223372036854775808 ≤ x ∧ x ≤ 9223372036854775807 := by
  unfold Lit.wf at h
  rw [Bool.and_eq_true, decide_eq_true_eq, decide_eq_true_eq] at h
  exact h

theorem AggFolds_rd (l : List Int) (hw : ∀ x ∈ l, (Lit.int .i64 x).wf = true) (i : Int) (h0 : 0 ≤ i) (h1 : i < (l.length : Int)) : -9223372036854775808 ≤ rd l i ∧ rd l i ≤ 9223372036854775807 := by
  have hi : i.toNat < l.length := by omega
  have hm : rd l i ∈ l := by
    unfold rd
    rw [List.getD_eq_getElem?_getD, List.getElem?_eq_getElem hi]
    simp
  exact AggFolds_wf (hw _ hm)

/-- both loops, from the same state on, come to the same. -/
theorem AggFolds_both (l : List Int) (hl : l.length ≤ 1000) (hw : ∀ x ∈ l, (Lit.int .i64 x).wf = true) (d : Nat) : ∀ (k : Nat) (i s mi ma : Int), 0 ≤ i → i ≤ l.length → (l.length : Int) - i = d → 2 * d + 2 < k → (i = 0 → s = 0 ∧ mi = 0 ∧ ma = 0) → (0 < i → mi ≤ ma) →
    ∃ a b c e, watershedlaw10_fold.l0 k l i i s mi ma = some (a, b, c, e) ∧ watershedref10_Of.l0 k l i i s mi ma = some (a, b, c, e) := by
  induction d with
  | zero =>
    intro k i s mi ma h0 h1 hd hk hz hm
    obtain ⟨k, rfl⟩ : ∃ m, k = m + 1 := ⟨k - 1, by omega⟩
    refine ⟨i, s, mi, ma, ?_, ?_⟩
    · simp only [watershedlaw10_fold.l0]; rw [if_neg (by omega)]
    · simp only [watershedref10_Of.l0]; rw [if_neg (by omega)]
  | succ d ih =>
    intro k i s mi ma h0 h1 hd hk hz hm
    obtain ⟨k, rfl⟩ : ∃ m, k = m + 1 + 1 := ⟨k - 2, by omega⟩
    have hlt : i < (l.length : Int) := by omega
    have hr := AggFolds_rd l hw i h0 hlt
    have hi1 : wrap64 (i + 1) = i + 1 := by unfold wrap64; omega
    generalize hv : rd l i = v at hr
    by_cases hi : i = 0
    · obtain ⟨rfl, rfl, rfl⟩ := hz hi
      subst hi
      obtain ⟨a, b, c, e, hA, hB⟩ := ih (k + 1) (0 + 1) v v v (by omega) (by omega) (by omega) (by omega) (by omega) (by omega)
      obtain ⟨a', b', c', e', hA', hB'⟩ := ih k (0 + 1) v v v (by omega) (by omega) (by omega) (by omega) (by omega) (by omega)
      have hs : wrap64 (0 + v) = v := by unfold wrap64; omega
      have hBB : watershedref10_Of.l0 (k + 1) l (0 + 1) (0 + 1) v v v = some (a', b', c', e') := (watershedref10_Of.mono_l k).1 _ _ _ _ _ _ _ hB'
      obtain ⟨rfl, rfl, rfl, rfl⟩ : a = a' ∧ b = b' ∧ c = c' ∧ e = e' := by rw [hB] at hBB; simpa using hBB
      refine ⟨a, b, c, e, ?_, ?_⟩
      · simp only [watershedlaw10_fold.l0]
        rw [if_pos hlt, if_pos h0, hv]
        simp only [agg_One.f, Option.bind_some, agg_Join.f, agg_Join.j0]
        simp only [if_true, Int.reduceBEq, Bool.false_eq_true, if_false]
        rw [hi1]
        exact hA
      · simp only [watershedref10_Of.l0, watershedref10_Of.j1]
        rw [if_pos hlt]
        simp only [if_true]
        rw [if_pos h0, if_pos hlt, hi1, hv, hs]
        exact hB'
    · have hi' : 0 < i := by omega
      have hmm := hm hi'
      obtain ⟨a, b, c, e, hA, hB⟩ := ih (k + 1) (i + 1) (wrap64 (s + v)) (mn mi v) (mx ma v) (by omega) (by omega) (by omega) (by omega) (by omega) (by unfold mn mx; split <;> split <;> omega)
      obtain ⟨a', b', c', e', hA', hB'⟩ := ih k (i + 1) (wrap64 (s + v)) (mn mi v) (mx ma v) (by omega) (by omega) (by omega) (by omega) (by omega) (by unfold mn mx; split <;> split <;> omega)
      have hBB : watershedref10_Of.l0 (k + 1) l (i + 1) (i + 1) (wrap64 (s + v)) (mn mi v) (mx ma v) = some (a', b', c', e') := (watershedref10_Of.mono_l k).1 _ _ _ _ _ _ _ hB'
      obtain ⟨rfl, rfl, rfl, rfl⟩ : a = a' ∧ b = b' ∧ c = c' ∧ e = e' := by rw [hB] at hBB; simpa using hBB
      refine ⟨a, b, c, e, ?_, ?_⟩
      · simp only [watershedlaw10_fold.l0]
        rw [if_pos hlt, if_pos h0, hv]
        simp only [agg_One.f, Option.bind_some, agg_Join.f, agg_Join.j0]
        rw [if_neg hi]
        simp only [Bool.false_eq_true, if_false]
        rw [if_neg hi, if_neg (by omega)]
        simp only [Option.bind_some]
        rw [hi1]
        exact hA
      · simp only [watershedref10_Of.l0, watershedref10_Of.j1]
        rw [if_pos hlt, if_neg hi, if_pos h0, hv, hi1]
        by_cases h3 : v < mi
        · have e1 : mn mi v = v := if_pos h3
          have e2 : mx ma v = ma := if_neg (by omega)
          rw [e1, e2] at hB'
          rw [decide_eq_true h3, if_pos rfl, if_pos h0, if_pos hlt, if_neg hi, if_neg (by omega)]
          exact hB'
        · have e1 : mn mi v = mi := if_neg h3
          rw [decide_eq_false h3, if_neg Bool.false_ne_true, if_neg hi, if_pos h0, if_pos hlt]
          by_cases h4 : v > ma
          · have e2 : mx ma v = v := if_pos h4
            rw [e1, e2] at hB'
            rw [if_pos h4]
            exact hB'
          · have e2 : mx ma v = ma := if_neg h4
            rw [e1, e2] at hB'
            rw [if_neg h4]
            exact hB'

theorem AggFolds_value (k : Nat) (kind a b c e : Int) (hk : (Lit.int .i64 kind).wf = true) : ∃ v f, agg_Value.f (k + 1) kind a b c e = some (v, f) ∧ watershedref10_Value.f (k + 1) kind a b c e = some (v, f) := by
  have hr := AggFolds_wf hk
  unfold agg_Value.f watershedref10_Value.f
  simp only [agg_Value.j0, watershedref10_Value.j0]
  by_cases h1 : kind = 1
  · subst h1
    by_cases ha : a = 0
    · exact ⟨0, 6, by simp [ha], by simp [ha]⟩
    · exact ⟨a, 0, by simp [ha], by simp [ha, wrap64, rd]⟩
  by_cases h2 : kind = 2
  · subst h2
    by_cases ha : a = 0
    · exact ⟨0, 6, by simp [ha], by simp [ha]⟩
    · exact ⟨b, 0, by simp [ha], by simp [ha, wrap64, rd]⟩
  by_cases h3 : kind = 3
  · subst h3
    by_cases ha : a = 0
    · exact ⟨0, 6, by simp [ha], by simp [ha]⟩
    · exact ⟨c, 0, by simp [ha], by simp [ha, wrap64, rd]⟩
  by_cases h4 : kind = 4
  · subst h4
    by_cases ha : a = 0
    · exact ⟨0, 6, by simp [ha], by simp [ha]⟩
    · exact ⟨e, 0, by simp [ha], by simp [ha, wrap64, rd]⟩
  refine ⟨0, 1, ?_, ?_⟩
  · rw [if_neg h1, if_neg h2, if_neg h3, if_neg h4]; simp
  · by_cases h5 : kind < 1
    · rw [if_pos h5]; simp
    · rw [if_neg h5, decide_eq_true (by omega : kind > 4)]; simp

theorem AggFolds_awake (k : Nat) : watershedlaw10_awake.f (k + 1) = some true :=
  at_rounds (g := watershedlaw10_awake.f) watershedlaw10_awake.mono (k := 1) (by omega) (by decide +kernel)

theorem AggFolds : watershedlaw10_AggFolds.Pure := by
  intro l kind _ _ hw hk
  by_cases hl : (l.length : Int) > 1000
  · exact ⟨0, by unfold watershedlaw10_AggFolds.f; rw [if_pos hl]⟩
  · obtain ⟨a, b, c, e, hA, hB⟩ := AggFolds_both l (by omega) hw l.length (2 * l.length + 2 + 1) 0 0 0 0 (by omega) (by omega) (by omega) (by omega) (by omega) (by omega)
    obtain ⟨v, f, hV, hR⟩ := AggFolds_value (2 * l.length + 2) kind a b c e hk
    refine ⟨2 * l.length + 2 + 1, ?_⟩
    unfold watershedlaw10_AggFolds.f watershedlaw10_fold.f watershedref10_Of.f
    rw [if_neg hl, hA, hB, AggFolds_awake]
    simp only [Option.bind_some, hV, hR]
    simp

end Go.Proofs.Ytobhmlgmaofllaa.Pure
