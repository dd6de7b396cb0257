/- Any two are joined just as the law says, and what is told of one is the document's. No condition. -/
import Derived.Test.YtobhmlgmaofllaaRows
import Derived.Test.YtobhmlgmaofllaaPAggJoinsx3
import Derived.WalkKit
import Derived.ProofKit
import Derived.OpenShut
import Derived.ShutString
import Derived.ChangeOld
import Derived.Below
import Derived.SizedLaws
import Derived.Lib.SmallJoins
namespace Go.Proofs.Ytobhmlgmaofllaa.aggJoins
open Go.ChangeShapes Go.WideShapes Go.ChangeAt Go.RowKit Go.Joins
open Go.Proofs.Ytobhmlgmaofllaa.PAggJoins Go.Proofs.YtobhmlgmaofllaaW.PrintWords

theorem value (k : Nat) (kind a b c e : Int) (hk : (Lit.int .i64 kind).wf = true) : ∃ v f, agg_Value.f (k + 1) kind a b c e = some (v, f) ∧ watershedref10_Value.f (k + 1) kind a b c e = some (v, f) := by
  have hr : -9223372036854775808 ≤ kind ∧ kind ≤ 9223372036854775807 := by
    unfold Lit.wf at hk
    rw [Bool.and_eq_true, decide_eq_true_eq, decide_eq_true_eq] at hk
    exact hk
  unfold agg_Value.f watershedref10_Value.f
  simp only [agg_Value.j0, watershedref10_Value.j0]
  by_cases h1 : kind = 1
  · subst h1
    by_cases ha : a = 0
    · exact ⟨0, 6, by simp [ha], by simp [ha]⟩
    · exact ⟨a, 0, by simp [ha], by simp [ha, wrap64, rd]⟩
  by_cases h2 : kind = 2
  · subst h2
    by_cases ha : a = 0
    · exact ⟨0, 6, by simp [ha], by simp [ha]⟩
    · exact ⟨b, 0, by simp [ha], by simp [ha, wrap64, rd]⟩
  by_cases h3 : kind = 3
  · subst h3
    by_cases ha : a = 0
    · exact ⟨0, 6, by simp [ha], by simp [ha]⟩
    · exact ⟨c, 0, by simp [ha], by simp [ha, wrap64, rd]⟩
  by_cases h4 : kind = 4
  · subst h4
    by_cases ha : a = 0
    · exact ⟨0, 6, by simp [ha], by simp [ha]⟩
    · exact ⟨e, 0, by simp [ha], by simp [ha, wrap64, rd]⟩
  refine ⟨0, 1, ?_, ?_⟩
  · rw [if_neg h1, if_neg h2, if_neg h3, if_neg h4]; simp
  · by_cases h5 : kind < 1
    · rw [if_pos h5]; simp
    · rw [if_neg h5, decide_eq_true (by omega : kind > 4)]; simp

theorem awake (k : Nat) : watershedlaw10_awake.f (k + 1) = some true :=
  at_rounds (g := watershedlaw10_awake.f) watershedlaw10_awake.mono (k := 1) (by omega) (by decide +kernel)

theorem beq4 (a b c d : Int) : (a == a && (b == b && (c == c && (d == d)))) = true := by simp

theorem plain (a0 a1 a2 a3 b0 b1 b2 b3 kind : Int) (hk : (Lit.int .i64 kind).wf = true) : watershedlaw10_AggJoins.f 3 a0 a1 a2 a3 b0 b1 b2 b3 kind = some true := by
  obtain ⟨v, f, hV, hR⟩ := value 0 kind a0 a1 a2 a3 hk
  unfold watershedlaw10_AggJoins.f
  simp only [watershedlaw10_AggJoins.j0, watershedlaw10_AggJoins.j1]
  simp only [hV, hR, awake, Option.bind_some, if_true]
  unfold agg_Join.f
  simp only [agg_Join.j0]
  by_cases ha : a0 = 0
  · by_cases hb : b0 = 0
    · simp [ha, hb]
    · simp [ha, hb]
  · by_cases hb : b0 = 0
    · simp [ha, hb]
    · simp [ha, hb]

theorem own : ownKnob Try.prog.godebug = none := by kernel_rfl
theorem cells24 : Try.prog.cellsOf 24 = 4 := by kernel_rfl
set_option maxRecDepth 100000 in
theorem lifted (os : Os) (started : os.Started) (H : Type) (enc : TypeId × Value → H) :
    ReturnsInHanded {} Try.checked os 5 .any (Rows.aggJoinsSpec.pre6 enc Try.prog Try.f5 Rows.aggJoinsRow.domain false) (Rows.aggJoinsSpec.post enc Try.prog Try.f5 false true false false) := by
  refine returnsInHanded_of_change (C := Try.checked) own started (by kernel_rfl) Try.func5
    (ChangeSpec.witness6 (enc := enc) (C := Try.checked) false ⟨#[], #[.agg #[.int .i64 0, .int .i64 0, .int .i64 0, .int .i64 0], .agg #[.int .i64 0, .int .i64 0, .int .i64 0, .int .i64 0], .int .i64 0], []⟩ 8 (by kernel_rfl) (by kernel_rfl) (by kernel_rfl) (by kernel_rfl)) ?_
  intro W base args ds gs before hval0 hW _ _
  have hval : ∀ (j : Nat) t v, Try.f5.params[j]? = some t → args[j]? = some v → Value.okWide Try.prog W .any base t v := hval0
  have hW' := hW
  obtain ⟨p, q, hA0, hV, rfl, _, _⟩ := hW
  have hA : DataW.TrodAll enc Try.prog W 0 (fun _ => true) true Try.f5.params.toList args.toList ds p := hA0
  rw [Try.params5] at hA hval
  obtain ⟨v0, vs0, d0, ds0, p0, q0, hargs, rfl, rfl, h0, r0⟩ := trodAll_cons hA
  obtain ⟨v1, vs1, d1, ds1, p1, q1, rfl, rfl, rfl, h1, r1⟩ := trodAll_cons r0
  obtain ⟨v2, vs2, d2, ds2, p2, q2, rfl, rfl, rfl, h2, r2⟩ := trodAll_cons r1
  obtain ⟨rfl, rfl, rfl⟩ := trodAll_nil r2
  obtain rfl : args = #[v0, v1, v2] := by cases args; simp_all
  obtain ⟨rfl, rfl⟩ := trodVars_none hV
  obtain ⟨c0, c1, c2, c3, y0, y1, y2, y3, m, rfl, rfl, rfl, hy0, hy1, hy2, hy3⟩ := open_agg4 Try.underlying24 (by kernel_rfl) cells24 (hval 0 24 v0 rfl rfl) h0
  obtain ⟨a0, e0, rfl, wa0⟩ := DataW.trod_int Try.underlying3 hy0
  obtain ⟨a1, e1, rfl, wa1⟩ := DataW.trod_int Try.underlying3 hy1
  obtain ⟨a2, e2, rfl, wa2⟩ := DataW.trod_int Try.underlying3 hy2
  obtain ⟨a3, e3, rfl, wa3⟩ := DataW.trod_int Try.underlying3 hy3
  simp at e0 e1 e2 e3
  subst e0 e1 e2 e3
  obtain ⟨c0, c1, c2, c3, y0, y1, y2, y3, m', rfl, rfl, rfl, hz0, hz1, hz2, hz3⟩ := open_agg4 Try.underlying24 (by kernel_rfl) cells24 (hval 1 24 v1 rfl rfl) h1
  obtain ⟨b0, e0, rfl, wb0⟩ := DataW.trod_int Try.underlying3 hz0
  obtain ⟨b1, e1, rfl, wb1⟩ := DataW.trod_int Try.underlying3 hz1
  obtain ⟨b2, e2, rfl, wb2⟩ := DataW.trod_int Try.underlying3 hz2
  obtain ⟨b3, e3, rfl, wb3⟩ := DataW.trod_int Try.underlying3 hz3
  simp at e0 e1 e2 e3
  subst e0 e1 e2 e3
  obtain ⟨k, rfl, rfl, rfl, wk⟩ := open_int Try.underlying3 (hval 2 3 v2 rfl rfl) h2
  clear hA0 hval0
  simp only [List.append_nil] at hW'
  have reads : ∀ (W' : World) (sp : Nat → Bool) (x0 x1 x2 x3 : Int), (Lit.int .i64 x0).wf = true → (Lit.int .i64 x1).wf = true → (Lit.int .i64 x2).wf = true → (Lit.int .i64 x3).wf = true →
      DataW.Trod enc Try.prog W' 0 sp true 24 (.agg #[.int .i64 x0, .int .i64 x1, .int .i64 x2, .int .i64 x3]) (.agg [.lit (.int .i64 x0), .lit (.int .i64 x1), .lit (.int .i64 x2), .lit (.int .i64 x3)]) [] := fun W' sp x0 x1 x2 x3 h0 h1 h2 h3 =>
    shut_agg4 (y0 := (.lit (.int .i64 x0), [])) (y1 := (.lit (.int .i64 x1), [])) (y2 := (.lit (.int .i64 x2), [])) (y3 := (.lit (.int .i64 x3), [])) Try.underlying24 (by kernel_rfl) cells24 ⟨1, by simp [DataW.trod, Try.underlying3, h0]⟩ ⟨1, by simp [DataW.trod, Try.underlying3, h1]⟩ ⟨1, by simp [DataW.trod, Try.underlying3, h2]⟩ ⟨1, by simp [DataW.trod, Try.underlying3, h3]⟩
  refine (watershedlaw10_AggJoins.calls 3 a0 a1 a2 a3 b0 b1 b2 b3 k true W (plain a0 a1 a2 a3 b0 b1 b2 b3 k wk)).mono fun e W' ⟨he, bel⟩ => ?_
  subst he
  exact ⟨_, rfl, _, _, _, [], _, [], hW', trodAll_mk1 (shut_bool Try.underlying4 _), (trodAll_cons_mk (reads _ _ a0 a1 a2 a3 wa0 wa1 wa2 wa3) (trodAll_cons_mk (reads _ _ b0 b1 b2 b3 wb0 wb1 wb2 wb3) (trodAll_cons_mk (shut_int Try.underlying3 wk) trodAll_mk0))), rfl, bel.frame _, fun h => by cases h⟩
theorem over : Rows.aggJoinsRow.holds Try.pinned (OpenSpec.ofChange Rows.aggJoinsSpec) :=
  OpenClaim.holds_of_wide 5 Try.f5 rfl rfl rfl rfl rfl rfl rfl ⟨rfl, rfl, rfl, rfl, rfl⟩ rfl rfl rfl rfl rfl (by kernel_rfl) Try.func5 (by kernel_rfl)
    (of_decide_eq_true (by kernel_rfl)) (by unfold Func.isWrapper; first | (rw [if_pos (by decide +kernel)]; kernel_rfl) | (rw [if_neg (by decide +kernel)]; exact ⟨rfl, rfl⟩))
    (fun os started H enc _ => lifted os started H enc)
end Go.Proofs.Ytobhmlgmaofllaa.aggJoins
namespace Go.Proofs.Ytobhmlgmaofllaa
/-- The row, under a short name, for the claim. -/
theorem aggJoins_holds : Rows.AggJoinsSaid := aggJoins.over
#print axioms aggJoins_holds
end Go.Proofs.Ytobhmlgmaofllaa
