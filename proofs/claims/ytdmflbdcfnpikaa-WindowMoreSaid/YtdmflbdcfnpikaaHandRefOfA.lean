/- layer 9, the document's answer: the spans of a time, walked. -/
import Derived.Test.YtdmflbdcfnpikaaHandRefA
namespace Go.Proofs.Ytdmflbdcfnpikaa.Hand
open Go.RowKit Go.Proofs.Ytdmflbdcfnpikaa Go.Proofs.Ytdmflbdcfnpikaa.Spans Go.Proofs.YtdmflbdcfnpikaaW Go.Proofs.YtdmflbdcfnpikaaW.PrintWords Go.Lib

def OfRPost (l : List Sp) (ok : Bool) (w : World) (e : Ending) (w' : World) : Prop :=
  ∃ v, e = .returned (.tuple #[v, .bool ok]) ∧ w'.ownsRow w.heap.size 34 2 v l.length (encs l) ∧ Below w.heap.size w w'

set_option maxHeartbeats 1000000 in
theorem RefOf_bad (k s l t : Int) (w : World) (hn : ¬ Asked k s l t) : Calls Try.prog 9 #[win k s l, .int .i64 t] w (OfRPost [] false w) := by
  by_cases hR : Righted k s l
  · have hT : ¬ (0 ≤ t ∧ t ≤ 1000000000) := fun h => hn ⟨hR, h⟩
    have hT' := decide_eq_false hT
    have hR' := decide_eq_true hR
    clear hR hT hn
    go_enter Try.func9, Try.ntmps9
    go_wp2_with (first
      | (go_at_call 11; go_must (refine (RightR_calls k s l _).mono ?_); rw [hR']; rintro e w1 ⟨rfl, hB1⟩)
      | (go_at_call 15; go_must (refine (Time_calls t _).mono ?_); rw [hT']; rintro e w2 ⟨rfl, rfl⟩))
    go_ret2
    exact ⟨_, rfl, World.ownsRow_nil _ _ _ _, bgo ((Below.refl _ _).alloc (Nat.le_refl _) _) (by simp) hB1⟩
  · have hR' := decide_eq_false hR
    clear hR hn
    go_enter Try.func9, Try.ntmps9
    go_wp2_with (go_at_call 11; go_must (refine (RightR_calls k s l _).mono ?_); rw [hR']; rintro e w1 ⟨rfl, hB1⟩)
    go_ret2
    exact ⟨_, rfl, World.ownsRow_nil _ _ _ _, bgo ((Below.refl _ _).alloc (Nat.le_refl _) _) (by simp) hB1⟩

set_option maxHeartbeats 1000000 in
theorem RefOf_none (t : Int) (w : World) (h0 : 0 ≤ t) (h1 : t ≤ 1000000000) : Calls Try.prog 9 #[win 0 0 0, .int .i64 t] w (OfRPost (ofL 0 0 0 t) true w) := by
  have hR' := decide_eq_true (show Righted 0 0 0 by decide)
  have hT' := decide_eq_true (show 0 ≤ t ∧ t ≤ 1000000000 from ⟨h0, h1⟩)
  go_enter Try.func9, Try.ntmps9
  go_wp2_with (first
    | (go_at_call 11; go_must (refine (RightR_calls 0 0 0 _).mono ?_); rw [hR']; rintro e w1 ⟨rfl, hB1⟩; have HB := Lib.hid hB1; have HF := hB1.cell (p := ⟨w.heap.size, 0, none⟩) (by simp))
    | (go_at_call 15; go_must (refine (Time_calls t _).mono ?_); rw [hT']; rintro e w2 ⟨rfl, rfl⟩))
  go_ret2
  exact ⟨_, rfl, World.ownsRow_nil _ _ _ _, bgo ((Below.refl _ _).alloc (Nat.le_refl _) _) (by simp) HB.out⟩

set_option maxHeartbeats 1000000 in
theorem RefOf_session (s t : Int) (w : World) (hs : 1 ≤ s) (hs' : s ≤ 1000000) (h0 : 0 ≤ t) (h1 : t ≤ 1000000000) : Calls Try.prog 9 #[win 3 s 0, .int .i64 t] w (OfRPost (ofL 3 s 0 t) true w) := by
  have hR' := decide_eq_true (show Righted 3 s 0 by unfold Righted; omega)
  have hT' := decide_eq_true (show 0 ≤ t ∧ t ≤ 1000000000 from ⟨h0, h1⟩)
  have ew : IntKind.i64.wrap (t + s) = t + s := by rw [IntKind.wrap_i64]; omega
  obtain ⟨i0, hi, hz0, hz1, hz2⟩ := info_parts info34
  go_enter Try.func9, Try.ntmps9
  go_wp2_with (first
    | (go_at_call 11; go_must (refine (RightR_calls 3 s 0 _).mono ?_); rw [hR']; rintro e w1 ⟨rfl, hB1⟩; have HB := Lib.hid hB1; have HF := hB1.cell (p := ⟨w.heap.size, 0, none⟩) (by simp); have HF1 := hB1.cell (p := ⟨w.heap.size, 1, none⟩) (by simp))
    | (go_at_call 15; go_must (refine (Time_calls t _).mono ?_); rw [hT']; rintro e w2 ⟨rfl, rfl⟩)
    | (at_builtin; go_must (refine wpList_append_own _ rfl _ _ 24 rfl w.heap.size 34 i0 (.agg #[.int .i64 0, .int .i64 0]) 2 16 Try.underlying24 hi hz0 hz1 hz2 rfl (by decide) _ 0 [] rfl (World.ownsRow_nil _ _ _ _) _ 1 1 [.int .i64 t, .int .i64 (t + s)] rfl rfl (box_cell _ (t, t + s)) (one_two (t, t + s)) (by unfold maxLen; omega) (by omega) (size_one (size_after HB.out)) ?_); intro v' w5 hown' hgrow _))
  go_ret2
  exact ⟨_, rfl, by simpa [ofL, encs, enc] using hown', below_one (below_after HB.out) (size_after HB.out) hgrow (fun k e => by cases e)⟩

set_option maxHeartbeats 1000000 in
theorem RefOf_tumble (s t : Int) (w : World) (hs : 1 ≤ s) (hs' : s ≤ 1000000) (h0 : 0 ≤ t) (h1 : t ≤ 1000000000) : Calls Try.prog 9 #[win 1 s 0, .int .i64 t] w (OfRPost (ofL 1 s 0 t) true w) := by
  have hR' := decide_eq_true (show Righted 1 s 0 by unfold Righted; omega)
  have hT' := decide_eq_true (show 0 ≤ t ∧ t ≤ 1000000000 from ⟨h0, h1⟩)
  have e0 := Int.mul_ediv_add_emod t s
  have e1 := Int.emod_nonneg t (show s ≠ 0 by omega)
  have e2 := Int.emod_lt_of_pos t (show 0 < s by omega)
  have hL : ofL 1 s 0 t = [(s * (t / s), s * (t / s) + s)] := by
    show [((t - t % s, t - t % s + s) : Sp)] = _
    rw [show t - t % s = s * (t / s) by omega]
  obtain ⟨f, hf⟩ : ∃ f, f = s * (t / s) := ⟨_, rfl⟩
  have hdown := fun X : World => down_calls t s X hs hs' (by omega) h1
  rw [← hf] at e0 hL hdown
  have ew : IntKind.i64.wrap (f + s) = f + s := by rw [IntKind.wrap_i64]; omega
  clear hf
  rw [hL]
  obtain ⟨i0, hi, hz0, hz1, hz2⟩ := info_parts info34
  go_enter Try.func9, Try.ntmps9
  go_wp2_with (first
    | (go_at_call 11; go_must (refine (RightR_calls 1 s 0 _).mono ?_); rw [hR']; rintro e w1 ⟨rfl, hB1⟩; have HB := Lib.hid hB1; have HF := hB1.cell (p := ⟨w.heap.size, 0, none⟩) (by simp); have HF1 := hB1.cell (p := ⟨w.heap.size, 1, none⟩) (by simp))
    | (go_at_call 15; go_must (refine (Time_calls t _).mono ?_); rw [hT']; rintro e w2 ⟨rfl, rfl⟩)
    | (go_at_call 19; go_must (refine (hdown _).mono ?_); rintro e w2 ⟨rfl, rfl⟩)
    | (at_builtin; go_must (refine wpList_append_own _ rfl _ _ 24 rfl w.heap.size 34 i0 (.agg #[.int .i64 0, .int .i64 0]) 2 16 Try.underlying24 hi hz0 hz1 hz2 rfl (by decide) _ 0 [] rfl (World.ownsRow_nil _ _ _ _) _ 1 1 [.int .i64 f, .int .i64 (f + s)] rfl rfl (box_cell _ (f, f + s)) (one_two (f, f + s)) (by unfold maxLen; omega) (by omega) (size_one (size_after HB.out)) ?_); intro v' w5 hown' hgrow _))
  go_ret2
  exact ⟨_, rfl, by simpa [encs, enc] using hown', below_one (below_after HB.out) (size_after HB.out) hgrow (fun k e => by cases e)⟩
end Go.Proofs.Ytdmflbdcfnpikaa.Hand
