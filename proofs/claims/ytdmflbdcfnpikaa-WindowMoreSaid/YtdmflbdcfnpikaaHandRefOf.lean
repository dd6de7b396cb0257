/- layer 9, the document's answer: the spans of a time in windows that slide, walked. -/
import Derived.Test.YtdmflbdcfnpikaaHandRefOfA
namespace Go.Proofs.Ytdmflbdcfnpikaa.Hand
open Go.RowKit Go.Proofs.Ytdmflbdcfnpikaa Go.Proofs.Ytdmflbdcfnpikaa.Spans Go.Proofs.YtdmflbdcfnpikaaW Go.Proofs.YtdmflbdcfnpikaaW.PrintWords Go.Lib

theorem slideL_snoc (s l p : Int) (n : Nat) : slideL s l p (n + 1) = slideL s l p n ++ [(l * (p + 1 + (n : Int)), l * (p + 1 + (n : Int)) + s)] := by
  unfold slideL
  rw [List.range_succ, List.map_append]
  rfl
theorem slideL_length (s l p : Int) (n : Nat) : (slideL s l p n).length = n := by simp [slideL]
theorem rise_step (l q p : Int) (n i : Nat) (hl : 1 ≤ l) (hn : (n : Int) = q - p) :
    (i = 0 → l * (p + (i : Int)) = l * p) ∧ (1 ≤ i → l * p + l ≤ l * (p + (i : Int))) ∧ (i ≤ n → l * (p + (i : Int)) ≤ l * q) ∧ (i = n + 1 → l * (p + (i : Int)) = l * q + l) ∧ l * (p + ((i + 1 : Nat) : Int)) = l * (p + (i : Int)) + l := by
  refine ⟨fun h => ?_, fun h => ?_, fun h => Int.mul_le_mul_of_nonneg_left (by omega) (by omega), fun h => ?_, ?_⟩
  · rw [show p + (i : Int) = p by omega]
  · have : l * (p + 1) ≤ l * (p + (i : Int)) := Int.mul_le_mul_of_nonneg_left (by omega) (by omega)
    rw [Int.mul_add] at this
    omega
  · rw [show p + (i : Int) = q + 1 by omega, Int.mul_add, Int.mul_one]
  · rw [show p + ((i + 1 : Nat) : Int) = (p + (i : Int)) + 1 by omega, Int.mul_add l (p + (i : Int)) 1, Int.mul_one]

set_option maxHeartbeats 2000000 in
set_option maxRecDepth 100000 in
theorem RefOf_slide (s l t : Int) (w : World) (hs' : s ≤ 1000000) (hl : 1 ≤ l) (hls : l ≤ s) (hs16 : s ≤ 16 * l) (h0 : 0 ≤ t) (h1 : t ≤ 1000000000) : Calls Try.prog 9 #[win 2 s l, .int .i64 t] w (OfRPost (ofL 2 s l t) true w) := by
  have hR' := decide_eq_true (show Righted 2 s l by unfold Righted; omega)
  have hT' := decide_eq_true (show 0 ≤ t ∧ t ≤ 1000000000 from ⟨h0, h1⟩)
  obtain ⟨n, hn, hn1, hn16, a1, a2, b1, b2⟩ := slide_num s l t hl hls hs16
  have hL : ofL 2 s l t = slideL s l ((t - s) / l) n := by
    show slideL s l ((t - s) / l) (t / l - (t - s) / l).toNat = _
    rw [← hn]; simp
  obtain ⟨q, hq⟩ : ∃ q, q = t / l := ⟨_, rfl⟩
  obtain ⟨p, hp⟩ : ∃ p, p = (t - s) / l := ⟨_, rfl⟩
  have hdown := fun X : World => down_calls (t - s) l X hl (by omega) (by omega) (by omega)
  rw [← hq] at a1 a2 hn
  rw [← hp] at b1 b2 hn hL hdown
  rw [hL]
  obtain ⟨F0, hF0⟩ : ∃ F, F = l * q := ⟨_, rfl⟩
  obtain ⟨G0, hG0⟩ : ∃ G, G = l * p := ⟨_, rfl⟩
  rw [← hF0] at a1 a2
  rw [← hG0] at b1 b2 hdown
  have HF0 := Lib.hid hF0
  have HG0 := Lib.hid hG0
  have ew3 : IntKind.i64.wrap (t - s) = t - s := by rw [IntKind.wrap_i64]; omega
  clear hq hp hL hF0 hG0
  obtain ⟨i0, hi, hz0, hz1, hz2⟩ := info_parts info34
  go_enter Try.func9, Try.ntmps9
  go_wp2_with (first
    | (go_at_call 11; go_must (refine (RightR_calls 2 s l _).mono ?_); rw [hR']; rintro e w1 ⟨rfl, hB1⟩; have HB := Lib.hid hB1; have HF := hB1.cell (p := ⟨w.heap.size, 0, none⟩) (by simp); have HF1 := hB1.cell (p := ⟨w.heap.size, 1, none⟩) (by simp); have HF2 := hB1.cell (p := ⟨w.heap.size, 2, none⟩) (by simp))
    | (go_at_call 15; go_must (refine (Time_calls t _).mono ?_); rw [hT']; rintro e w2 ⟨rfl, rfl⟩)
    | (go_at_call 19; go_must (refine (hdown _).mono ?_); rintro e w2 ⟨rfl, rfl⟩))
  have c1 : w2.cell? ⟨w.heap.size, 1, none⟩ = some (.int .i64 s) := by rw [HF1]; simp
  have c2 : w2.cell? ⟨w.heap.size, 2, none⟩ = some (.int .i64 l) := by rw [HF2]; simp
  have hw1 : w.heap.size < w2.heap.size := by have := HB.out.size; simp at this; omega
  clear HF HF1 HF2 hB1 hR' hT' hdown
  go_loopw [6, 8] (fun v a wr => ∃ i : Nat, i ≤ n + 1 ∧ a = .int .i64 (l * (p + (i : Int))) ∧ wr.ownsRow w2.heap.size 34 2 v (i - 1) (encs (slideL s l p (i - 1))) ∧ Below w2.heap.size w2 wr) (fun v a _ => (F0 + 2 * l - intOf a).toNat)
  case atStart => exact ⟨0, by omega, by rw [HG0.out]; simp, World.ownsRow_nil _ _ _ _, Below.refl _ _⟩
  case round =>
    obtain ⟨i, hin, rfl, hown, hB⟩ := hrel
    obtain ⟨d1, d2, d3, d4, d5⟩ := rise_step l q p n i hl hn
    have hsn := slideL_snoc s l p (i - 1)
    obtain ⟨F, hF⟩ : ∃ F, F = l * (p + (i : Int)) := ⟨_, rfl⟩
    rw [← hF] at d1 d2 d3 d4 d5 ⊢
    rw [← HF0.out] at d3 d4
    rw [← HG0.out] at d1 d2
    have k1 := keep hB hw1 c1
    have k2 := keep hB hw1 c2
    have HF := Lib.hid hF
    have D5 := Lib.hid d5
    clear hF d5
    by_cases hi0 : i = 0
    · have d1' := d1 hi0
      subst hi0
      have x1' : IntKind.i64.wrap (F + s) = F + s := by rw [IntKind.wrap_i64]; omega
      have x2' : IntKind.i64.wrap (F + l) = F + l := by rw [IntKind.wrap_i64]; omega
      have g1 : F ≤ t := by omega
      have g2 : F + s ≤ t := by omega
      clear d1 d2 d3 d4 hsn d1'
      go_wp2
      go_roundw
      case rel => exact ⟨1, by omega, by rw [← D5.out], hown, hB⟩
      case measure => simp only [intOf]; omega
    · have d2' := d2 (by omega)
      by_cases hlt : i ≤ n
      · have d3' := d3 hlt
        have x1' : IntKind.i64.wrap (F + s) = F + s := by rw [IntKind.wrap_i64]; omega
        have x2' : IntKind.i64.wrap (F + l) = F + l := by rw [IntKind.wrap_i64]; omega
        have g1 : F ≤ t := by omega
        have g2 : t < F + s := by omega
        rw [show p + 1 + ((i - 1 : Nat) : Int) = p + (i : Int) by omega, ← HF.out] at hsn
        have HSN := Lib.hid hsn
        clear d1 d2 d3 d4 hsn d2' d3'
        go_wp2_with (at_builtin; go_must (refine wpList_append_own _ rfl _ _ 24 rfl w2.heap.size 34 i0 (.agg #[.int .i64 0, .int .i64 0]) 2 16 Try.underlying24 hi hz0 hz1 hz2 rfl (by decide) _ (i - 1) (encs (slideL s l p (i - 1))) rfl (hown.alloc _) _ 1 1 [.int .i64 F, .int .i64 (F + s)] rfl rfl (box_cell wr (F, F + s)) (one_two (F, F + s)) (by unfold maxLen; omega) (by omega) (size_one hB.size) ?_); intro v' w5 hown' hgrow _; have k3 := keep (below_one hB hB.size hgrow (fun j e => (hown.lt j e).1)) hw1 c2)
        go_roundw
        case rel => exact ⟨i + 1, by omega, by rw [← D5.out], by rw [show i + 1 - 1 = i - 1 + 1 by omega, HSN.out, encs_snoc]; exact hown', below_one hB hB.size hgrow (fun j e => (hown.lt j e).1)⟩
        case measure => simp only [intOf]; omega
      · have hin' : i = n + 1 := by omega
        have d4' := d4 hin'
        subst hin'
        have g1 : t < F := by omega
        clear d1 d2 d3 d4 hsn
        go_wp2
        go_ret2
        have hB7 : Below w.heap.size w wr := bgo (below_after HB.out) (Nat.le_refl _) hB
        exact ⟨_, rfl, by rw [slideL_length]; exact own_base hown (by omega), hB7⟩

theorem RefOf_good (k s l t : Int) (w : World) (h : Asked k s l t) : Calls Try.prog 9 #[win k s l, .int .i64 t] w (OfRPost (ofL k s l t) true w) := by
  obtain ⟨hR, h0, h1⟩ := h
  rcases hR with ⟨rfl, rfl, rfl⟩ | ⟨rfl | rfl, hs, hs', rfl⟩ | ⟨rfl, _, hs', hl, hls, h16⟩
  · exact RefOf_none t w h0 h1
  · exact RefOf_tumble s t w hs hs' h0 h1
  · exact RefOf_session s t w hs hs' h0 h1
  · exact RefOf_slide s l t w hs' hl hls h16 h0 h1
end Go.Proofs.Ytdmflbdcfnpikaa.Hand
