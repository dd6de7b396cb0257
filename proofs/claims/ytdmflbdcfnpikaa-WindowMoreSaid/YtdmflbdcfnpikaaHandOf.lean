/- window.Of in windows that slide. -/
import Derived.Test.YtdmflbdcfnpikaaHandOfA
namespace Go.Proofs.Ytdmflbdcfnpikaa.Hand
open Go.RowKit Go.Proofs.Ytdmflbdcfnpikaa Go.Proofs.Ytdmflbdcfnpikaa.Spans Go.Proofs.YtdmflbdcfnpikaaW Go.Proofs.YtdmflbdcfnpikaaW.PrintWords Go.Lib

/-- the same spans from the last to the first. -/
def downL (s l q : Int) (n : Nat) : List Sp := (List.range n).map fun j : Nat => ((l * (q - (j : Int)), l * (q - (j : Int)) + s) : Sp)
theorem downL_snoc (s l q : Int) (n : Nat) : downL s l q (n + 1) = downL s l q n ++ [(l * (q - (n : Int)), l * (q - (n : Int)) + s)] := by
  unfold downL
  rw [List.range_succ, List.map_append]
  rfl
theorem downL_length (s l q : Int) (n : Nat) : (downL s l q n).length = n := by simp [downL]
theorem downL_reverse (s l q p : Int) (n : Nat) (h : (n : Int) = q - p) : (downL s l q n).reverse = slideL s l p n := by
  apply List.ext_getElem
  · simp [downL, slideL]
  · intro j h1 h2
    have hj : j < n := by simpa [slideL] using h2
    have e : q - ((n - 1 - j : Nat) : Int) = p + 1 + (j : Int) := by omega
    rw [List.getElem_reverse]
    simp only [downL, slideL, List.getElem_map, List.getElem_range, List.length_map, List.length_range]
    rw [e]
theorem slide_num (s l t : Int) (hl : 1 ≤ l) (hls : l ≤ s) (hs16 : s ≤ 16 * l) : ∃ n : Nat, ((n : Nat) : Int) = t / l - (t - s) / l ∧ 1 ≤ n ∧ n ≤ 16 ∧ l * (t / l) ≤ t ∧ t < l * (t / l) + l ∧ l * ((t - s) / l) ≤ t - s ∧ t - s < l * ((t - s) / l) + l := by
  have a1 := Int.mul_ediv_self_le (x := t) (show l ≠ 0 by omega)
  have a2 := Int.lt_mul_ediv_self_add (x := t) (show 0 < l by omega)
  have b1 := Int.mul_ediv_self_le (x := t - s) (show l ≠ 0 by omega)
  have b2 := Int.lt_mul_ediv_self_add (x := t - s) (show 0 < l by omega)
  obtain ⟨q, hq⟩ : ∃ q, q = t / l := ⟨_, rfl⟩
  obtain ⟨p, hp⟩ : ∃ p, p = (t - s) / l := ⟨_, rfl⟩
  rw [← hq] at a1 a2 ⊢
  rw [← hp] at b1 b2 ⊢
  have c1 : p < q := by
    apply Decidable.byContradiction
    intro h
    have : l * q ≤ l * p := Int.mul_le_mul_of_nonneg_left (by omega) (by omega)
    omega
  have c2 : q - p ≤ 16 := by
    apply Decidable.byContradiction
    intro h
    have : l * (p + 17) ≤ l * q := Int.mul_le_mul_of_nonneg_left (by omega) (by omega)
    rw [Int.mul_add] at this
    omega
  exact ⟨(q - p).toNat, by omega, by omega, by omega, a1, a2, b1, b2⟩

theorem slide_step (l q p : Int) (n i : Nat) (hl : 1 ≤ l) (hn : (n : Int) = q - p) (hi : i ≤ n) :
    l * p ≤ l * (q - (i : Int)) ∧ l * (q - (i : Int)) ≤ l * q ∧ (i < n → l * p + l ≤ l * (q - (i : Int))) ∧ (i = n → l * (q - (i : Int)) = l * p) ∧ l * (q - ((i + 1 : Nat) : Int)) = l * (q - (i : Int)) - l := by
  refine ⟨Int.mul_le_mul_of_nonneg_left (by omega) (by omega), Int.mul_le_mul_of_nonneg_left (by omega) (by omega), fun h => ?_, fun h => ?_, ?_⟩
  · have : l * (p + 1) ≤ l * (q - (i : Int)) := Int.mul_le_mul_of_nonneg_left (by omega) (by omega)
    rw [Int.mul_add] at this
    omega
  · rw [show q - (i : Int) = p by omega]
  · rw [show q - ((i + 1 : Nat) : Int) = (q - (i : Int)) - 1 by omega, Int.mul_sub l (q - (i : Int)) 1, Int.mul_one]

set_option maxHeartbeats 2000000 in
set_option maxRecDepth 100000 in
theorem Of_slide (s l t : Int) (w : World) (hs' : s ≤ 1000000) (hl : 1 ≤ l) (hls : l ≤ s) (hs16 : s ≤ 16 * l) (h0 : 0 ≤ t) (h1 : t ≤ 1000000000) : Calls Try.prog 8 #[win 2 s l, .int .i64 t] w (OfPost (ofL 2 s l t) 0 w) := by
  have hR : Righted 2 s l := by unfold Righted; omega
  have hR' := decide_eq_true hR
  obtain ⟨n, hn, hn1, hn16, a1, a2, b1, b2⟩ := slide_num s l t hl hls hs16
  have hL : ofL 2 s l t = slideL s l ((t - s) / l) n := by
    show slideL s l ((t - s) / l) (t / l - (t - s) / l).toNat = _
    rw [← hn]; simp
  have er : t.tmod l = t - l * (t / l) := by rw [Int.tmod_eq_emod_of_nonneg h0]; have := Int.mul_ediv_add_emod t l; omega
  obtain ⟨q, hq⟩ : ∃ q, q = t / l := ⟨_, rfl⟩
  obtain ⟨p, hp⟩ : ∃ p, p = (t - s) / l := ⟨_, rfl⟩
  rw [← hq] at a1 a2 hn er
  rw [← hp] at b1 b2 hn hL
  rw [hL]
  obtain ⟨F0, hF0⟩ : ∃ F, F = l * q := ⟨_, rfl⟩
  obtain ⟨G0, hG0⟩ : ∃ G, G = l * p := ⟨_, rfl⟩
  rw [← hF0] at a1 a2 er
  rw [← hG0] at b1 b2
  have HF0 := Lib.hid hF0
  have HG0 := Lib.hid hG0
  clear hF0 hG0
  have hz : ¬ l = 0 := by omega
  have ew0 : IntKind.i64.wrap (t - F0) = t - F0 := by rw [IntKind.wrap_i64]; omega
  have ew1 : t - (t - F0) = F0 := by omega
  have ew2 : IntKind.i64.wrap F0 = F0 := by rw [IntKind.wrap_i64]; omega
  have ew3 : IntKind.i64.wrap (t - s) = t - s := by rw [IntKind.wrap_i64]; omega
  clear hR hq hp hL
  obtain ⟨i0, hi, hz0, hz1, hz2⟩ := info_parts info34
  go_enter Try.func8, Try.ntmps8
  go_wp2_with (first
    | (go_at_call 10; go_must (refine (Right_calls 2 s l _).mono ?_); rw [hR']; rintro e w1 ⟨rfl, hB1⟩; have HB := Lib.hid hB1; have HF := hB1.cell (p := ⟨w.heap.size, 0, none⟩) (by simp); have HF1 := hB1.cell (p := ⟨w.heap.size, 1, none⟩) (by simp); have HF2 := hB1.cell (p := ⟨w.heap.size, 2, none⟩) (by simp)))
  have c1 : w1.cell? ⟨w.heap.size, 1, none⟩ = some (.int .i64 s) := by rw [HF1]; simp
  have c2 : w1.cell? ⟨w.heap.size, 2, none⟩ = some (.int .i64 l) := by rw [HF2]; simp
  have hw1 : w.heap.size < w1.heap.size := by have := HB.out.size; simp at this; omega
  clear HF HF1 HF2 hB1 er ew0 ew1 hR'
  go_loopw [6, 8] (fun v a wr => ∃ i : Nat, i ≤ n ∧ a = .int .i64 (l * (q - (i : Int))) ∧ wr.ownsRow w1.heap.size 34 2 v i (encs (downL s l q i)) ∧ Below w1.heap.size w1 wr) (fun v a _ => (intOf a - G0).toNat)
  case atStart => exact ⟨0, by omega, by rw [HF0.out]; simp, World.ownsRow_nil _ _ _ _, Below.refl _ _⟩
  case round =>
    obtain ⟨i, hin, rfl, hown, hB⟩ := hrel
    obtain ⟨d1, d2, d3, d4, d5⟩ := slide_step l q p n i hl hn hin
    have hcc := downL_length s l q i
    have hsn := downL_snoc s l q i
    obtain ⟨F, hF⟩ : ∃ F, F = l * (q - (i : Int)) := ⟨_, rfl⟩
    rw [← hF] at d1 d2 d3 d4 d5 hsn ⊢
    rw [← HF0.out] at d2
    rw [← HG0.out] at d1 d3 d4
    have HF := Lib.hid hF
    clear hF
    have k1 := keep hB hw1 c1
    have k2 := keep hB hw1 c2
    by_cases hlt : i < n
    · have d3' := d3 hlt
      have hgt : t - s < F := by omega
      have w1' : IntKind.i64.wrap (F + s) = F + s := by rw [IntKind.wrap_i64]; omega
      have w2' : IntKind.i64.wrap (F - l) = F - l := by rw [IntKind.wrap_i64]; omega
      have D5 := Lib.hid d5
      have HSN := Lib.hid hsn
      clear d3 d4 d5 hsn
      go_wp2_with (at_builtin; go_must (refine wpList_append_own _ rfl _ _ 24 rfl w1.heap.size 34 i0 (.agg #[.int .i64 0, .int .i64 0]) 2 16 Try.underlying24 hi hz0 hz1 hz2 rfl (by decide) _ i (encs (downL s l q i)) rfl (hown.alloc _) _ 1 1 [.int .i64 F, .int .i64 (F + s)] rfl rfl (box_cell wr (F, F + s)) (one_two (F, F + s)) (by unfold maxLen; omega) (by omega) (size_one hB.size) ?_); intro v' w5 hown' hgrow _; have k3 := keep (below_one hB hB.size hgrow (fun j e => (hown.lt j e).1)) hw1 c2)
      go_roundw
      case rel => exact ⟨i + 1, by omega, by rw [D5.out], by rw [HSN.out, encs_snoc]; exact hown', below_one hB hB.size hgrow (fun j e => (hown.lt j e).1)⟩
      case measure => simp only [intOf]; omega
    · have hin' : i = n := by omega
      subst hin'
      have d4' := d4 rfl
      have hle : F ≤ t - s := by omega
      obtain ⟨g, c, rfl, hg1, hg2, hg3⟩ := own_some hown (by omega)
      have hown2 : wr.ownsRow w1.heap.size 34 2 (.slice (some ⟨g, 0, none⟩) (downL s l q i).length c) (downL s l q i).length (encs (downL s l q i)) := by rw [hcc]; exact hown
      clear d3 d4 d5 hsn
      go_wp2_with (go_at_call 18; go_must (have hrev := Reverse_calls _ g c (downL s l q i) wr (by omega) hown2; rw [hcc] at hrev; refine hrev.mono ?_); rintro e w7 ⟨rfl, ho7, hg7⟩)
      go_ret2
      rw [downL_reverse s l q p i hn] at ho7
      have hB7 : Below w.heap.size w w7 := grown_up (bgo (below_after HB.out) (Nat.le_refl _) hB) (by have := hB.size; omega) hg7 (fun k e => by have := Option.some.inj e; omega)
      exact ⟨_, rfl, by rw [show (slideL s l p i).length = i by simp [slideL]]; exact own_base ho7 (by omega), hB7⟩
/-- is a time's question answered? -/
def Asked (k s l t : Int) : Prop := Righted k s l ∧ 0 ≤ t ∧ t ≤ 1000000000
instance (k s l t : Int) : Decidable (Asked k s l t) := by unfold Asked; infer_instance

theorem Of_good (k s l t : Int) (w : World) (h : Asked k s l t) : Calls Try.prog 8 #[win k s l, .int .i64 t] w (OfPost (ofL k s l t) 0 w) := by
  obtain ⟨hR, h0, h1⟩ := h
  rcases hR with ⟨rfl, rfl, rfl⟩ | ⟨rfl | rfl, hs, hs', rfl⟩ | ⟨rfl, _, hs', hl, hls, h16⟩
  · exact Of_none t w h0 h1
  · exact Of_tumble s t w hs hs' h0 h1
  · exact Of_session s t w hs hs' h0 h1
  · exact Of_slide s l t w hs' hl hls h16 h0 h1
end Go.Proofs.Ytdmflbdcfnpikaa.Hand
