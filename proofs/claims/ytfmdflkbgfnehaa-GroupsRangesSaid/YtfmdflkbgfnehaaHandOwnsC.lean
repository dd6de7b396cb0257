/- Owners, ranges and partitions are the document's. -/
import Derived.Test.YtfmdflkbgfnehaaHandOwnsB
namespace Go.Proofs.Ytfmdflkbgfnehaa.Hand
open Go.RowKit Go.Shelf Go.Proofs.Ytfmdflkbgfnehaa

/-- the slice value v has n elements, which stand at the cells of w; it may be nil. -/
def RowAt (w : World) (v : Value) (n : Nat) (f : Nat → Value) : Prop :=
  (n = 0 ∧ v = .slice none 0 0) ∨ ∃ g cap, v = .slice (some ⟨g, 0, none⟩) n cap ∧ n ≤ cap ∧ g < w.heap.size ∧ ∀ j, j < n → w.cell? ⟨g, j, none⟩ = some (f j)
theorem RowAt.of {w : World} {base : Nat} {e : TypeId} {v : Value} {n : Nat} {xs : List Value} (h : w.ownsRow base e 1 v n xs) (f : Nat → Value) (hf : ∀ j, j < n → xs[j]? = some (f j)) : RowAt w v n f := by
  rcases h.2 with ⟨hv, h0⟩ | ⟨g, cap, cur, rfl, _, hg, hc, _⟩
  · exact .inl ⟨h0, hv⟩
  · refine .inr ⟨g, cap, rfl, hc, (Array.getElem?_eq_some_iff.1 hg).1, fun j hj => ?_⟩
    have := h.cells (g := g) rfl j _ (hf j hj)
    rwa [show (⟨g, 0, none⟩ : Addr).add j = ⟨g, j, none⟩ from by unfold Addr.add; split <;> simp_all] at this
theorem RowAt.below {w w' : World} {v : Value} {n : Nat} {f : Nat → Value} (h : RowAt w v n f) (hb : RowKit.Below w.heap.size w w') : RowAt w' v n f := by
  rcases h with h | ⟨g, cap, h1, h2, h3, h4⟩
  · exact .inl h
  · exact .inr ⟨g, cap, h1, h2, by have := hb.size; omega, fun j hj => keep hb h3 (h4 j hj)⟩

set_option maxRecDepth 100000 in
set_option maxHeartbeats 8000000 in
theorem Owns_full (a b p : Nat) (w : World) (h1 : 1 ≤ b) (h2 : b ≤ 8) (h3 : a < b) (h4 : 1 ≤ p) (h7 : p ≤ 16) :
    Calls Try.prog 4 #[.int .i64 (a : Int), .int .i64 (b : Int), .int .i64 (p : Int)] w fun e w' => e = .returned (.bool true) ∧ RowKit.Below w.heap.size w w' := by
  obtain ⟨L, hlen, hf, hl⟩ := owned_fit b a h1 h2 h3
  have h5 : (a : Int) < (b : Int) := by omega
  have h6 : (a : Int) < 16 := by omega
  have hp1 : ¬ (p : Int) < 1 := by omega
  have hp2 : ¬ 16 < (p : Int) := by omega
  have hbd := rangeB_bd b a
  have hL16 : L ≤ 15 := by have := ownedL_le a b 16; omega
  have HL := Lib.hid hlen
  have HF := Lib.hid hf
  have HG := Lib.hid hl
  clear hlen hf hl
  generalize hA : rangeA b a (rangeL b a) = A at *
  generalize hBv : rangeB (rangeL b a) = B at *
  have HA := Lib.hid hA
  have HB := Lib.hid hBv
  clear hA hBv
  go_enter Try.func4, Try.ntmps4
  go_wp2_with (first
    | (go_at_call 12; go_must (refine (Owner_good _ _ _ (by omega) (by omega) (by omega) (by omega)).mono ?_); rintro e w' ⟨rfl, rfl⟩)
    | (go_at_call 13; go_must (refine (Range_good b a (by omega) (by omega) (by omega) (by omega) _).mono ?_); rintro e w1 ⟨rfl, hB1⟩; rw [HA.out, HB.out])
    | (go_at_call 14; go_must (refine (Parts_good a b p (by omega) (by omega) (by omega) (by omega) (by omega) _).mono ?_); rintro e w2 ⟨v, k, rfl, hk1, hk2, hown, hB2⟩; have hr1 := RowAt.of hown (fun j => .int .i64 ((a + j * b : Nat) : Int)) (fun j hj => stepL_get _ _ _ _ hj); clear hown; go_must (obtain ⟨hfit1, hfit2⟩ := parts_fit p a b k (by omega) (by omega) (by omega) (by omega) hk1 hk2); have HP1 := Lib.hid hfit1; have HP2 := Lib.hid hfit2; have hk16 := HP1.out ▸ rpartsL_le a b p; clear hfit1 hfit2 hk1 hk2; rcases hr1 with ⟨hk0, hv0⟩ | ⟨g1, cap1, hv1, hcap1, hg1, hcell1⟩)
    | (go_at_call 15; go_must (refine (Sub_true _ _ (by omega) (by omega)).mono ?_); rintro e w' ⟨rfl, rfl⟩))
  · subst hk0 hv0
    go_wp2_with (first
      | (go_at_call 16; go_must (refine (refOwner_calls a b _ (by omega) (by omega)).mono ?_); rintro e w' ⟨rfl, rfl⟩)
      | (go_at_call 17; go_must (refine (Owned_calls a b (by omega) _).mono ?_); rintro e w3 ⟨v3, rfl, hown, hB3⟩; go_must (rw [HL.out] at hown); go_must (obtain ⟨g, cap, rfl, hg, hcap, hcell⟩ := row_cell hown); clear hown; have hc0 := hcell 0 _ HF.out; have hc1 := hcell L _ HG.out; clear hcell)
      | (go_at_call 18; go_must (refine (refParts_calls a b p (by omega) (by omega) (by omega) _).mono ?_); rintro e w4 ⟨v4, rfl, hown, hB4⟩; go_must (rw [HP1.out, HP2.out] at hown); have hr2 := RowAt.of hown (fun j => .int .i64 ((a + j * b : Nat) : Int)) (fun j hj => stepL_get _ _ _ _ hj); clear hown; rcases hr2 with ⟨_, hv4⟩ | ⟨g2, cap2, hv4, _, _, _⟩ <;> subst hv4)
      | (go_at_call 7; go_must (refine (awake_calls _).mono ?_); rintro e w5 ⟨rfl, hB5⟩))
    · go_loopw [17] (fun i wr => i = .int .i64 0 ∧ wr = w4) (fun _ _ => 0)
      case atStart => exact ⟨rfl, rfl⟩
      case round =>
        obtain ⟨rfl, rfl⟩ := hrel
        go_wp2_with (go_at_call 7; go_must (refine (awake_calls _).mono ?_); rintro e w5 ⟨rfl, hB5⟩)
        go_ret
        exact ⟨rfl, bgo (bgo (bgo (bgo hB1 (Nat.le_refl _) hB2) (Nat.le_refl _) hB3) (Nat.le_refl _) hB4) (Nat.le_refl _) hB5⟩
    · go_loopw [17] (fun i wr => i = .int .i64 0 ∧ wr = w4) (fun _ _ => 0)
      case atStart => exact ⟨rfl, rfl⟩
      case round =>
        obtain ⟨rfl, rfl⟩ := hrel
        go_wp2_with (go_at_call 7; go_must (refine (awake_calls _).mono ?_); rintro e w5 ⟨rfl, hB5⟩)
        go_ret
        exact ⟨rfl, bgo (bgo (bgo (bgo hB1 (Nat.le_refl _) hB2) (Nat.le_refl _) hB3) (Nat.le_refl _) hB4) (Nat.le_refl _) hB5⟩
  · subst hv1
    go_wp2_with (first
      | (go_at_call 16; go_must (refine (refOwner_calls a b _ (by omega) (by omega)).mono ?_); rintro e w' ⟨rfl, rfl⟩)
      | (go_at_call 17; go_must (refine (Owned_calls a b (by omega) _).mono ?_); rintro e w3 ⟨v3, rfl, hown, hB3⟩; go_must (rw [HL.out] at hown); go_must (obtain ⟨g, cap, rfl, hg, hcap, hcell⟩ := row_cell hown); clear hown; have hc0 := hcell 0 _ HF.out; have hc1 := hcell L _ HG.out; clear hcell)
      | (go_at_call 18; go_must (refine (refParts_calls a b p (by omega) (by omega) (by omega) _).mono ?_); rintro e w4 ⟨v4, rfl, hown, hB4⟩; go_must (rw [HP1.out, HP2.out] at hown); have hr2 := RowAt.of hown (fun j => .int .i64 ((a + j * b : Nat) : Int)) (fun j hj => stepL_get _ _ _ _ hj); clear hown; have hz3 := hB3.size; rcases hr2 with ⟨hk0, hv4⟩ | ⟨g2, cap2, hv2, hcap2, hg2, hcell2⟩))
    · subst hk0 hv4
      go_loopw [17] (fun i wr => i = .int .i64 0 ∧ wr = w4) (fun _ _ => 0)
      case atStart => exact ⟨rfl, rfl⟩
      case round =>
        obtain ⟨rfl, rfl⟩ := hrel
        go_wp2_with (go_at_call 7; go_must (refine (awake_calls _).mono ?_); rintro e w5 ⟨rfl, hB5⟩)
        go_ret
        exact ⟨rfl, bgo (bgo (bgo (bgo hB1 (Nat.le_refl _) hB2) (Nat.le_refl _) hB3) (Nat.le_refl _) hB4) (Nat.le_refl _) hB5⟩
    · subst hv2
      have hz4 := hB4.size
      go_loopw [17] (fun i wr => ∃ n : Nat, n ≤ k ∧ i = .int .i64 (n : Int) ∧ RowKit.Below w4.heap.size w4 wr) (fun i _ => k - (intOf i).toNat)
      case atStart => exact ⟨0, by omega, rfl, Below.refl _ _⟩
      case round =>
        obtain ⟨n, hn, rfl, hBr⟩ := hrel
        by_cases hlt : n < k
        · have hA1 := keep hBr (by omega) (keep hB4 (by omega) (keep hB3 hg1 (hcell1 n hlt)))
          have hA2 := keep hBr hg2 (hcell2 n hlt)
          go_wp2
          go_region
          all_goals go_wp2
          all_goals exact ⟨⟨n + 1, by omega, by go_num, hBr.drew⟩, by simp [intOf]; omega⟩
        · obtain rfl : n = k := by omega
          go_wp2_with (go_at_call 7; go_must (refine (awake_calls _).mono ?_); rintro e w5 ⟨rfl, hB5⟩)
          go_ret
          exact ⟨rfl, bgo (bgo (bgo (bgo hB1 (Nat.le_refl _) hB2) (Nat.le_refl _) hB3) (Nat.le_refl _) hB4) (Nat.le_refl _) (bgo hBr (Nat.le_refl _) hB5)⟩

theorem GroupsOwns_calls (one of parts : Int) (w : World) (_ : (Lit.int .i64 one).wf = true) (_ : (Lit.int .i64 of).wf = true) (_ : (Lit.int .i64 parts).wf = true) :
    Calls Try.prog 4 #[.int .i64 one, .int .i64 of, .int .i64 parts] w fun e w' => e = .returned (.bool true) ∧ RowKit.Below w.heap.size w w' := by
  by_cases h : (of < 1 ∨ 8 < of) ∨ one < 0 ∨ of ≤ one
  · exact Owns_bad one of parts w h
  · obtain ⟨a, rfl⟩ := Int.eq_ofNat_of_zero_le (show 0 ≤ one by omega)
    obtain ⟨b, rfl⟩ := Int.eq_ofNat_of_zero_le (show 0 ≤ of by omega)
    by_cases h2 : parts < 1 ∨ 16 < parts
    · exact Owns_half a b parts w (by omega) (by omega) (by omega) h2
    · obtain ⟨p, rfl⟩ := Int.eq_ofNat_of_zero_le (show 0 ≤ parts by omega)
      exact Owns_full a b p w (by omega) (by omega) (by omega) (by omega) (by omega)
end Go.Proofs.Ytfmdflkbgfnehaa.Hand
