/- Owners, ranges and partitions are the document's, or refused. -/
import Derived.Test.YtfmdflkbgfnehaaHandOwns
namespace Go.Proofs.Ytfmdflkbgfnehaa.Hand
open Go.RowKit Go.Shelf Go.Proofs.Ytfmdflkbgfnehaa

theorem rangeB_bd (m : Nat) (k : Int) : 0 ≤ rangeB (rangeL m k) ∧ rangeB (rangeL m k) ≤ 16 := by
  generalize rangeL m k = l
  rcases List.eq_nil_or_concat l with rfl | ⟨l, c, rfl⟩
  · decide
  · have := c.isLt
    rw [List.concat_eq_append, rangeB_snoc]
    omega

set_option maxRecDepth 100000 in
set_option maxHeartbeats 4000000 in
theorem Owns_half (a b : Nat) (parts : Int) (w : World) (h1 : 1 ≤ b) (h2 : b ≤ 8) (h3 : a < b) (h4 : parts < 1 ∨ 16 < parts) :
    Calls Try.prog 4 #[.int .i64 (a : Int), .int .i64 (b : Int), .int .i64 parts] w fun e w' => e = .returned (.bool true) ∧ RowKit.Below w.heap.size w w' := by
  obtain ⟨L, hlen, hf, hl⟩ := owned_fit b a h1 h2 h3
  have h5 : (a : Int) < (b : Int) := by omega
  have h6 : (a : Int) < 16 := by omega
  have hP : ((b : Int) < 1 ∨ 8 < (b : Int)) ∨ (a : Int) < 0 ∨ (b : Int) ≤ (a : Int) ∨ parts < 1 ∨ 16 < parts := by omega
  have hbd := rangeB_bd b a
  have hL16 : L ≤ 15 := by have := ownedL_le a b 16; omega
  have HL := Lib.hid hlen
  have HF := Lib.hid hf
  have HG := Lib.hid hl
  clear hlen hf hl
  generalize hA : rangeA b a (rangeL b a) = A at *
  generalize hBv : rangeB (rangeL b a) = B at *
  have HA := Lib.hid hA
  have HB := Lib.hid hBv
  clear hA hBv
  rcases h4 with h4 | h4
  all_goals
    go_enter Try.func4, Try.ntmps4
    go_wp2_with (first
      | (go_at_call 12; go_must (refine (Owner_good _ _ _ (by omega) (by omega) (by omega) (by omega)).mono ?_); rintro e w' ⟨rfl, rfl⟩)
      | (go_at_call 13; go_must (refine (Range_good b a (by omega) (by omega) (by omega) (by omega) _).mono ?_); rintro e w1 ⟨rfl, hB1⟩; rw [HA.out, HB.out])
      | (go_at_call 14; go_must (refine (Parts_bad _ _ _ hP _).mono ?_); rintro e w' ⟨rfl, rfl⟩)
      | (go_at_call 15; go_must (refine (Sub_true _ _ (by omega) (by omega)).mono ?_); rintro e w' ⟨rfl, rfl⟩)
      | (go_at_call 16; go_must (refine (refOwner_calls a b _ (by omega) (by omega)).mono ?_); rintro e w' ⟨rfl, rfl⟩)
      | (go_at_call 17; go_must (refine (Owned_calls a b (by omega) _).mono ?_); rintro e w2 ⟨v, rfl, hown, hB2⟩; go_must (rw [HL.out] at hown); go_must (obtain ⟨g, cap, rfl, hg, hcap, hcell⟩ := row_cell hown); clear hown; have hc0 := hcell 0 _ HF.out; have hc1 := hcell L _ HG.out; clear hcell)
      | (go_at_call 7; go_must (refine (awake_calls _).mono ?_); rintro e w3 ⟨rfl, hB3⟩))
    go_ret
    exact ⟨rfl, bgo (bgo hB1 (Nat.le_refl _) hB2) (Nat.le_refl _) hB3⟩
end Go.Proofs.Ytfmdflkbgfnehaa.Hand
