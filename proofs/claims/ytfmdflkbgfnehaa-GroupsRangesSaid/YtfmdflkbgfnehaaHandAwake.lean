/- The document's examples of layer 7, walked. -/
import Derived.Test.YtfmdflkbgfnehaaHandParts
import Derived.Test.YtfmdflkbgfnehaaHandHash
namespace Go.Proofs.Ytfmdflkbgfnehaa.Hand
open Go.RowKit Go.Shelf Go.Proofs.Ytfmdflkbgfnehaa

set_option maxHeartbeats 1000000 in
set_option maxRecDepth 100000 in
theorem Group_calls (s : ByteArray) (w : World) (hs : s.size ≤ 140737488351232) :
    Calls Try.prog 10 #[.string s] w fun e w' => e = .returned (.int .i64 (hashL s.data.toList % 16)) ∧ RowKit.Below w.heap.size w w' := by
  have hb := hashL_bd s.data.toList
  go_enter Try.func10, Try.ntmps10
  go_wp2_with (go_at_call 8; refine (Hash_calls _ _ hs).mono ?_; rintro e w' ⟨rfl, hB⟩)
  go_ret
  exact ⟨by go_num, ‹_›⟩

theorem Owner_good (g m : Int) (w : World) (hg0 : 0 ≤ g) (hg : g < 16) (hm1 : 1 ≤ m) (hm : m ≤ 8) :
    Calls Try.prog 12 #[.int .i64 g, .int .i64 m] w fun e w' => e = .returned (.tuple #[.int .i64 (g * m / 16), .int .i64 0]) ∧ w = w' := by
  obtain ⟨a, rfl⟩ := Int.eq_ofNat_of_zero_le hg0
  obtain ⟨b, rfl⟩ := Int.eq_ofNat_of_zero_le (show 0 ≤ m by omega)
  have hq := own_quo a b (by omega) (by omega)
  have hw := own_mul a b (by omega) (by omega)
  go_enter Try.func12, Try.ntmps12
  go_wp2_with (go_at_call 20; refine (many_true _ _ hm1 hm).mono ?_; rintro e w' ⟨rfl, rfl⟩)
  go_ret2
  exact ⟨by rw [← hq]; rfl, rfl⟩
theorem Owner_bad (g m : Int) (w : World) (h : g < 0 ∨ 16 ≤ g ∨ m < 1 ∨ 8 < m) :
    Calls Try.prog 12 #[.int .i64 g, .int .i64 m] w fun e w' => e = .returned (.tuple #[.int .i64 0, .int .i64 1]) ∧ w = w' := by
  by_cases h1 : g < 0
  · go_enter Try.func12, Try.ntmps12
    go_wp2
    go_ret2
    exact ⟨rfl, rfl⟩
  · by_cases h2 : 16 ≤ g
    · go_enter Try.func12, Try.ntmps12
      go_wp2
      go_ret2
      exact ⟨rfl, rfl⟩
    · go_enter Try.func12, Try.ntmps12
      go_wp2_with (go_at_call 20; refine (many_false _ _ (by omega)).mono ?_; rintro e w' ⟨rfl, rfl⟩)
      go_ret2
      exact ⟨rfl, rfl⟩

theorem row_cell {w : World} {base : Nat} {e : TypeId} {size : Nat} {v : Value} {n : Nat} {xs : List Value} (h : w.ownsRow base e size v (n + 1) xs) :
    ∃ g cap, v = .slice (some ⟨g, 0, none⟩) (n + 1) cap ∧ g < w.heap.size ∧ n + 1 ≤ cap ∧ ∀ j u, xs[j]? = some u → w.cell? ⟨g, j, none⟩ = some u := by
  rcases h.2 with ⟨_, h0⟩ | ⟨g, cap, cur, rfl, _, hg, hc, _⟩
  · omega
  · refine ⟨g, cap, rfl, (Array.getElem?_eq_some_iff.1 hg).1, hc, fun j u hj => ?_⟩
    have := h.cells (g := g) rfl j u hj
    rwa [show (⟨g, 0, none⟩ : Addr).add j = ⟨g, j, none⟩ from by unfold Addr.add; split <;> simp_all] at this

theorem bgo {B : Nat} {a b c : World} (h : RowKit.Below B a b) (hB : B ≤ a.heap.size) (k : RowKit.Below b.heap.size b c) : RowKit.Below B a c := h.trans (k.mono (by have := h.size; omega))
theorem keep {B : Nat} {w w' : World} (h : RowKit.Below B w w') {b o : Nat} {v : Value} (hb : b < B) (hc : w.cell? ⟨b, o, none⟩ = some v) : w'.cell? ⟨b, o, none⟩ = some v := (h.cell (p := ⟨b, o, none⟩) hb).trans hc

set_option maxHeartbeats 4000000 in
set_option maxRecDepth 100000 in
theorem awake_calls (w : World) : Calls Try.prog 7 #[] w fun e w' => e = .returned (.bool true) ∧ RowKit.Below w.heap.size w w' := by
  have hA : Hid (hashL [97] = 3826002220) := Lib.hid (by decide +kernel)
  have hE : Hid (hashL [] % 16 = 5) := Lib.hid (by decide +kernel)
  have hR : Hid (rangeA 3 1 (rangeL 3 1) = 6 ∧ rangeB (rangeL 3 1) = 11) := Lib.hid (by decide +kernel)
  have hM : Hid (mvN 1 2 (List.finRange 16) = 7 + 1 ∧ mvL 1 2 (List.finRange 16) = [.int .i64 8, .int .i64 0, .int .i64 1, .int .i64 9, .int .i64 0, .int .i64 1, .int .i64 10, .int .i64 0, .int .i64 1, .int .i64 11, .int .i64 0, .int .i64 1, .int .i64 12, .int .i64 0, .int .i64 1, .int .i64 13, .int .i64 0, .int .i64 1, .int .i64 14, .int .i64 0, .int .i64 1, .int .i64 15, .int .i64 0, .int .i64 1]) := Lib.hid ⟨by decide +kernel, by kernel_rfl⟩
  go_enter Try.func7, Try.ntmps7
  go_wp2_with (first
    | (go_at_call 12; go_must (refine (Owner_good 6 3 _ (by omega) (by omega) (by omega) (by omega)).mono ?_); rintro e w' ⟨rfl, rfl⟩)
    | (go_at_call 14; go_must (refine (Parts_good 1 3 7 (by omega) (by omega) (by omega) (by omega) (by omega) _).mono ?_); rintro e w2 ⟨v, k, rfl, hk1, hk2, hown, hB2⟩; go_must (obtain rfl : k = 2 := by omega); go_must (obtain ⟨g, cap, rfl, hg, hcap, hcell⟩ := row_cell hown); clear hown; have hc1 := hcell 1 (.int .i64 4) rfl; clear hcell)
    | (go_at_call 19; go_must (refine (Moves_good 1 2 (by omega) (by omega) (by omega) (by omega) _).mono ?_); rintro e w3 ⟨v, rfl, hown, hB3⟩; go_must (rw [hM.out.1, hM.out.2] at hown); go_must (obtain ⟨g2, cap2, rfl, hg2, hcap2, hcell2⟩ := row_cell hown); clear hown; have hd0 := hcell2 0 (.int .i64 8) rfl; have hd1 := hcell2 1 (.int .i64 0) rfl; have hd2 := hcell2 2 (.int .i64 1) rfl; clear hcell2)
    | (go_at_call 8; go_must (refine (Hash_calls ⟨#[97]⟩ _ (by decide)).mono ?_); rintro e w4 ⟨rfl, hB4⟩; rw [hA.out])
    | (go_at_call 10; go_must (refine (Group_calls ⟨#[]⟩ _ (by decide)).mono ?_); rintro e w5 ⟨rfl, hB5⟩; rw [hE.out]; have hz := And.intro hB3.size (And.intro hB4.size hB5.size); go_must (have hc1' := keep hB5 (by omega) (keep hB4 (by omega) (keep hB3 hg hc1))); go_must (have hd0' := keep hB5 (by omega) (keep hB4 hg2 hd0)); go_must (have hd1' := keep hB5 (by omega) (keep hB4 hg2 hd1)); go_must (have hd2' := keep hB5 (by omega) (keep hB4 hg2 hd2)); have heq := fun w0 => eqA44 9998 w0 8 8 0 0 1 1)
    | (go_at_call 13; go_must (refine (Range_good 3 1 (by omega) (by omega) (by omega) (by omega) _).mono ?_); rintro e w1 ⟨rfl, hB1⟩; rw [hR.out.1, hR.out.2]))
  go_ret
  exact ⟨rfl, bgo (bgo (bgo (bgo hB1 (Nat.le_refl _) hB2) (Nat.le_refl _) hB3) (Nat.le_refl _) hB4) (Nat.le_refl _) hB5⟩
end Go.Proofs.Ytfmdflkbgfnehaa.Hand
