/- layer 9, the document's small answers, walked. -/
import Derived.Test.YtdmflbdcfnpikaaHandAwake
namespace Go.Proofs.Ytdmflbdcfnpikaa.Hand
open Go.RowKit Go.Proofs.Ytdmflbdcfnpikaa Go.Proofs.Ytdmflbdcfnpikaa.Spans Go.Proofs.YtdmflbdcfnpikaaW Go.Proofs.YtdmflbdcfnpikaaW.PrintWords Go.Lib

theorem Time_calls (t : Int) (w : World) : Calls Try.prog 15 #[.int .i64 t] w fun e w' => e = .returned (.bool (decide (0 ≤ t ∧ t ≤ 1000000000))) ∧ w' = w := by
  by_cases h1 : 0 ≤ t
  · by_cases h2 : t ≤ 1000000000
    · go_enter Try.func15, Try.ntmps15
      go_wp2
      go_ret
      exact ⟨ret_bool (yes_of ⟨h1, h2⟩), rfl⟩
    · go_enter Try.func15, Try.ntmps15
      go_wp2
      go_ret
      exact ⟨ret_bool (no_of (by omega)), rfl⟩
  · go_enter Try.func15, Try.ntmps15
    go_wp2
    go_ret
    exact ⟨ret_bool (by simp; omega), rfl⟩

theorem down_calls (t n : Int) (w : World) (hn : 1 ≤ n) (hn' : n ≤ 1000000) (h0 : -1000000 ≤ t) (h1 : t ≤ 1000000000) : Calls Try.prog 19 #[.int .i64 t, .int .i64 n] w fun e w' => e = .returned (.int .i64 (n * (t / n))) ∧ w' = w := by
  have a1 := Int.mul_ediv_add_emod t n
  have a2 := Int.emod_nonneg t (show n ≠ 0 by omega)
  have a3 := Int.emod_lt_of_pos t (show 0 < n by omega)
  have b1 := Int.tmod_eq_emod (a := t) (b := n)
  obtain ⟨r, hr⟩ : ∃ r, r = t % n := ⟨_, rfl⟩
  obtain ⟨Q, hQ⟩ : ∃ Q, Q = n * (t / n) := ⟨_, rfl⟩
  obtain ⟨u, hu⟩ : ∃ u, u = t.tmod n := ⟨_, rfl⟩
  have hu2 : u = r ∨ u = r - n := by
    rw [hu, b1, ← hr]
    split
    · left; omega
    · right; omega
  rw [← hr] at a1 a2 a3
  rw [← hQ] at a1 ⊢
  have hz : ¬ n = 0 := by omega
  have eu : t.tmod n = u := hu.symm
  have ew0 : IntKind.i64.wrap u = u := by rw [IntKind.wrap_i64]; omega
  have ew1 : IntKind.i64.wrap (u + n) = u + n := by rw [IntKind.wrap_i64]; omega
  have er : (u + n).tmod n = r := by
    rw [Int.tmod_eq_emod_of_nonneg (by omega)]
    rcases hu2 with h | h
    · rw [h, Int.add_emod_right, hr, Int.emod_emod]
    · rw [h, show r - n + n = r by omega, hr, Int.emod_emod]
  have ew2 : IntKind.i64.wrap r = r := by rw [IntKind.wrap_i64]; omega
  have ew3 : IntKind.i64.wrap (t - r) = t - r := by rw [IntKind.wrap_i64]; omega
  clear hr hQ hu b1
  go_enter Try.func19, Try.ntmps19
  go_wp2
  go_ret
  exact ⟨by rw [show Q = t - r by omega]; rfl, rfl⟩
set_option maxHeartbeats 2000000 in
theorem Win0_calls (s l : Int) (w : World) : Calls Try.prog 20 #[win 0 s l, .int .i64 0] w fun e w' => e = .returned (.bool (decide (Righted 0 s l))) ∧ Below w.heap.size w w' := by
  by_cases h1 : s = 0
  · by_cases h2 : l = 0
    · go_enter Try.func20, Try.ntmps20
      go_wp2
      go_ret
      exact ⟨ret_bool (by first | exact yes_of (by unfold Righted; omega) | (rw [Bool.eq_iff_iff, beq_iff_eq, decide_eq_true_eq]; unfold Righted; omega)), (Below.refl _ _).alloc (Nat.le_refl _) _⟩
    · go_enter Try.func20, Try.ntmps20
      go_wp2
      go_ret
      exact ⟨ret_bool (by first | exact no_of (by unfold Righted; omega) | (rw [Bool.eq_iff_iff, beq_iff_eq, decide_eq_true_eq]; unfold Righted; omega)), (Below.refl _ _).alloc (Nat.le_refl _) _⟩
  · go_enter Try.func20, Try.ntmps20
    go_wp2
    go_ret
    exact ⟨ret_bool (by first | exact no_of (by unfold Righted; omega) | (rw [Bool.eq_iff_iff, beq_iff_eq, decide_eq_true_eq]; unfold Righted; omega)), (Below.refl _ _).alloc (Nat.le_refl _) _⟩

set_option maxHeartbeats 2000000 in
theorem Win1_calls (k s l : Int) (h0 : ¬ k = 0) (w : World) : Calls Try.prog 20 #[win k s l, .int .i64 1] w fun e w' => e = .returned (.bool (decide (Righted k s l))) ∧ Below w.heap.size w w' := by
  by_cases s1 : 1 ≤ s
  · by_cases s2 : s ≤ 1000000
    · by_cases h1 : k = 1
      · by_cases h2 : l = 0
        · go_enter Try.func20, Try.ntmps20
          go_wp2
          go_ret
          exact ⟨ret_bool (by first | exact yes_of (by unfold Righted; omega) | (rw [Bool.eq_iff_iff, beq_iff_eq, decide_eq_true_eq]; unfold Righted; omega)), (Below.refl _ _).alloc (Nat.le_refl _) _⟩
        · go_enter Try.func20, Try.ntmps20
          go_wp2
          go_ret
          exact ⟨ret_bool (by first | exact no_of (by unfold Righted; omega) | (rw [Bool.eq_iff_iff, beq_iff_eq, decide_eq_true_eq]; unfold Righted; omega)), (Below.refl _ _).alloc (Nat.le_refl _) _⟩
      by_cases h3 : k = 3
      · by_cases h2 : l = 0
        · go_enter Try.func20, Try.ntmps20
          go_wp2
          go_ret
          exact ⟨ret_bool (by first | exact yes_of (by unfold Righted; omega) | (rw [Bool.eq_iff_iff, beq_iff_eq, decide_eq_true_eq]; unfold Righted; omega)), (Below.refl _ _).alloc (Nat.le_refl _) _⟩
        · go_enter Try.func20, Try.ntmps20
          go_wp2
          go_ret
          exact ⟨ret_bool (by first | exact no_of (by unfold Righted; omega) | (rw [Bool.eq_iff_iff, beq_iff_eq, decide_eq_true_eq]; unfold Righted; omega)), (Below.refl _ _).alloc (Nat.le_refl _) _⟩
      by_cases h4 : k = 2
      · by_cases h5 : 1 ≤ l
        · by_cases h6 : l ≤ s
          · have e : IntKind.i64.wrap (16 * l) = 16 * l := by rw [IntKind.wrap_i64]; omega
            by_cases h7 : s ≤ 16 * l
            · go_enter Try.func20, Try.ntmps20
              go_wp2
              go_ret
              exact ⟨ret_bool (by first | exact yes_of (by unfold Righted; omega) | (rw [Bool.eq_iff_iff, beq_iff_eq, decide_eq_true_eq]; unfold Righted; omega)), (Below.refl _ _).alloc (Nat.le_refl _) _⟩
            · go_enter Try.func20, Try.ntmps20
              go_wp2
              go_ret
              exact ⟨ret_bool (by first | exact no_of (by unfold Righted; omega) | (rw [Bool.eq_iff_iff, beq_iff_eq, decide_eq_true_eq]; unfold Righted; omega)), (Below.refl _ _).alloc (Nat.le_refl _) _⟩
          · go_enter Try.func20, Try.ntmps20
            go_wp2
            go_ret
            exact ⟨ret_bool (by first | exact no_of (by unfold Righted; omega) | (rw [Bool.eq_iff_iff, beq_iff_eq, decide_eq_true_eq]; unfold Righted; omega)), (Below.refl _ _).alloc (Nat.le_refl _) _⟩
        · go_enter Try.func20, Try.ntmps20
          go_wp2
          go_ret
          exact ⟨ret_bool (by first | exact no_of (by unfold Righted; omega) | (rw [Bool.eq_iff_iff, beq_iff_eq, decide_eq_true_eq]; unfold Righted; omega)), (Below.refl _ _).alloc (Nat.le_refl _) _⟩
      · go_enter Try.func20, Try.ntmps20
        go_wp2
        go_ret
        exact ⟨ret_bool (by first | exact no_of (by unfold Righted; omega) | (rw [Bool.eq_iff_iff, beq_iff_eq, decide_eq_true_eq]; unfold Righted; omega)), (Below.refl _ _).alloc (Nat.le_refl _) _⟩
    · go_enter Try.func20, Try.ntmps20
      go_wp2
      go_ret
      exact ⟨ret_bool (by first | exact no_of (by unfold Righted; omega) | (rw [Bool.eq_iff_iff, beq_iff_eq, decide_eq_true_eq]; unfold Righted; omega)), (Below.refl _ _).alloc (Nat.le_refl _) _⟩
  · go_enter Try.func20, Try.ntmps20
    go_wp2
    go_ret
    exact ⟨ret_bool (by first | exact no_of (by unfold Righted; omega) | (rw [Bool.eq_iff_iff, beq_iff_eq, decide_eq_true_eq]; unfold Righted; omega)), (Below.refl _ _).alloc (Nat.le_refl _) _⟩

set_option maxHeartbeats 2000000 in
theorem RightR_calls (k s l : Int) (w : World) : Calls Try.prog 11 #[win k s l] w fun e w' => e = .returned (.bool (decide (Righted k s l))) ∧ Below w.heap.size w w' := by
  by_cases h0 : k = 0
  · subst h0
    go_enter Try.func11, Try.ntmps11
    go_wp2_with (go_at_call 20; go_must (refine (Win0_calls s l _).mono ?_); rintro e w1 ⟨rfl, hB1⟩)
    go_ret
    exact ⟨rfl, bgo ((Below.refl _ _).alloc (Nat.le_refl _) _) (by simp) hB1⟩
  · go_enter Try.func11, Try.ntmps11
    go_wp2_with (go_at_call 20; go_must (refine (Win1_calls k s l h0 _).mono ?_); rintro e w1 ⟨rfl, hB1⟩)
    go_ret
    exact ⟨rfl, bgo ((Below.refl _ _).alloc (Nat.le_refl _) _) (by simp) hB1⟩
end Go.Proofs.Ytdmflbdcfnpikaa.Hand
