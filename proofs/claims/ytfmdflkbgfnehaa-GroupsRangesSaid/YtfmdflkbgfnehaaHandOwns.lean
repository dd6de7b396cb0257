/- Owners, ranges and partitions are the document's, or refused. -/
import Derived.Test.YtfmdflkbgfnehaaHandRefs
import Derived.Deep.QuietTactic
import Derived.BigQuiet
namespace Go.Proofs.Ytfmdflkbgfnehaa.Hand
open Go.RowKit Go.Shelf Go.Proofs.Ytfmdflkbgfnehaa

theorem owned_fit_all : ∀ m k : Fin 9, 1 ≤ m.val → k.val < m.val → 1 ≤ (ownedL k m 16).length ∧ ((ownedL k m 16)[0]?).map (fun n : Nat => (n : Int)) = some (rangeA m k (rangeL m k)) ∧ ((ownedL k m 16)[(ownedL k m 16).length - 1]?).map (fun n : Nat => (n : Int)) = some (rangeB (rangeL m k) - 1) := by decide +kernel
theorem parts_fit_all : ∀ (p : Fin 17) (r s : Fin 9) (k : Fin 18), 1 ≤ s.val → r.val < s.val → p.val ≤ r.val + k.val * s.val → (k.val = 0 ∨ r.val + (k.val - 1) * s.val < p.val) → rpartsL r s p = (List.range k).map (fun j => r.val + j * s.val) := by decide +kernel
theorem owned_fit (m k : Nat) (h1 : 1 ≤ m) (h2 : m ≤ 8) (h3 : k < m) : ∃ L, (ownedL k m 16).length = L + 1 ∧ (natV (ownedL k m 16))[0]? = some (.int .i64 (rangeA m k (rangeL m k))) ∧ (natV (ownedL k m 16))[L]? = some (.int .i64 (rangeB (rangeL m k) - 1)) := by
  obtain ⟨a, b, c⟩ := owned_fit_all ⟨m, by omega⟩ ⟨k, by omega⟩ h1 h3
  refine ⟨(ownedL k m 16).length - 1, by simp only at a; omega, ?_, ?_⟩
  · simp only at b; unfold natV; rw [List.getElem?_map]
    obtain ⟨n, hn, hb⟩ := Option.map_eq_some_iff.1 b
    rw [hn, ← hb]; rfl
  · simp only at c; unfold natV; rw [List.getElem?_map]
    obtain ⟨n, hn, hb⟩ := Option.map_eq_some_iff.1 c
    rw [hn, ← hb]; rfl
theorem parts_fit (p r s k : Nat) (hp : p ≤ 16) (hs0 : 1 ≤ s) (hs : s ≤ 8) (hr : r < s) (h1 : p ≤ r + k * s) (h2 : k = 0 ∨ r + (k - 1) * s < p) : (rpartsL r s p).length = k ∧ natV (rpartsL r s p) = stepL r s k := by
  have hk : k ≤ 16 := by
    rcases h2 with h | h
    · omega
    · have : (k - 1) * 1 ≤ (k - 1) * s := Nat.mul_le_mul_left _ hs0
      omega
  have := parts_fit_all ⟨p, by omega⟩ ⟨r, by omega⟩ ⟨s, by omega⟩ ⟨k, by omega⟩ hs0 hr h1 h2
  simp only at this
  rw [this]
  exact ⟨by simp, by simp [natV, stepL]⟩

set_option maxRecDepth 100000 in
set_option maxHeartbeats 2000000 in
theorem Parts_bad (r s p : Int) (h : (s < 1 ∨ 8 < s) ∨ r < 0 ∨ s ≤ r ∨ p < 1 ∨ 16 < p) (w : World) :
    Calls Try.prog 14 #[.int .i64 r, .int .i64 s, .int .i64 p] w fun e w' => e = .returned (.tuple #[.slice none 0 0, .int .i64 1]) ∧ w = w' := by
  by_cases h1 : s < 1 ∨ 8 < s
  · go_enter Try.func14, Try.ntmps14
    go_wp2_with (go_at_call 20; refine (many_false _ _ h1).mono ?_; rintro e w' ⟨rfl, rfl⟩)
    go_ret2
    exact ⟨rfl, rfl⟩
  · by_cases h2 : r < 0
    · go_enter Try.func14, Try.ntmps14
      go_wp2_with (go_at_call 20; refine (many_true _ _ (by omega) (by omega)).mono ?_; rintro e w' ⟨rfl, rfl⟩)
      go_ret2
      exact ⟨rfl, rfl⟩
    · by_cases h3 : s ≤ r
      · go_enter Try.func14, Try.ntmps14
        go_wp2_with (go_at_call 20; refine (many_true _ _ (by omega) (by omega)).mono ?_; rintro e w' ⟨rfl, rfl⟩)
        go_ret2
        exact ⟨rfl, rfl⟩
      · by_cases h4 : p < 1
        · go_enter Try.func14, Try.ntmps14
          go_wp2_with (go_at_call 20; refine (many_true _ _ (by omega) (by omega)).mono ?_; rintro e w' ⟨rfl, rfl⟩)
          go_ret2
          exact ⟨rfl, rfl⟩
        · have h5 : 16 < p := by omega
          go_enter Try.func14, Try.ntmps14
          go_wp2_with (go_at_call 20; refine (many_true _ _ (by omega) (by omega)).mono ?_; rintro e w' ⟨rfl, rfl⟩)
          go_ret2
          exact ⟨rfl, rfl⟩

theorem stepL_get (r s k i : Nat) (h : i < k) : (stepL r s k)[i]? = some (.int .i64 ((r + i * s : Nat) : Int)) := by simp [stepL, h]

set_option maxRecDepth 100000 in
set_option maxHeartbeats 4000000 in
theorem Owns_bad (one of parts : Int) (w : World) (h : (of < 1 ∨ 8 < of) ∨ one < 0 ∨ of ≤ one) :
    Calls Try.prog 4 #[.int .i64 one, .int .i64 of, .int .i64 parts] w fun e w' => e = .returned (.bool true) ∧ RowKit.Below w.heap.size w w' := by
  have hR : (of < 1 ∨ 8 < of) ∨ one < 0 ∨ of ≤ one := h
  have hP : (of < 1 ∨ 8 < of) ∨ one < 0 ∨ of ≤ one ∨ parts < 1 ∨ 16 < parts := by omega
  by_cases h1 : of < 1 ∨ 8 < of
  · go_enter Try.func4, Try.ntmps4
    go_wp2_with (first
      | (go_at_call 12; go_must (refine (Owner_bad _ _ _ (by omega)).mono ?_); rintro e w' ⟨rfl, rfl⟩)
      | (go_at_call 13; go_must (refine (Range_bad _ _ hR _).mono ?_); rintro e w1 ⟨rfl, hB1⟩)
      | (go_at_call 14; go_must (refine (Parts_bad _ _ _ hP _).mono ?_); rintro e w' ⟨rfl, rfl⟩)
      | (go_at_call 15; go_must (refine (Sub_false _ _ h1).mono ?_); rintro e w' ⟨rfl, rfl⟩)
      | (go_at_call 7; go_must (refine (awake_calls _).mono ?_); rintro e w2 ⟨rfl, hB2⟩))
    go_ret
    exact ⟨rfl, bgo hB1 (Nat.le_refl _) hB2⟩
  · by_cases h2 : one < 0 ∨ 16 ≤ one
    · rcases h2 with h2 | h2
      all_goals
        go_enter Try.func4, Try.ntmps4
        go_wp2_with (first
          | (go_at_call 12; go_must (refine (Owner_bad _ _ _ (by omega)).mono ?_); rintro e w' ⟨rfl, rfl⟩)
          | (go_at_call 13; go_must (refine (Range_bad _ _ hR _).mono ?_); rintro e w1 ⟨rfl, hB1⟩)
          | (go_at_call 14; go_must (refine (Parts_bad _ _ _ hP _).mono ?_); rintro e w' ⟨rfl, rfl⟩)
          | (go_at_call 15; go_must (refine (Sub_true _ _ (by omega) (by omega)).mono ?_); rintro e w' ⟨rfl, rfl⟩)
          | (go_at_call 7; go_must (refine (awake_calls _).mono ?_); rintro e w2 ⟨rfl, hB2⟩))
        go_ret
        exact ⟨rfl, bgo hB1 (Nat.le_refl _) hB2⟩
    · obtain ⟨a, rfl⟩ := Int.eq_ofNat_of_zero_le (show 0 ≤ one by omega)
      obtain ⟨b, rfl⟩ := Int.eq_ofNat_of_zero_le (show 0 ≤ of by omega)
      have h3 : (b : Int) ≤ (a : Int) := by omega
      have h4 : ¬ (a : Int) < 0 := by omega
      have h5 : (a : Int) < 16 := by omega
      go_enter Try.func4, Try.ntmps4
      go_wp2_with (first
        | (go_at_call 12; go_must (refine (Owner_good _ _ _ (by omega) (by omega) (by omega) (by omega)).mono ?_); rintro e w' ⟨rfl, rfl⟩)
        | (go_at_call 13; go_must (refine (Range_bad _ _ hR _).mono ?_); rintro e w1 ⟨rfl, hB1⟩)
        | (go_at_call 14; go_must (refine (Parts_bad _ _ _ hP _).mono ?_); rintro e w' ⟨rfl, rfl⟩)
        | (go_at_call 15; go_must (refine (Sub_true _ _ (by omega) (by omega)).mono ?_); rintro e w' ⟨rfl, rfl⟩)
        | (go_at_call 16; go_must (refine (refOwner_calls a b _ (by omega) (by omega)).mono ?_); rintro e w' ⟨rfl, rfl⟩)
        | (go_at_call 7; go_must (refine (awake_calls _).mono ?_); rintro e w2 ⟨rfl, hB2⟩))
      go_ret
      exact ⟨rfl, bgo hB1 (Nat.le_refl _) hB2⟩
end Go.Proofs.Ytfmdflkbgfnehaa.Hand
