/- The partitions of a reader; what is refused, walked. -/
import Derived.Test.YtfmdflkbgfnehaaHandMoves
namespace Go.Proofs.Ytfmdflkbgfnehaa.Hand
open Go.RowKit Go.Shelf Go.Proofs.Ytfmdflkbgfnehaa

def stepL (a s : Nat) (k : Nat) : List Value := (List.range k).map fun j => .int .i64 ((a + j * s : Nat) : Int)
theorem stepL_succ (a s k : Nat) : stepL a s (k + 1) = stepL a s k ++ [.int .i64 ((a + k * s : Nat) : Int)] := by simp [stepL, List.range_succ]
theorem stepL_end (r s p q k : Nat) (hq : q = r + k * s) (h : k = 0 ∨ q < p + s) : k = 0 ∨ r + (k - 1) * s < p := by
  rcases h with h | h
  · exact .inl h
  · rcases k with _ | k
    · exact .inl rfl
    · right
      rw [Nat.add_mul] at hq
      simp only [Nat.add_sub_cancel]
      omega
theorem info3 : (Try.prog.info? 3).map (fun i => (i.zero, i.size, i.bytes)) = some (some (.int .i64 0), 1, 8) := by kernel_rfl

set_option maxRecDepth 100000 in
set_option maxHeartbeats 2000000 in
theorem Parts_good (r s p : Nat) (hs0 : 1 ≤ s) (hs : s ≤ 8) (hr : r < s) (hp0 : 1 ≤ p) (hp : p ≤ 16) (w : World) :
    Calls Try.prog 14 #[.int .i64 r, .int .i64 s, .int .i64 p] w fun e w' => ∃ v k, e = .returned (.tuple #[v, .int .i64 0]) ∧ p ≤ r + k * s ∧ (k = 0 ∨ r + (k - 1) * s < p) ∧ w'.ownsRow w.heap.size 3 1 v k (stepL r s k) ∧ Below w.heap.size w w' := by
  obtain ⟨i0, hi, hz0, hz1, hz2⟩ := info_parts info3
  have d1 : decide ((r : Int) < 0) = false := by simp
  have d2 : decide ((s : Nat) ≤ r) = false := by simp; omega
  have d3 : decide ((p : Int) < 1) = false := by simp; omega
  have d4 : decide (16 < (p : Int)) = false := by simp; omega
  go_enter Try.func14, Try.ntmps14
  go_wp2_with (go_at_call 20; refine (many_true _ _ (by omega) (by omega)).mono ?_; rintro e w' ⟨rfl, rfl⟩)
  go_loopw [8, 9] (fun v i wr => ∃ k q : Nat, Hid (q = r + k * s) ∧ (k = 0 ∨ q < p + s) ∧ k ≤ q ∧ i = .int .i64 (q : Int) ∧ wr.ownsRow w.heap.size 3 1 v k (stepL r s k) ∧ Below w.heap.size w wr) (fun _ i _ => p - (intOf i).toNat)
  case atStart => exact ⟨0, r, Lib.hid (by simp), .inl rfl, by omega, rfl, World.ownsRow_nil _ _ _ _, Below.refl _ _⟩
  case round =>
    obtain ⟨k, q, hq, hk0, hkq, rfl, hown, hB⟩ := hrel
    by_cases hlt : q < p
    · have hq1 : Hid (q + s = r + (k + 1) * s) := Lib.hid (by rw [hq.out, Nat.add_mul]; omega)
      have hst : Hid (stepL r s k ++ [.int .i64 (q : Int)] = stepL r s (k + 1)) := Lib.hid (by rw [stepL_succ, hq.out])
      go_wp2_with (at_builtin; go_must (refine wpList_append_own _ rfl _ _ 32 rfl w.heap.size 3 i0 (.int .i64 0) 1 8 Try.underlying32 hi hz0 hz1 hz2 rfl (by decide) _ _ _ rfl (hown.alloc _) ⟨wr.heap.size, 0, none⟩ 1 1 [.int .i64 (q : Int)] rfl rfl (cell_one_new _ _ _) (by simp [Value.oneCell']) (by unfold maxLen; omega) (by omega) (by have := hB.size; simp; omega) ?_); intro v' w1 hown' hgrow _)
      go_roundw
      case rel => exact ⟨k + 1, q + s, hq1, .inr (by omega), by omega, by go_num, by rw [← hst.out]; exact hown', (hB.alloc hB.size _).grown hgrow (by simp; have := hB.size; omega) (fun g e => (hown.lt g e).1)⟩
      case measure => simp [intOf]; omega
    · go_wp2
      go_ret2
      exact ⟨_, k, rfl, by rw [← hq.out]; omega, stepL_end r s p q k hq.out hk0, hown, hB⟩

set_option maxRecDepth 100000 in
set_option maxHeartbeats 2000000 in
theorem Moves_bad (m n : Int) (h : (m < 1 ∨ 8 < m) ∨ (n < 1 ∨ 8 < n)) (w : World) :
    Calls Try.prog 19 #[.int .i64 m, .int .i64 n] w fun e w' => e = .returned (.tuple #[.slice none 0 0, .int .i64 1]) ∧ Below w.heap.size w w' := by
  by_cases hm : m < 1 ∨ 8 < m
  · go_enter Try.func19, Try.ntmps19
    go_wp2_with (go_at_call 20; refine (many_false _ _ hm).mono ?_; rintro e w' ⟨rfl, rfl⟩)
    go_ret2
    exact ⟨rfl, (Below.refl _ _).alloc (Nat.le_refl _) _⟩
  · have hn := h.resolve_left hm
    go_enter Try.func19, Try.ntmps19
    go_wp2_with (first | (go_at_call 20; refine (many_true m _ (by omega) (by omega)).mono ?_; rintro e w' ⟨rfl, rfl⟩) | (go_at_call 20; refine (many_false n _ hn).mono ?_; rintro e w' ⟨rfl, rfl⟩))
    go_ret2
    exact ⟨rfl, (Below.refl _ _).alloc (Nat.le_refl _) _⟩

set_option maxRecDepth 100000 in
set_option maxHeartbeats 2000000 in
theorem Range_bad (k n : Int) (h : (n < 1 ∨ 8 < n) ∨ k < 0 ∨ n ≤ k) (w : World) :
    Calls Try.prog 13 #[.int .i64 k, .int .i64 n] w fun e w' => e = .returned (.tuple #[.int .i64 0, .int .i64 0, .int .i64 1]) ∧ Below w.heap.size w w' := by
  by_cases hm : n < 1 ∨ 8 < n
  · go_enter Try.func13, Try.ntmps13
    go_wp2_with (go_at_call 20; refine (many_false _ _ hm).mono ?_; rintro e w' ⟨rfl, rfl⟩)
    go_ret3
    exact ⟨rfl, (Below.refl _ _).alloc (Nat.le_refl _) _⟩
  · by_cases hk : k < 0
    · go_enter Try.func13, Try.ntmps13
      go_wp2_with (go_at_call 20; refine (many_true n _ (by omega) (by omega)).mono ?_; rintro e w' ⟨rfl, rfl⟩)
      go_ret3
      exact ⟨rfl, (Below.refl _ _).alloc (Nat.le_refl _) _⟩
    · go_enter Try.func13, Try.ntmps13
      go_wp2_with (go_at_call 20; refine (many_true n _ (by omega) (by omega)).mono ?_; rintro e w' ⟨rfl, rfl⟩)
      go_ret3
      exact ⟨rfl, (Below.refl _ _).alloc (Nat.le_refl _) _⟩

end Go.Proofs.Ytfmdflkbgfnehaa.Hand
