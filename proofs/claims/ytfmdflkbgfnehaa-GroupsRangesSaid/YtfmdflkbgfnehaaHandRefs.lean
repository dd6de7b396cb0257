/- The document's owners and partitions, walked. -/
import Derived.Test.YtfmdflkbgfnehaaHandAwake
namespace Go.Proofs.Ytfmdflkbgfnehaa.Hand
open Go.RowKit Go.Shelf Go.Proofs.Ytfmdflkbgfnehaa

theorem Sub_true (n : Int) (w : World) (h1 : 1 ≤ n) (h2 : n ≤ 8) : Calls Try.prog 15 #[.int .i64 n] w fun e w' => e = .returned (.bool true) ∧ w = w' := by
  go_enter Try.func15, Try.ntmps15
  go_wp2
  go_ret
  exact ⟨rfl, rfl⟩
theorem Sub_false (n : Int) (w : World) (h : n < 1 ∨ 8 < n) : Calls Try.prog 15 #[.int .i64 n] w fun e w' => e = .returned (.bool false) ∧ w = w' := by
  rcases h with h | h
  · go_enter Try.func15, Try.ntmps15
    go_wp2
    go_ret
    exact ⟨rfl, rfl⟩
  · go_enter Try.func15, Try.ntmps15
    go_wp2
    go_ret
    exact ⟨by simp; omega, rfl⟩
theorem refOwner_calls (g m : Nat) (w : World) (hg : g ≤ 16) (hm : m ≤ 8) :
    Calls Try.prog 16 #[.int .i64 (g : Int), .int .i64 (m : Int)] w fun e w' => e = .returned (.int .i64 ((g : Int) * (m : Int) / 16)) ∧ w = w' := by
  have hq := own_quo g m hg hm
  have hw := own_mul g m hg hm
  go_enter Try.func16, Try.ntmps16
  go_wp2
  go_ret
  exact ⟨by rw [← hq]; rfl, rfl⟩

def natV (l : List Nat) : List Value := l.map fun j : Nat => Value.int .i64 (j : Int)
theorem natV_snoc (l : List Nat) (n : Nat) : natV (l ++ [n]) = natV l ++ [.int .i64 (n : Int)] := by simp [natV]
def ownedL (k m : Nat) (n : Nat) : List Nat := (List.range n).filter fun g => g * m / 16 = k
theorem ownedL_yes (k m n : Nat) (h : n * m / 16 = k) : ownedL k m (n + 1) = ownedL k m n ++ [n] := by simp [ownedL, List.range_succ, h]
theorem ownedL_no (k m n : Nat) (h : ¬ n * m / 16 = k) : ownedL k m (n + 1) = ownedL k m n := by simp [ownedL, List.range_succ, h]
theorem ownedL_le (k m n : Nat) : (ownedL k m n).length ≤ n := by have := List.length_filter_le (fun g => decide (g * m / 16 = k)) (List.range n); simpa [ownedL] using this

set_option maxRecDepth 100000 in
set_option maxHeartbeats 2000000 in
theorem Owned_calls (k m : Nat) (hm : m ≤ 8) (w : World) :
    Calls Try.prog 17 #[.int .i64 (k : Int), .int .i64 (m : Int)] w fun e w' => ∃ v, e = .returned v ∧ w'.ownsRow w.heap.size 3 1 v (ownedL k m 16).length (natV (ownedL k m 16)) ∧ RowKit.Below w.heap.size w w' := by
  obtain ⟨i0, hi, hz0, hz1, hz2⟩ := info_parts info3
  go_enter Try.func17, Try.ntmps17
  go_wp2
  go_loopw [5, 6] (fun v i wr => ∃ n : Nat, n ≤ 16 ∧ i = .int .i64 (n : Int) ∧ wr.ownsRow w.heap.size 3 1 v (ownedL k m n).length (natV (ownedL k m n)) ∧ RowKit.Below w.heap.size w wr) (fun _ i _ => 16 - (intOf i).toNat)
  case atStart => exact ⟨0, by omega, rfl, (World.ownsRow_nil _ _ _ _ : w.ownsRow w.heap.size 3 1 (.slice none 0 0) 0 []), Below.refl _ _⟩
  case round =>
    obtain ⟨n, hn, rfl, hown, hB⟩ := hrel
    have hle := ownedL_le k m n
    by_cases hlt : n < 16
    · have hdiv : (n : Int) * (m : Int) / 16 = ((n * m / 16 : Nat) : Int) := by simp
      by_cases hy : n * m / 16 = k
      · have ht : ((n : Int) * (m : Int) / 16 == (k : Int)) = true := by rw [hdiv, hy]; simp
        have hL := Lib.hid (ownedL_yes k m n hy)
        clear hdiv hy
        go_wp2_with (first
          | (go_at_call 16; go_must (refine (refOwner_calls n m _ hn hm).mono ?_); rintro e w' ⟨rfl, rfl⟩)
          | (at_builtin; go_must (refine wpList_append_own _ rfl _ _ 32 rfl w.heap.size 3 i0 (.int .i64 0) 1 8 Try.underlying32 hi hz0 hz1 hz2 rfl (by decide) _ _ _ rfl (hown.alloc _) ⟨wr.heap.size, 0, none⟩ 1 1 [.int .i64 (n : Int)] rfl rfl (cell_one_new _ _ _) (by simp [Value.oneCell']) (by unfold maxLen; omega) (by omega) (by have := hB.size; simp; omega) ?_); intro v' w1 hown' hgrow _))
        go_roundw
        case rel => exact ⟨n + 1, by omega, by go_num, by rw [hL.out, natV_snoc, List.length_append]; exact hown', (hB.alloc hB.size _).grown hgrow (by simp; have := hB.size; omega) (fun g e => (hown.lt g e).1)⟩
        case measure => simp [intOf]; omega
      · have ht : ((n : Int) * (m : Int) / 16 == (k : Int)) = false := by rw [hdiv]; simp; omega
        have hL := Lib.hid (ownedL_no k m n hy)
        clear hdiv hy
        go_wp2_with (go_at_call 16; go_must (refine (refOwner_calls n m _ hn hm).mono ?_); rintro e w' ⟨rfl, rfl⟩)
        go_roundw
        case rel => exact ⟨n + 1, by omega, by go_num, by rw [hL.out]; exact hown, hB⟩
        case measure => simp [intOf]; omega
    · obtain rfl : n = 16 := by omega
      go_wp2
      go_ret
      exact ⟨_, rfl, hown, hB⟩

def rpartsL (k m : Nat) (n : Nat) : List Nat := (List.range n).filter fun g => g % m = k
theorem rpartsL_yes (k m n : Nat) (h : n % m = k) : rpartsL k m (n + 1) = rpartsL k m n ++ [n] := by simp [rpartsL, List.range_succ, h]
theorem rpartsL_no (k m n : Nat) (h : ¬ n % m = k) : rpartsL k m (n + 1) = rpartsL k m n := by simp [rpartsL, List.range_succ, h]
theorem rpartsL_le (k m n : Nat) : (rpartsL k m n).length ≤ n := by have := List.length_filter_le (fun g => decide (g % m = k)) (List.range n); simpa [rpartsL] using this

set_option maxRecDepth 100000 in
set_option maxHeartbeats 2000000 in
theorem refParts_calls (k m p : Nat) (hm0 : 1 ≤ m) (hm : m ≤ 8) (hp : p ≤ 16) (w : World) :
    Calls Try.prog 18 #[.int .i64 (k : Int), .int .i64 (m : Int), .int .i64 (p : Int)] w fun e w' => ∃ v, e = .returned v ∧ w'.ownsRow w.heap.size 3 1 v (rpartsL k m p).length (natV (rpartsL k m p)) ∧ RowKit.Below w.heap.size w w' := by
  obtain ⟨i0, hi, hz0, hz1, hz2⟩ := info_parts info3
  go_enter Try.func18, Try.ntmps18
  go_wp2
  go_loopw [7, 8] (fun v i wr => ∃ n : Nat, n ≤ p ∧ i = .int .i64 (n : Int) ∧ wr.ownsRow w.heap.size 3 1 v (rpartsL k m n).length (natV (rpartsL k m n)) ∧ RowKit.Below w.heap.size w wr) (fun _ i _ => p - (intOf i).toNat)
  case atStart => exact ⟨0, by omega, rfl, (World.ownsRow_nil _ _ _ _ : w.ownsRow w.heap.size 3 1 (.slice none 0 0) 0 []), Below.refl _ _⟩
  case round =>
    obtain ⟨n, hn, rfl, hown, hB⟩ := hrel
    have hle := rpartsL_le k m n
    by_cases hlt : n < p
    · have hdiv : (n : Int) % (m : Int) = ((n % m : Nat) : Int) := by simp
      by_cases hy : n % m = k
      · have ht : ((n : Int) % (m : Int) == (k : Int)) = true := by rw [hdiv, hy]; simp
        have hL := Lib.hid (rpartsL_yes k m n hy)
        clear hdiv hy
        go_wp2_with (first
          | (at_builtin; go_must (refine wpList_append_own _ rfl _ _ 32 rfl w.heap.size 3 i0 (.int .i64 0) 1 8 Try.underlying32 hi hz0 hz1 hz2 rfl (by decide) _ _ _ rfl (hown.alloc _) ⟨wr.heap.size, 0, none⟩ 1 1 [.int .i64 (n : Int)] rfl rfl (cell_one_new _ _ _) (by simp [Value.oneCell']) (by unfold maxLen; omega) (by omega) (by have := hB.size; simp; omega) ?_); intro v' w1 hown' hgrow _))
        go_roundw
        case rel => exact ⟨n + 1, by omega, by go_num, by rw [hL.out, natV_snoc, List.length_append]; exact hown', (hB.alloc hB.size _).grown hgrow (by simp; have := hB.size; omega) (fun g e => (hown.lt g e).1)⟩
        case measure => simp [intOf]; omega
      · have ht : ((n : Int) % (m : Int) == (k : Int)) = false := by rw [hdiv]; simp; omega
        have hL := Lib.hid (rpartsL_no k m n hy)
        clear hdiv hy
        go_wp2
        go_roundw
        case rel => exact ⟨n + 1, by omega, by go_num, by rw [hL.out]; exact hown, hB⟩
        case measure => simp [intOf]; omega
    · obtain rfl : p = n := by omega
      go_wp2
      go_ret
      exact ⟨_, rfl, hown, hB⟩
end Go.Proofs.Ytfmdflkbgfnehaa.Hand
