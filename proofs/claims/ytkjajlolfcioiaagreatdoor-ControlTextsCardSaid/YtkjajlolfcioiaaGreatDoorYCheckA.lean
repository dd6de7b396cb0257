/- plan.Check: the small parts, walked. -/
import Derived.Test.YtkjajlolfcioiaaGreatDoorProg
import Derived.Test.YtkjajlolfcioiaaGreatDoorYOwn
import Derived.Test.YtkjajlolfcioiaaGreatDoorYScan
import Derived.WalkSpells
import Derived.WalkLawsBesides
namespace Go.Proofs.YtkjajlolfcioiaaGreatDoor.Check
open Go.RowKit Go.Proofs.YtkjajlolfcioiaaGreatDoor Go.Proofs.YtkjajlolfcioiaaGreatDoor.Own Go.Proofs.YtkjajlolfcioiaaGreatDoor.Scan Go.Proofs.YtkjajlolfcioiaaGreatDoor.Plan Go.Lib

/-- what a check gives up with. -/
abbrev wrongV (a c : Int) : Value := .iface 159 (.agg #[.int .i64 a, .int .i64 c])
abbrev gaveUp (a c : Int) : Ending := .panicked [{ v := wrongV a c, recovered := false }]

theorem need_ok (a c : Int) (w : World) : Calls Tryz.prog 100 #[.bool true, .int .i64 a, .int .i64 c] w fun e w' => e = .returned (.tuple #[]) ∧ w' = w := by
  go_enter Tryz.func100, Tryz.ntmps100
  go_wp2
  go_end0
  exact ⟨rfl, rfl⟩
theorem need_no (a c : Int) (w : World) : Calls Tryz.prog 100 #[.bool false, .int .i64 a, .int .i64 c] w fun e w' => e = gaveUp a c ∧ w' = w := by
  go_enter Tryz.func100, Tryz.ntmps100
  go_wp2
  exact ⟨rfl, rfl, rfl⟩
theorem need_any (b : Bool) (a c : Int) (w : World) : Calls Tryz.prog 100 #[.bool b, .int .i64 a, .int .i64 c] w fun e w' => ((b = true ∧ e = .returned (.tuple #[])) ∨ (b = false ∧ e = gaveUp a c)) ∧ w' = w := by
  cases b
  · exact (need_no a c w).mono fun e w' ⟨h1, h2⟩ => ⟨.inr ⟨rfl, h1⟩, h2⟩
  · exact (need_ok a c w).mono fun e w' ⟨h1, h2⟩ => ⟨.inl ⟨rfl, h1⟩, h2⟩

theorem between_calls (n a b : Int) (w : World) : Calls Tryz.prog 124 #[.int .i64 n, .int .i64 a, .int .i64 b] w fun e w' => e = .returned (.bool (decide (a ≤ n ∧ n ≤ b))) ∧ w' = w := by
  by_cases h1 : a ≤ n
  · by_cases h2 : n ≤ b
    · rw [decide_eq_true ⟨h1, h2⟩]
      go_enter Tryz.func124, Tryz.ntmps124
      go_wp2
      go_ret
      exact ⟨by simp <;> omega, rfl⟩
    · rw [decide_eq_false (fun h => h2 h.2)]
      go_enter Tryz.func124, Tryz.ntmps124
      go_wp2
      go_ret
      exact ⟨by simp <;> omega, rfl⟩
  · rw [decide_eq_false (fun h => h1 h.1)]
    go_enter Tryz.func124, Tryz.ntmps124
    go_wp2
    go_ret
    exact ⟨by simp <;> omega, rfl⟩
/-- a bool that is named. -/
def btw (n a b : Int) : Bool := decide (a ≤ n ∧ n ≤ b)
theorem between_btw (n a b : Int) (w : World) : Calls Tryz.prog 124 #[.int .i64 n, .int .i64 a, .int .i64 b] w fun e w' => e = .returned (.bool (btw n a b)) ∧ w' = w := between_calls n a b w
theorem between_is {n a b : Int} {t : Bool} (h : btw n a b = t) (w : World) : Calls Tryz.prog 124 #[.int .i64 n, .int .i64 a, .int .i64 b] w fun e w' => e = .returned (.bool t) ∧ w' = w := h ▸ between_calls n a b w
theorem ret_bool {a b : Bool} (h : (a = true ↔ b = true)) : Ending.returned (.bool a) = .returned (.bool b) := by rw [Bool.eq_iff_iff.2 h]
theorem box_below (w : World) (o : Obj) : Below w.heap.size w (w.alloc o) := (Below.refl _ _).alloc (Nat.le_refl _) o
def WinPost (k s l a : Int) (w : World) (e : Ending) (w' : World) : Prop := (∃ b : Bool, e = .returned (.bool b) ∧ (b = true ↔ WinOk k s l a)) ∧ Below w.heap.size w w'
set_option maxHeartbeats 1000000 in
theorem windows_zero (s l a : Int) (w : World) : Calls Tryz.prog 125 #[.agg #[.int .i64 0, .int .i64 s, .int .i64 l], .int .i64 a] w (WinPost 0 s l a w) := by
  go_enter Tryz.func125, Tryz.ntmps125
  go_wp2_with fail
  all_goals (go_ret; exact ⟨⟨_, rfl, by simp [WinOk] <;> omega⟩, box_below _ _⟩)
set_option maxHeartbeats 1000000 in
theorem windows_one (k s l a : Int) (hk : k = 1 ∨ k = 3) (w : World) : Calls Tryz.prog 125 #[.agg #[.int .i64 k, .int .i64 s, .int .i64 l], .int .i64 a] w (WinPost k s l a w) := by
  obtain ⟨b1, hb1⟩ : ∃ b, btw s 1 1000000 = b := ⟨_, rfl⟩
  obtain ⟨b2, hb2⟩ : ∃ b, btw a 1 4 = b := ⟨_, rfl⟩
  have c1 := fun X => between_is hb1 X
  have c2 := fun X => between_is hb2 X
  have C1 := Lib.hid c1
  have C2 := Lib.hid c2
  have h1 : b1 = true ↔ 1 ≤ s ∧ s ≤ 1000000 := by rw [← hb1]; unfold btw; rw [decide_eq_true_eq]
  have h2 : b2 = true ↔ 1 ≤ a ∧ a ≤ 4 := by rw [← hb2]; unfold btw; rw [decide_eq_true_eq]
  have H1 := Lib.hid h1
  have H2 := Lib.hid h2
  clear c1 c2 hb1 hb2 h1 h2
  rcases hk with rfl | rfl <;> by_cases hl : l = 0 <;> cases b1 <;> cases b2
  all_goals
    go_enter Tryz.func125, Tryz.ntmps125
    go_wp2_with (first | (go_at_call 124; (with_reducible refine (C1.out _).mono ?_); rintro e w1 ⟨rfl, rfl⟩) | (go_at_call 124; (with_reducible refine (C2.out _).mono ?_); rintro e w1 ⟨rfl, rfl⟩))
    go_ret
    exact ⟨⟨_, rfl, by have h1 := H1.out; have h2 := H2.out; simp [WinOk] at h1 h2 ⊢ <;> omega⟩, box_below _ _⟩
set_option maxHeartbeats 2000000 in
theorem windows_two (s l a : Int) (w : World) : Calls Tryz.prog 125 #[.agg #[.int .i64 2, .int .i64 s, .int .i64 l], .int .i64 a] w (WinPost 2 s l a w) := by
  by_cases q1 : 1 ≤ s ∧ s ≤ 1000000
  · have c1 := fun X => between_is (show btw s 1 1000000 = true from decide_eq_true q1) X
    obtain ⟨q1a, q1b⟩ := q1
    have C1 := Lib.hid c1
    clear c1
    by_cases q2 : 1 ≤ l ∧ l ≤ s
    · have c2 := fun X => between_is (show btw l 1 s = true from decide_eq_true q2) X
      obtain ⟨q2a, q2b⟩ := q2
      have C2 := Lib.hid c2
      clear c2
      obtain ⟨b3, hb3⟩ : ∃ b, btw a 1 4 = b := ⟨_, rfl⟩
      have c3 := fun X => between_is hb3 X
      have h3 : b3 = true ↔ 1 ≤ a ∧ a ≤ 4 := by rw [← hb3]; unfold btw; rw [decide_eq_true_eq]
      have C3 := Lib.hid c3
      have H3 := Lib.hid h3
      clear c3 h3 hb3
      have l0 : 0 ≤ 16 * l := by omega
      have l1 : 16 * l ≤ 16000000 := by omega
      by_cases q4 : s ≤ 16 * l <;> cases b3
      all_goals
        go_enter Tryz.func125, Tryz.ntmps125
        go_wp2_with (first | (go_at_call 124; (with_reducible refine (C1.out _).mono ?_); rintro e w1 ⟨rfl, rfl⟩) | (go_at_call 124; (with_reducible refine (C2.out _).mono ?_); rintro e w1 ⟨rfl, rfl⟩) | (go_at_call 124; (with_reducible refine (C3.out _).mono ?_); rintro e w1 ⟨rfl, rfl⟩))
        go_ret
        exact ⟨⟨_, rfl, by have h3 := H3.out; simp [WinOk] at h3 ⊢ <;> omega⟩, box_below _ _⟩
    · have c2 := fun X => between_is (show btw l 1 s = false from decide_eq_false q2) X
      have C2 := Lib.hid c2
      have Q2 := Lib.hid q2
      clear c2 q2
      go_enter Tryz.func125, Tryz.ntmps125
      go_wp2_with (first | (go_at_call 124; (with_reducible refine (C1.out _).mono ?_); rintro e w1 ⟨rfl, rfl⟩) | (go_at_call 124; (with_reducible refine (C2.out _).mono ?_); rintro e w1 ⟨rfl, rfl⟩))
      go_ret
      exact ⟨⟨_, rfl, by have h3 := Q2.out; simp [WinOk] at h3 ⊢ <;> omega⟩, box_below _ _⟩
  · have c1 := fun X => between_is (show btw s 1 1000000 = false from decide_eq_false q1) X
    have C1 := Lib.hid c1
    have Q1 := Lib.hid q1
    clear c1 q1
    go_enter Tryz.func125, Tryz.ntmps125
    go_wp2_with (first | (go_at_call 124; (with_reducible refine (C1.out _).mono ?_); rintro e w1 ⟨rfl, rfl⟩))
    go_ret
    exact ⟨⟨_, rfl, by have h3 := Q1.out; simp [WinOk] at h3 ⊢ <;> omega⟩, box_below _ _⟩
set_option maxHeartbeats 1000000 in
theorem windows_else (k s l a : Int) (k0 : ¬ k = 0) (k1 : ¬ k = 1) (k2 : ¬ k = 2) (k3 : ¬ k = 3) (w : World) : Calls Tryz.prog 125 #[.agg #[.int .i64 k, .int .i64 s, .int .i64 l], .int .i64 a] w (WinPost k s l a w) := by
  go_enter Tryz.func125, Tryz.ntmps125
  go_wp2
  go_ret
  exact ⟨⟨_, rfl, by simp [WinOk] <;> omega⟩, box_below _ _⟩
theorem windows_calls (k s l a : Int) (w : World) : Calls Tryz.prog 125 #[.agg #[.int .i64 k, .int .i64 s, .int .i64 l], .int .i64 a] w (WinPost k s l a w) := by
  by_cases k0 : k = 0
  · subst k0; exact windows_zero s l a w
  · by_cases k1 : k = 1
    · exact windows_one k s l a (.inl k1) w
    · by_cases k2 : k = 2
      · subst k2; exact windows_two s l a w
      · by_cases k3 : k = 3
        · exact windows_one k s l a (.inr k3) w
        · exact windows_else k s l a k0 k1 k2 k3 w
end Go.Proofs.YtkjajlolfcioiaaGreatDoor.Check
