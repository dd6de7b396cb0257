/- expr: Parse, walked. -/
import Derived.Test.YtkjajlolfcioiaaGreatDoorYExprH
import Derived.WalkSpells
namespace Go.Proofs.YtkjajlolfcioiaaGreatDoor.Expr
open Go.RowKit Go.Proofs.YtkjajlolfcioiaaGreatDoor Go.Proofs.YtkjajlolfcioiaaGreatDoor.Own Go.Proofs.YtkjajlolfcioiaaGreatDoor.Scan Go.Lib

/-- what expr.Parse comes to: a code of error alone is said. -/
def Parsed (s : ByteArray) (w : World) (e : Ending) (w' : World) : Prop :=
  ∃ v n, e = .returned (.tuple #[v, .int .i64 n, .int .i64 (exprE (L s))]) ∧ Below w.heap.size w w' ∧ ((exprE (L s) ≠ 0 ∧ v = .pointer none) ∨ (exprE (L s) = 0 ∧ ∃ x, v = .pointer (some ⟨x, 0, none⟩) ∧ w.heap.size ≤ x ∧ ExprAt w' x 1664))

theorem St.new (w : World) (s : ByteArray) (T : TypeId) : St (w.alloc (.cells #[.string s, .int .i64 0, .int .i64 0] T)) w.heap.size s 0 0 where
  c0 := cell_new rfl rfl
  c1 := cell_new rfl rfl
  c2 := cell_new rfl rfl
  f1 := by simp only [World.frozen?, heap_new]; rfl
  f2 := by simp only [World.frozen?, heap_new]; rfl
set_option maxRecDepth 100000 in
set_option maxHeartbeats 4000000 in
theorem parse_calls (s : ByteArray) (w : World) (hT : Tab w) (hb : 5 < w.heap.size) : Calls Tryz.prog 148 #[.string s] w (Parsed s w) := by
  have HT := Lib.hid hT
  clear hT
  by_cases h200 : 200 < s.size
  · have hi : (200 : Int) < (s.size : Int) := by omega
    have hx : exprE (L s) = 2 := by unfold exprE; rw [len_L, if_pos h200]
    go_enter Tryz.func148, Tryz.ntmps148
    go_wp2
    go_ret3
    refine ⟨.pointer none, 0, ?_, Below.refl _ _, .inl ⟨by rw [hx]; decide, rfl⟩⟩
    rw [hx]
    rfl
  · have hi : ¬ (200 : Int) < (s.size : Int) := by omega
    have hx : exprE (L s) = scan true 0 ((L s).drop 0) 0 := by unfold exprE; rw [len_L, if_neg h200]; rfl
    have HX := Lib.hid hx
    clear hx
    go_enter Tryz.func148, Tryz.ntmps148
    go_wp2_with fail
    refine (whole_all s w.heap.size 0 0 1 1 _ (by omega) (by omega) rfl (by omega) (by omega) (by omega) (St.new w s _) (HT.out.below (balloc (Below.refl _ _) _)) hb).mono ?_
    rintro e w1 ⟨v, f, rfl, hB, hq⟩
    have hBB : Below w.heap.size w w1 := But.fresh (balloc (Below.refl _ _) _) (Nat.le_refl _) (by simp) hB
    rcases hq with ⟨fb, code, rfl, rfl, q1, ⟨⟨fn, q2⟩, q2b⟩, q3, q4⟩ | ⟨x, a', p', rfl, rfl, q1, q2, q3, q4, q5, q6, q7, ⟨qr, qs⟩, q8⟩
    · have HQ := Lib.hid (HX.out.trans (q4 0))
      clear q4
      have hfl : fb < w1.heap.size := lt_of_cell (a := ⟨fb, 0, none⟩) q2
      go_wp2
      go_region
      all_goals
        go_wp2
        go_ret3
        refine ⟨.pointer none, fn, ?_, hBB.drew, .inl ⟨by rw [HQ.out]; exact q3, rfl⟩⟩
        rw [HQ.out]
        rfl
    · rcases hd : (L s).drop a' with _ | ⟨c, r⟩
      · have HQ := Lib.hid (HX.out.trans ((q8 0).trans (by rw [hd, scan_end, if_neg (by simp)])))
        have ha : skipL ((L s).drop a') = [] := by rw [hd]; rfl
        clear q8
        go_wp2_with (go_at_call 176; go_must (refine (skip_none (by omega) q3 q6 ha).mono ?_); rintro e w2 ⟨rfl, hst2, hB2⟩)
        go_ret3
        refine ⟨.pointer (some ⟨x, 0, none⟩), 0, ?_, But.fresh hBB (Nat.le_refl _) hBB.size hB2, .inr ⟨HQ.out, x, rfl, ?_, ?_⟩⟩
        · rw [HQ.out]
          rfl
        · have := hBB.size
          simp at q1
          omega
        · refine (q7.but hB2 ?_).more (by omega)
          simp at q1
          omega
      · have hs2 : skipL ((L s).drop a') = c :: r := by rw [qs, hd]
        have HQ := Lib.hid (HX.out.trans ((q8 0).trans (by rw [hd, scan_over (skip_head hs2) (by rw [← hd]; omega)])))
        clear q8
        go_wp2_with (go_at_call 176; go_must (refine (skip_some (by omega) q3 q6 hs2).mono ?_); rintro e w2 ⟨k, hk1, hk2, hk3, rfl, ⟨c0, c1, c2, f1, f2⟩, hB2⟩)
        have hB3 : Below w.heap.size w w2 := But.fresh hBB (Nat.le_refl _) hBB.size hB2
        go_region
        all_goals
          go_wp2
          go_ret3
          refine ⟨.pointer none, k, ?_, (hB3.alloc hB3.size _).drew, .inl ⟨by rw [HQ.out]; decide, rfl⟩⟩
          rw [HQ.out]
          rfl
end Go.Proofs.YtkjajlolfcioiaaGreatDoor.Expr
