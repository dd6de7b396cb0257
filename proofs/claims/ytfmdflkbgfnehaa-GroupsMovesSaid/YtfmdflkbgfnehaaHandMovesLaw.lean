/- What moves are just the groups that change their owner. -/
import Derived.Test.YtfmdflkbgfnehaaHandOwns
namespace Go.Proofs.Ytfmdflkbgfnehaa.Hand
open Go.RowKit Go.Shelf Go.Proofs.Ytfmdflkbgfnehaa

theorem mvL_length (m n : Nat) (l : List (Fin 16)) : (mvL m n l).length = mvN m n l * 3 := by
  induction l with
  | nil => rfl
  | cons g l ih =>
    have : mvL m n (g :: l) = mvOf m n g ++ mvL m n l := by simp [mvL]
    rw [this, List.length_append, ih]
    by_cases h : own16 m g = own16 n g
    · simp [mvOf, mvN, h]
    · simp [mvOf, mvN, h]; omega
theorem fin_split (g : Nat) (hg : g < 16) : ∃ r, List.finRange 16 = upto16 g ++ ⟨g, hg⟩ :: r := by
  obtain ⟨r, hr⟩ := upto16_prefix (g + 1)
  exact ⟨r, by rw [← hr, upto16_succ g hg]; simp⟩
theorem mv_get (m n g : Nat) (hg : g < 16) (h : ¬ own16 m ⟨g, hg⟩ = own16 n ⟨g, hg⟩) :
    mvN m n (upto16 g) < mvN m n (List.finRange 16) ∧ (mvL m n (List.finRange 16))[mvN m n (upto16 g) * 3]? = some (.int .i64 (g : Int)) ∧ (mvL m n (List.finRange 16))[mvN m n (upto16 g) * 3 + 1]? = some (.int .i64 (own16 m ⟨g, hg⟩)) ∧ (mvL m n (List.finRange 16))[mvN m n (upto16 g) * 3 + 2]? = some (.int .i64 (own16 n ⟨g, hg⟩)) := by
  obtain ⟨r, hr⟩ := fin_split g hg
  have hl := mvL_length m n (upto16 g)
  have e : mvL m n (List.finRange 16) = mvL m n (upto16 g) ++ ([.int .i64 (g : Int), .int .i64 (own16 m ⟨g, hg⟩), .int .i64 (own16 n ⟨g, hg⟩)] ++ mvL m n r) := by
    rw [hr]; simp [mvL, mvOf, h]
  refine ⟨?_, ?_, ?_, ?_⟩
  · rw [hr]; simp [mvN, h]
  · rw [e, List.getElem?_append_right (by omega), hl, Nat.sub_self]; rfl
  · rw [e, List.getElem?_append_right (by omega), hl, show mvN m n (upto16 g) * 3 + 1 - mvN m n (upto16 g) * 3 = 1 by omega]; rfl
  · rw [e, List.getElem?_append_right (by omega), hl, show mvN m n (upto16 g) * 3 + 2 - mvN m n (upto16 g) * 3 = 2 by omega]; rfl

set_option maxRecDepth 100000 in
set_option maxHeartbeats 4000000 in
theorem MovesLaw_bad (m n : Int) (w : World) (h : (m < 1 ∨ 8 < m) ∨ (n < 1 ∨ 8 < n)) :
    Calls Try.prog 6 #[.int .i64 m, .int .i64 n] w fun e w' => e = .returned (.bool true) ∧ RowKit.Below w.heap.size w w' := by
  by_cases h1 : m < 1 ∨ 8 < m
  · go_enter Try.func6, Try.ntmps6
    go_wp2_with (first
      | (go_at_call 19; go_must (refine (Moves_bad _ _ h _).mono ?_); rintro e w1 ⟨rfl, hB1⟩)
      | (go_at_call 15; go_must (refine (Sub_false _ _ h1).mono ?_); rintro e w' ⟨rfl, rfl⟩)
      | (go_at_call 7; go_must (refine (awake_calls _).mono ?_); rintro e w2 ⟨rfl, hB2⟩))
    go_ret
    exact ⟨rfl, bgo hB1 (Nat.le_refl _) hB2⟩
  · have h2 := h.resolve_left h1
    go_enter Try.func6, Try.ntmps6
    go_wp2_with (first
      | (go_at_call 19; go_must (refine (Moves_bad _ _ h _).mono ?_); rintro e w1 ⟨rfl, hB1⟩)
      | (go_at_call 15; refine (Sub_true m _ (by omega) (by omega)).mono ?_; rintro e w' ⟨rfl, rfl⟩)
      | (go_at_call 15; refine (Sub_false n _ h2).mono ?_; rintro e w' ⟨rfl, rfl⟩)
      | (go_at_call 7; go_must (refine (awake_calls _).mono ?_); rintro e w2 ⟨rfl, hB2⟩))
    go_ret
    exact ⟨rfl, bgo hB1 (Nat.le_refl _) hB2⟩

set_option maxRecDepth 100000 in
set_option maxHeartbeats 4000000 in
theorem MovesLaw_good (m n : Nat) (w : World) (hm0 : 1 ≤ m) (hm : m ≤ 8) (hn0 : 1 ≤ n) (hn : n ≤ 8) :
    Calls Try.prog 6 #[.int .i64 (m : Int), .int .i64 (n : Int)] w fun e w' => e = .returned (.bool true) ∧ RowKit.Below w.heap.size w w' := by
  have hN16 : mvN m n (List.finRange 16) ≤ 16 := by have := mvN_le m n (List.finRange 16); simpa using this
  go_enter Try.func6, Try.ntmps6
  go_wp2_with (first
    | (go_at_call 19; go_must (refine (Moves_good m n hm0 hm hn0 hn _).mono ?_); rintro e w1 ⟨v, rfl, hown, hB1⟩)
    | (go_at_call 15; go_must (refine (Sub_true _ _ (by omega) (by omega)).mono ?_); rintro e w' ⟨rfl, rfl⟩))
  obtain ⟨N, hN⟩ : ∃ N, N = mvN m n (List.finRange 16) := ⟨_, rfl⟩
  have HN := Lib.hid hN
  rw [← hN] at hN16
  clear hN
  have hv : (N = 0 ∧ v = .slice none 0 0) ∨ ∃ g cap, v = .slice (some ⟨g, 0, none⟩) N cap ∧ N ≤ cap ∧ g < w1.heap.size ∧ ∀ j u, (mvL m n (List.finRange 16))[j]? = some u → w1.cell? ⟨g, j, none⟩ = some u := by
    rcases hown.2 with ⟨hv, h0⟩ | ⟨g, cap, cur, hv, _, hg, hc, _⟩
    · exact .inl ⟨HN.out.trans h0, hv⟩
    · refine .inr ⟨g, cap, by rw [HN.out]; exact hv, by rw [HN.out]; exact hc, (Array.getElem?_eq_some_iff.1 hg).1, fun j u hj => ?_⟩
      have := hown.cells (g := g) (by rw [hv]; rfl) j u hj
      rwa [show (⟨g, 0, none⟩ : Addr).add j = ⟨g, j, none⟩ from by unfold Addr.add; split <;> simp_all] at this
  clear hown
  rcases hv with ⟨h0, rfl⟩ | ⟨gb, cap, rfl, hcap, hgb, hcells⟩
  · go_loop [7, 8] (fun k i => ∃ g : Nat, g ≤ 16 ∧ i = .int .i64 (g : Int) ∧ k = .int .i64 0 ∧ mvN m n (upto16 g) = 0) (fun _ i => 16 - (intOf i).toNat)
    case atStart => exact ⟨0, by omega, rfl, rfl, rfl⟩
    case round =>
      obtain ⟨g, hg, rfl, rfl, hk⟩ := hrel
      by_cases hlt : g < 16
      · have hs : (g : Int) * (m : Int) / 16 = (g : Int) * (n : Int) / 16 := by
          apply Decidable.byContradiction
          intro hs
          have := (mv_get m n g hlt hs).1
          rw [← HN.out] at this
          omega
        have HS := Lib.hid hs
        have hb : ((g : Int) * (m : Int) / 16 == (g : Int) * (n : Int) / 16) = true := beq_iff_eq.2 hs
        have HK := Lib.hid hk
        clear hs hk
        go_wp2_with (first
          | (go_at_call 16; (with_reducible refine (refOwner_calls g m _ (by omega) hm).mono ?_); rintro e w' ⟨rfl, rfl⟩)
          | (go_at_call 16; (with_reducible refine (refOwner_calls g n _ (by omega) hn).mono ?_); rintro e w' ⟨rfl, rfl⟩))
        go_round
        case rel => exact ⟨g + 1, by omega, by go_num, rfl, by rw [upto16_succ g hlt, mvN_same m n _ _ HS.out, HK.out]⟩
        case measure => simp [intOf]; omega
      · obtain rfl : g = 16 := by omega
        have HK := Lib.hid hk
        clear hk
        go_wp2_with (go_at_call 7; go_must (refine (awake_calls _).mono ?_); rintro e w2 ⟨rfl, hB2⟩)
        go_ret
        exact ⟨rfl, bgo hB1 (Nat.le_refl _) hB2⟩
  · have HC := Lib.hid hcells
    clear hcells
    go_loop [7, 8] (fun k i => ∃ g c : Nat, g ≤ 16 ∧ i = .int .i64 (g : Int) ∧ k = .int .i64 (c : Int) ∧ c ≤ g ∧ Hid (c = mvN m n (upto16 g))) (fun _ i => 16 - (intOf i).toNat)
    case atStart => exact ⟨0, 0, by omega, rfl, rfl, by omega, Lib.hid rfl⟩
    case round =>
      obtain ⟨g, c, hg, rfl, rfl, hcg, hk⟩ := hrel
      by_cases hlt : g < 16
      · by_cases hs : (g : Int) * (m : Int) / 16 = (g : Int) * (n : Int) / 16
        · have HS := Lib.hid hs
          have hb : ((g : Int) * (m : Int) / 16 == (g : Int) * (n : Int) / 16) = true := beq_iff_eq.2 hs
          clear hs
          go_wp2_with (first
            | (go_at_call 16; (with_reducible refine (refOwner_calls g m _ (by omega) hm).mono ?_); rintro e w' ⟨rfl, rfl⟩)
            | (go_at_call 16; (with_reducible refine (refOwner_calls g n _ (by omega) hn).mono ?_); rintro e w' ⟨rfl, rfl⟩))
          go_round
          case rel => exact ⟨g + 1, c, by omega, by go_num, rfl, by omega, Lib.hid (by rw [hk.out, upto16_succ g hlt, mvN_same m n _ _ HS.out])⟩
          case measure => simp [intOf]; omega
        · have hb : ((g : Int) * (m : Int) / 16 == (g : Int) * (n : Int) / 16) = false := beq_eq_false_iff_ne.2 hs
          obtain ⟨g0, g1, g2, g3⟩ := mv_get m n g hlt hs
          rw [← hk.out] at g0 g1 g2 g3
          have c1 := HC.out _ _ g1
          have c2 : w1.cell? ⟨gb, c * 3 + 1, none⟩ = some (.int .i64 ((g : Int) * (m : Int) / 16)) := HC.out _ _ g2
          have c3 : w1.cell? ⟨gb, c * 3 + 2, none⟩ = some (.int .i64 ((g : Int) * (n : Int) / 16)) := HC.out _ _ g3
          have hcN : c < N := by rw [HN.out]; exact g0
          clear g0 g1 g2 g3
          have heq := fun w0 => eqA44 9998 w0 (g : Int) (g : Int) ((g : Int) * (m : Int) / 16) ((g : Int) * (m : Int) / 16) ((g : Int) * (n : Int) / 16) ((g : Int) * (n : Int) / 16)
          go_wp2_with (first
            | (go_at_call 16; (with_reducible refine (refOwner_calls g m _ (by omega) hm).mono ?_); rintro e w' ⟨rfl, rfl⟩)
            | (go_at_call 16; (with_reducible refine (refOwner_calls g n _ (by omega) hn).mono ?_); rintro e w' ⟨rfl, rfl⟩))
          go_round
          case rel => exact ⟨g + 1, c + 1, by omega, by go_num, by go_num, by omega, Lib.hid (by rw [hk.out, upto16_succ g hlt, mvN_more m n _ _ hs])⟩
          case measure => simp [intOf]; omega
      · obtain rfl : g = 16 := by omega
        obtain rfl : c = N := by rw [hk.out, HN.out]; rfl
        go_wp2_with (go_at_call 7; go_must (refine (awake_calls _).mono ?_); rintro e w2 ⟨rfl, hB2⟩)
        go_ret
        exact ⟨rfl, bgo hB1 (Nat.le_refl _) hB2⟩

theorem GroupsMoves_calls (m n : Int) (w : World) (_ : (Lit.int .i64 m).wf = true) (_ : (Lit.int .i64 n).wf = true) :
    Calls Try.prog 6 #[.int .i64 m, .int .i64 n] w fun e w' => e = .returned (.bool true) ∧ RowKit.Below w.heap.size w w' := by
  by_cases h : (m < 1 ∨ 8 < m) ∨ (n < 1 ∨ 8 < n)
  · exact MovesLaw_bad m n w h
  · obtain ⟨a, rfl⟩ := Int.eq_ofNat_of_zero_le (show 0 ≤ m by omega)
    obtain ⟨b, rfl⟩ := Int.eq_ofNat_of_zero_le (show 0 ≤ n by omega)
    exact MovesLaw_good a b w (by omega) (by omega) (by omega) (by omega)
end Go.Proofs.Ytfmdflkbgfnehaa.Hand
