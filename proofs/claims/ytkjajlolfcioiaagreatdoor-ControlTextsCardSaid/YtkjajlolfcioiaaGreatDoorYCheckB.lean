/- plan.Check: names and steps, walked. -/
import Derived.Test.YtkjajlolfcioiaaGreatDoorYCheckA
import Derived.Test.YtkjajlolfcioiaaGreatDoorYShelfA
import Derived.Test.YtkjajlolfcioiaaGreatDoorYTail
import Derived.Test.YtkjajlolfcioiaaGreatDoorYExprG
import Derived.WalkSpells
import Derived.WalkLawsBesides
namespace Go.Proofs.YtkjajlolfcioiaaGreatDoor.Check
open Go.RowKit Go.Proofs.YtkjajlolfcioiaaGreatDoor Go.Proofs.YtkjajlolfcioiaaGreatDoor.Own Go.Proofs.YtkjajlolfcioiaaGreatDoor.Tail Go.Proofs.YtkjajlolfcioiaaGreatDoor.Scan Go.Proofs.YtkjajlolfcioiaaGreatDoor.Plan Go.Proofs.YtkjajlolfcioiaaGreatDoor.Expr Go.Lib

theorem dropWhile_nil (p : UInt8 → Bool) : ∀ l : List UInt8, l.dropWhile p = [] ↔ ∀ c ∈ l, p c = true
  | [] => by simp
  | c :: r => by
    by_cases h : p c = true
    · rw [List.dropWhile_cons_of_pos h, dropWhile_nil p r]
      simp [h]
    · rw [List.dropWhile_cons_of_neg h]
      simp [h]
theorem trim_nil (l cs : List UInt8) : Lib.trimS l cs = [] ↔ ∀ c ∈ l, cs.contains c = true := by
  unfold Lib.trimS Lib.trimLeftS Lib.trimRightS
  rw [dropWhile_nil]
  constructor
  · intro h
    have h2 : (l.reverse.dropWhile (cs.contains ·)) = [] := by
      rcases hd : l.reverse.dropWhile (cs.contains ·) with _ | ⟨c, r⟩
      · rfl
      · have h3 := List.head_dropWhile_not (p := (cs.contains ·)) (l := l.reverse) (by rw [hd]; simp)
        simp only [hd, List.head_cons] at h3
        have h4 := h c (by rw [hd]; simp)
        rw [h3] at h4
        cases h4
    have h5 := (dropWhile_nil _ _).1 h2
    intro c hc
    exact h5 c (by simpa using hc)
  · intro h c hc
    rw [List.mem_reverse] at hc
    have := (List.dropWhile_suffix (cs.contains ·)).subset hc
    exact h c (by simpa using this)
def alpha : ByteArray := ⟨#[97, 98, 99, 100, 101, 102, 103, 104, 105, 106, 107, 108, 109, 110, 111, 112, 113, 114, 115, 116, 117, 118, 119, 120, 121, 122, 48, 49, 50, 51, 52, 53, 54, 55, 56, 57, 45]⟩
theorem alpha_byte : ∀ c : UInt8, alpha.data.toList.contains c = nameByte c := by
  have h : ∀ n : Fin 256, alpha.data.toList.contains (UInt8.ofNat n) = nameByte (UInt8.ofNat n) := by decide +kernel
  intro c
  simpa using h ⟨c.toNat, c.toNat_lt⟩
theorem trim_alpha (s : ByteArray) (w : World) (hs : s.size ≤ 16) : Calls Tryz.prog 123 #[.string s, .string alpha] w fun e w' => e = .returned (.string ⟨(Lib.trimS s.data.toList alpha.data.toList).toArray⟩) ∧ Below w.heap.size w w' :=
  Go.Proofs.Any.strings_Trim_laid Tryz.lays160 (by kernel_rfl) s alpha w (by omega) (by decide) (ascii_of_all (by decide))
theorem empty_of_size {s : ByteArray} (h : s.size = 0) : s = ⟨#[]⟩ := by
  cases s with
  | mk a => 
    have : a = #[] := Array.eq_empty_of_size_eq_zero h
    rw [this]
theorem isEmpty_size {s : ByteArray} (h0 : ¬ s.size = 0) : s.toList.isEmpty = false := by
  rw [toList_data]
  rcases hl : s.data.toList with _ | ⟨c, r⟩
  · exact absurd (by have := congrArg List.length hl; simpa using this) h0
  · rfl
theorem named_short (s : ByteArray) (w : World) (h0 : ¬ s.size = 0) (hs : s.size ≤ 16) : Calls Tryz.prog 101 #[.string s] w fun e w' => (∃ b, e = .returned (.bool b) ∧ Hid (b = nameOk s)) ∧ Below w.heap.size w w' := by
  have h1 := isEmpty_size h0
  have hok : (Lib.trimS s.data.toList alpha.data.toList).isEmpty = nameOk s := by
    unfold nameOk
    rw [Bool.eq_iff_iff, List.isEmpty_iff, trim_nil, Bool.and_eq_true, decide_eq_true_eq, List.all_eq_true]
    constructor
    · intro h
      exact ⟨by omega, fun c hc => by rw [← alpha_byte]; exact h c hc⟩
    · intro h c hc
      rw [alpha_byte]
      exact h.2 c hc
  have HOK := Lib.hid hok
  clear hok
  go_enter Tryz.func101, Tryz.ntmps101
  go_wp2_with fail
  refine (trim_alpha s w hs).mono ?_
  rintro e w1 ⟨rfl, hB⟩
  go_wp2
  go_ret
  exact ⟨⟨_, rfl, Lib.hid (by rw [← HOK.out])⟩, hB⟩
theorem named_calls (s : ByteArray) (w : World) : Calls Tryz.prog 101 #[.string s] w fun e w' => (∃ b, e = .returned (.bool b) ∧ Hid (b = nameOk s)) ∧ Below w.heap.size w w' := by
  by_cases h0 : s.size = 0
  · have : s = ⟨#[]⟩ := empty_of_size h0
    subst this
    have hn : nameOk ⟨#[]⟩ = false := by decide
    have HN := Lib.hid hn
    clear hn h0
    go_enter Tryz.func101, Tryz.ntmps101
    go_wp2
    go_ret
    exact ⟨⟨_, rfl, Lib.hid HN.out.symm⟩, Below.refl _ _⟩
  · by_cases hs : s.size ≤ 16
    · exact named_short s w h0 hs
    · have h1 := isEmpty_size h0
      have hn : nameOk s = false := by unfold nameOk; rw [decide_eq_false (by omega)]; rfl
      have HN := Lib.hid hn
      clear hn
      go_enter Tryz.func101, Tryz.ntmps101
      go_wp2
      go_ret
      exact ⟨⟨_, rfl, Lib.hid HN.out.symm⟩, Below.refl _ _⟩
/-- what a check of a step comes to. -/
def GivesE (at_ E : Int) (w : World) (e : Ending) (w' : World) : Prop := Below w.heap.size w w' ∧ ((E = 0 ∧ e = .returned (.tuple #[])) ∨ (E ≠ 0 ∧ e = gaveUp at_ E))
def stepC (s : Stp) : Int := if s.kind = 1 ∨ s.kind = 2 then (if s.n = 0 ∧ Plan.trimmed s.text = true then exprE s.text.data.toList else 54) else if s.kind = 3 then 0 else 54
set_option maxHeartbeats 1000000 in
theorem step_key (k n a : Int) (s : ByteArray) (h1 : ¬ k = 1) (h2 : ¬ k = 2) (w : World) : Calls Tryz.prog 126 #[.agg #[.int .i64 k, .string s, .int .i64 n], .int .i64 a] w (GivesE a (stepC ⟨k, s, n⟩) w) := by
  by_cases h3 : k = 3
  · have hE : stepC ⟨k, s, n⟩ = 0 := by unfold stepC; rw [if_neg (by intro h; exact h.elim h1 h2), if_pos h3]
    rw [hE]
    go_enter Tryz.func126, Tryz.ntmps126
    go_wp2
    go_end0
    exact ⟨box_below _ _, .inl ⟨rfl, rfl⟩⟩
  · have hE : stepC ⟨k, s, n⟩ = 54 := by unfold stepC; rw [if_neg (by intro h; exact h.elim h1 h2), if_neg h3]
    rw [hE]
    go_enter Tryz.func126, Tryz.ntmps126
    go_wp2_with (go_at_call 100; (with_reducible refine (need_no _ _ _).mono ?_); rintro e w1 ⟨rfl, rfl⟩)
    exact ⟨rfl, box_below _ _, .inr ⟨by decide, rfl⟩⟩
/-- a sum of what a test says. -/
theorem step_n_E {k n : Int} {s : ByteArray} (hk : k = 1 ∨ k = 2) (hn : ¬ n = 0) : stepC ⟨k, s, n⟩ = 54 := by unfold stepC; rw [if_pos hk, if_neg (fun h : n = 0 ∧ _ => hn h.1)]
set_option maxHeartbeats 1000000 in
set_option maxRecDepth 100000 in
theorem step_n (k n a : Int) (s : ByteArray) (hk : k = 1 ∨ k = 2) (hn : ¬ n = 0) (w : World) : Calls Tryz.prog 126 #[.agg #[.int .i64 k, .string s, .int .i64 n], .int .i64 a] w (GivesE a (stepC ⟨k, s, n⟩) w) := by
  rw [step_n_E hk hn]
  have ht : ((n : Int) == 0) = false := by simpa using hn
  rcases hk with rfl | rfl
  all_goals
    go_enter Tryz.func126, Tryz.ntmps126
    go_wp2
    refine quiet_tail_any 12 (by kernel_rfl) (by kernel_rfl) (fun X => X.cell? ⟨w.heap.size, 2, none⟩ = some (.int .i64 n) ∧ Below w.heap.size w X) ⟨cell_new rfl rfl, (box_below _ _).drew⟩ ?_
    rintro X ⟨k2, hB⟩
    simp only [List.take_succ_cons, List.take_zero, List.drop_succ_cons, List.drop_zero]
    repeat (go_big_quiet_step (fail))
    refine wpQuiet_nil ?_
    go_wp2_with (go_at_call 100; (with_reducible refine (need_no _ _ _).mono ?_); rintro e w1 ⟨rfl, rfl⟩)
    exact ⟨rfl, hB, .inr ⟨by decide, rfl⟩⟩
/-- no blank at its ends: as a trim says it. -/
theorem trimB_is (l : List UInt8) : Lib.trimB l 32 = l ↔ ((!(l.head? == some 32) && !(l.getLast? == some 32)) = true) := by
  rw [Bool.and_eq_true, Bool.not_eq_true', Bool.not_eq_true', beq_eq_false_iff_ne, beq_eq_false_iff_ne]
  have hlen1 : (Lib.trimRightB l 32).length ≤ l.length := by
    unfold Lib.trimRightB
    rw [List.length_reverse]
    have := (List.dropWhile_suffix (l := l.reverse) (· == (32 : UInt8))).length_le
    simpa using this
  have hlen2 : (Lib.trimB l 32).length ≤ (Lib.trimRightB l 32).length := (List.dropWhile_suffix _).length_le
  have hR : Lib.trimRightB l 32 = l ↔ l.getLast? ≠ some 32 := by
    unfold Lib.trimRightB
    rcases hr : l.reverse with _ | ⟨c, r⟩
    · have : l = [] := by simpa using hr
      subst this
      simp
    · have hl : l = r.reverse ++ [c] := by
        have := congrArg List.reverse hr
        simpa using this
      have hg : l.getLast? = some c := by rw [hl]; simp
      rw [hg]
      by_cases hc : c = 32
      · subst hc
        constructor
        · intro h
          exfalso
          rw [List.dropWhile_cons_of_pos (by simp)] at h
          have h1 := congrArg List.length h
          have h2 := (List.dropWhile_suffix (l := r) (· == (32 : UInt8))).length_le
          rw [hl] at h1
          simp at h1
          omega
        · intro h; exact absurd rfl h
      · constructor
        · intro _ h; exact hc (Option.some.inj h)
        · intro _
          rw [List.dropWhile_cons_of_neg (by simpa using hc), hl]
          simp
  constructor
  · intro h
    have h1 : Lib.trimRightB l 32 = l := by
      have hq : (Lib.trimRightB l 32).length = l.length := by
        have := congrArg List.length h
        omega
      unfold Lib.trimRightB at hq ⊢
      rw [List.length_reverse] at hq
      have hs := (List.dropWhile_suffix (l := l.reverse) (· == (32 : UInt8))).eq_of_length (by simpa using hq)
      rw [hs, List.reverse_reverse]
    refine ⟨?_, hR.1 h1⟩
    unfold Lib.trimB at h
    rw [h1] at h
    unfold Lib.trimLeftB at h
    rcases l with _ | ⟨c, r⟩
    · simp
    · intro hc
      have : c = 32 := Option.some.inj hc
      subst this
      rw [List.dropWhile_cons_of_pos (by simp)] at h
      have h1 := congrArg List.length h
      have h2 := (List.dropWhile_suffix (l := r) (· == (32 : UInt8))).length_le
      simp at h1
      omega
  · rintro ⟨h1, h2⟩
    unfold Lib.trimB
    rw [hR.2 h2]
    unfold Lib.trimLeftB
    rcases l with _ | ⟨c, r⟩
    · rfl
    · rw [List.dropWhile_cons_of_neg (by simpa using fun e : c = 32 => h1 (by rw [e]; rfl))]
theorem trim_blank (s : ByteArray) (w : World) (hs : s.size ≤ 1000000000000000) : Calls Tryz.prog 123 #[.string s, .string ⟨#[32]⟩] w fun e w' => e = .returned (.string ⟨(Lib.trimB s.data.toList 32).toArray⟩) ∧ ∃ n, w' = w.drewN n :=
  (Go.Proofs.Any.strings_Trim_one Tryz.lays160 s 32 (by decide) w (by omega)).mono fun e w' ⟨h1, h2⟩ => ⟨h1, by
    rcases h2 with h | h
    · exact ⟨0, h⟩
    · exact ⟨1, h⟩⟩
theorem step_bad_E {k : Int} {s : ByteArray} (hk : k = 1 ∨ k = 2) (ht : Plan.trimmed s = false) : stepC ⟨k, s, 0⟩ = 54 := by unfold stepC; rw [if_pos hk, if_neg (fun h => by rw [ht] at h; cases h.2)]
theorem step_good_E {k : Int} {s : ByteArray} (hk : k = 1 ∨ k = 2) (ht : Plan.trimmed s = true) : stepC ⟨k, s, 0⟩ = exprE s.data.toList := by unfold stepC; rw [if_pos hk, if_pos ⟨rfl, ht⟩]
theorem trim_test {s : ByteArray} {b : Bool} (h : Plan.trimmed s = b) : (Lib.trimB s.data.toList 32 == s.toList) = b := by
  rw [toList_data, Bool.eq_iff_iff, beq_iff_eq, ← h]
  exact trimB_is s.data.toList
set_option maxHeartbeats 2000000 in
set_option maxRecDepth 100000 in
theorem step_bad (k a : Int) (s : ByteArray) (hs : s.size ≤ 1000000000000000) (hk : k = 1 ∨ k = 2) (ht : Plan.trimmed s = false) (w : World) : Calls Tryz.prog 126 #[.agg #[.int .i64 k, .string s, .int .i64 0], .int .i64 a] w (GivesE a (stepC ⟨k, s, 0⟩) w) := by
  rw [step_bad_E hk ht]
  have tb := trim_test ht
  have HS := Lib.hid hs
  clear ht hs
  rcases hk with rfl | rfl
  all_goals
    go_enter Tryz.func126, Tryz.ntmps126
    go_wp2
    refine draws_tail 12 (by kernel_rfl) (by kernel_rfl) ?_
    simp only [List.take_succ_cons, List.take_zero, List.drop_succ_cons, List.drop_zero]
    repeat (go_big_quiet_step ((go_at_call 123; exact Calls.quiet_of (trim_blank _ _ HS.out))))
    refine wpQuiet_nil ?_
    rintro X ⟨nx, rfl⟩
    go_wp2_with (go_at_call 100; (with_reducible refine (need_no _ _ _).mono ?_); rintro e w1 ⟨rfl, rfl⟩)
    exact ⟨rfl, bdrewN (box_below _ _) _, .inr ⟨by decide, rfl⟩⟩
set_option maxHeartbeats 2000000 in
set_option maxRecDepth 100000 in
theorem step_good (k a : Int) (s : ByteArray) (hs : s.size ≤ 1000000000000000) (hk : k = 1 ∨ k = 2) (ht : Plan.trimmed s = true) (w : World) (hT : Tab w) (hg : 5 < w.heap.size) : Calls Tryz.prog 126 #[.agg #[.int .i64 k, .string s, .int .i64 0], .int .i64 a] w (GivesE a (stepC ⟨k, s, 0⟩) w) := by
  rw [step_good_E hk ht]
  have tb := trim_test ht
  have HS := Lib.hid hs
  have HT := Lib.hid hT
  clear ht hs hT
  obtain ⟨E, hE⟩ : ∃ E, exprE (L s) = E := ⟨_, rfl⟩
  have HE := Lib.hid hE
  have hE2 : exprE s.data.toList = E := hE
  rw [hE2]
  clear hE hE2
  by_cases h0 : E = 0
  · have t0 : ((E : Int) == 0) = true := by simpa using h0
    have H0 := Lib.hid h0
    clear h0
    rcases hk with rfl | rfl
    all_goals
      go_enter Tryz.func126, Tryz.ntmps126
      go_wp2
      go_quiet ((first | (go_at_call 123; exact Calls.quiet_of (trim_blank _ _ HS.out)) | (go_at_call 100; exact Calls.quiet_of_same (need_ok _ _ _))))
      go_wp2_with fail
      refine (parse_calls s _ (HT.out.below (bdrewN (box_below _ _) _)) (by simp; omega)).mono ?_
      rintro e w1 ⟨v, n, rfl, hB, -⟩
      rw [HE.out]
      go_wp2_with (go_at_call 100; (with_reducible refine (need_ok _ _ _).mono ?_); rintro e w1 ⟨rfl, rfl⟩)
      go_end0
      exact ⟨go (bdrewN (box_below _ _) _) hB, .inl ⟨H0.out, rfl⟩⟩
  · have t0 : ((E : Int) == 0) = false := by simpa using h0
    have H0 := Lib.hid h0
    clear h0
    rcases hk with rfl | rfl
    all_goals
      go_enter Tryz.func126, Tryz.ntmps126
      go_wp2
      go_quiet ((first | (go_at_call 123; exact Calls.quiet_of (trim_blank _ _ HS.out)) | (go_at_call 100; exact Calls.quiet_of_same (need_ok _ _ _))))
      go_wp2_with fail
      refine (parse_calls s _ (HT.out.below (bdrewN (box_below _ _) _)) (by simp; omega)).mono ?_
      rintro e w1 ⟨v, n, rfl, hB, -⟩
      rw [HE.out]
      go_wp2_with (go_at_call 100; (with_reducible refine (need_no _ _ _).mono ?_); rintro e w1 ⟨rfl, rfl⟩)
      exact ⟨rfl, go (bdrewN (box_below _ _) _) hB, .inr ⟨H0.out, rfl⟩⟩
theorem checkStep_calls (s : Stp) (a : Int) (hs : s.text.size ≤ 1000000000000000) (w : World) (hT : Tab w) (hg : 5 < w.heap.size) : Calls Tryz.prog 126 #[.agg #[.int .i64 s.kind, .string s.text, .int .i64 s.n], .int .i64 a] w (GivesE a (stepC s) w) := by
  obtain ⟨k, t, n⟩ := s
  by_cases hk : k = 1 ∨ k = 2
  · by_cases hn : n = 0
    · subst hn
      cases ht : Plan.trimmed t
      · exact step_bad k a t hs hk ht w
      · exact step_good k a t hs hk ht w hT hg
    · exact step_n k n a t hk hn w
  · exact step_key k n a t (fun h => hk (.inl h)) (fun h => hk (.inr h)) w
end Go.Proofs.YtkjajlolfcioiaaGreatDoor.Check
