/- The law WindowCovers, walked. -/
import Derived.Test.YtdmflbdcfnpikaaHandSpans
namespace Go.Proofs.Ytdmflbdcfnpikaa.Hand
open Go.RowKit Go.Proofs.Ytdmflbdcfnpikaa Go.Proofs.Ytdmflbdcfnpikaa.Spans Go.Proofs.YtdmflbdcfnpikaaW Go.Proofs.YtdmflbdcfnpikaaW.PrintWords Go.Lib

theorem box3 {w w1 : World} {a b c : Value} {T : TypeId} (h : Below (w.alloc (.cells #[a, b, c] T)).heap.size (w.alloc (.cells #[a, b, c] T)) w1) :
    w1.cell? ⟨w.heap.size, 0, none⟩ = some a ∧ w1.cell? ⟨w.heap.size, 1, none⟩ = some b ∧ w1.cell? ⟨w.heap.size, 2, none⟩ = some c ∧ w.heap.size < w1.heap.size :=
  ⟨(h.cell (p := ⟨w.heap.size, 0, none⟩) (by simp)).trans (by simp), (h.cell (p := ⟨w.heap.size, 1, none⟩) (by simp)).trans (by simp), (h.cell (p := ⟨w.heap.size, 2, none⟩) (by simp)).trans (by simp), by have := h.size; simp at this; omega⟩
theorem box2 {w w1 : World} {a b : Value} {T : TypeId} (h : Below (w.alloc (.cells #[a, b] T)).heap.size (w.alloc (.cells #[a, b] T)) w1) :
    w1.cell? ⟨w.heap.size, 0, none⟩ = some a ∧ w1.cell? ⟨w.heap.size, 1, none⟩ = some b ∧ w.heap.size < w1.heap.size :=
  ⟨(h.cell (p := ⟨w.heap.size, 0, none⟩) (by simp)).trans (by simp), (h.cell (p := ⟨w.heap.size, 1, none⟩) (by simp)).trans (by simp), by have := h.size; simp at this; omega⟩
set_option maxRecDepth 100000 in
set_option maxHeartbeats 1000000 in
theorem Covers_bad (k s l t m : Int) (w : World) (h : ¬ Asked k s l t) : Calls Try.prog 4 #[win k s l, .int .i64 t, .int .i64 m] w fun e w' => e = .returned (.bool true) ∧ Below w.heap.size w w' := by
  have h8 := fun X : World => Of_bad k s l t X h
  by_cases hR : Righted k s l
  · have hT : ¬ (0 ≤ t ∧ t ≤ 1000000000) := fun h' => h ⟨hR, h'⟩
    have hR' := decide_eq_true hR
    have hT' := decide_eq_false hT
    clear hR hT h
    go_enter Try.func4, Try.ntmps4
    go_wp2_with (first
      | (go_at_call 8; go_must (refine (h8 _).mono ?_); rintro e w1 ⟨v1, rfl, ho1, hB1⟩; obtain ⟨A1, c1, rfl, r1⟩ := own_rd ho1; have HB1 := Lib.hid hB1; obtain ⟨b0, b1, b2, hlt⟩ := box3 hB1; clear hB1)
      | (go_at_call 14; go_must (refine (awake_calls _).mono ?_); rintro e w5 ⟨rfl, hB5⟩; have c0 := keep hB5 hlt b0; have c1' := keep hB5 hlt b1; have c2 := keep hB5 hlt b2)
      | (go_at_call 10; go_must (refine (Right_calls k s l _).mono ?_); rw [hR']; rintro e w6 ⟨rfl, hB6⟩)
      | (go_at_call 15; go_must (refine (Time_calls t _).mono ?_); rw [hT']; rintro e w7 ⟨rfl, rfl⟩))
    go_ret
    exact ⟨rfl, bgo (bgo (below_after HB1.out) (Nat.le_refl _) hB5) (Nat.le_refl _) hB6⟩
  · have hR' := decide_eq_false hR
    clear hR h
    go_enter Try.func4, Try.ntmps4
    go_wp2_with (first
      | (go_at_call 8; go_must (refine (h8 _).mono ?_); rintro e w1 ⟨v1, rfl, ho1, hB1⟩; obtain ⟨A1, c1, rfl, r1⟩ := own_rd ho1; have HB1 := Lib.hid hB1; obtain ⟨b0, b1, b2, hlt⟩ := box3 hB1; clear hB1)
      | (go_at_call 14; go_must (refine (awake_calls _).mono ?_); rintro e w5 ⟨rfl, hB5⟩; have c0 := keep hB5 hlt b0; have c1' := keep hB5 hlt b1; have c2 := keep hB5 hlt b2)
      | (go_at_call 10; go_must (refine (Right_calls k s l _).mono ?_); rw [hR']; rintro e w6 ⟨rfl, hB6⟩))
    go_ret
    exact ⟨rfl, bgo (bgo (below_after HB1.out) (Nat.le_refl _) hB5) (Nat.le_refl _) hB6⟩

set_option maxHeartbeats 4000000 in
set_option maxRecDepth 100000 in
theorem Covers_0 (s l t m : Int) (L : List Sp) (w : World) 
    (h8 : ∀ X, Calls Try.prog 8 #[win 0 s l, .int .i64 t] X (OfPost L 0 X))
    (hL : ∀ (j : Nat) (x : Sp), L[j]? = some x → x.1 ≤ t ∧ t < x.2 ∧ IntKind.i64.wrap (x.2 - x.1) = s ∧ False)
    (hstep : ∀ (i : Nat) (x y : Sp), L[i+1]? = some x → L[i]? = some y → IntKind.i64.wrap (x.1 - y.1) = l)
    (hE : (L.length : Int) = 0) :
    Calls Try.prog 4 #[win 0 s l, .int .i64 t, .int .i64 m] w fun e w' => e = .returned (.bool true) ∧ Below w.heap.size w w' := by
  have HL := Lib.hid hL
  have HS := Lib.hid hstep
  clear hL hstep
  skip
  go_enter Try.func4, Try.ntmps4
  go_wp2_with (first
    | (go_at_call 8; go_must (refine (h8 _).mono ?_); rintro e w1 ⟨v1, rfl, ho1, hB1⟩; obtain ⟨A1, c1, rfl, r1⟩ := own_rd ho1; have HB1 := Lib.hid hB1; obtain ⟨b0, b1, b2, hlt⟩ := box3 hB1; clear hB1))
  go_loopw [9] (fun i wr => ∃ j : Nat, j ≤ L.length ∧ i = .int .i64 (j : Int) ∧ Below w1.heap.size w1 wr) (fun i _ => L.length - (intOf i).toNat)
  case atStart => exact ⟨0, by omega, rfl, Below.refl _ _⟩
  case round =>
    obtain ⟨j, hj, rfl, hB⟩ := hrel
    have k0 := keep hB hlt b0
    have k1 := keep hB hlt b1
    have k2 := keep hB hlt b2
    have hlw : w.heap.size < wr.heap.size := Nat.lt_of_lt_of_le hlt hB.size
    by_cases hlt3 : j < L.length
    · exfalso; omega
    · obtain rfl : j = L.length := by omega
      go_wp2_with (go_at_call 14; go_must (refine (awake_calls _).mono ?_); rintro e w5 ⟨rfl, hB5⟩)
      go_ret
      exact ⟨rfl, bgo (bgo (below_after HB1.out) (Nat.le_refl _) hB) (Nat.le_refl _) hB5⟩

set_option maxHeartbeats 4000000 in
set_option maxRecDepth 100000 in
theorem Covers_1 (s l t m : Int) (L : List Sp) (w : World) (ht : t ≤ 1000000000)
    (h8 : ∀ X, Calls Try.prog 8 #[win 1 s l, .int .i64 t] X (OfPost L 0 X))
    (hL : ∀ (j : Nat) (x : Sp), L[j]? = some x → x.1 ≤ t ∧ t < x.2 ∧ IntKind.i64.wrap (x.2 - x.1) = s ∧ x.1.tmod s = 0 ∧ 1 ≤ s)
    (hstep : ∀ (i : Nat) (x y : Sp), L[i+1]? = some x → L[i]? = some y → IntKind.i64.wrap (x.1 - y.1) = l)
    (hE : (L.length : Int) = 1) :
    Calls Try.prog 4 #[win 1 s l, .int .i64 t, .int .i64 m] w fun e w' => e = .returned (.bool true) ∧ Below w.heap.size w w' := by
  have HL := Lib.hid hL
  have HS := Lib.hid hstep
  clear hL hstep
  skip
  go_enter Try.func4, Try.ntmps4
  go_wp2_with (first
    | (go_at_call 8; go_must (refine (h8 _).mono ?_); rintro e w1 ⟨v1, rfl, ho1, hB1⟩; obtain ⟨A1, c1, rfl, r1⟩ := own_rd ho1; have HB1 := Lib.hid hB1; obtain ⟨b0, b1, b2, hlt⟩ := box3 hB1; clear hB1))
  go_loopw [9] (fun i wr => ∃ j : Nat, j ≤ L.length ∧ i = .int .i64 (j : Int) ∧ Below w1.heap.size w1 wr) (fun i _ => L.length - (intOf i).toNat)
  case atStart => exact ⟨0, by omega, rfl, Below.refl _ _⟩
  case round =>
    obtain ⟨j, hj, rfl, hB⟩ := hrel
    have k0 := keep hB hlt b0
    have k1 := keep hB hlt b1
    have k2 := keep hB hlt b2
    have hlw : w.heap.size < wr.heap.size := Nat.lt_of_lt_of_le hlt hB.size
    by_cases hlt3 : j < L.length
    · obtain ⟨x, hx⟩ : ∃ x, L[j]? = some x := ⟨_, List.getElem?_eq_getElem hlt3⟩
      obtain ⟨f1, f2, f3, f4, f6⟩ := HL.out j x hx
      obtain ⟨ad, rfl, x1, x2⟩ := (r1.below hB) j x hx
      obtain ⟨bD, hbD⟩ : ∃ b, b = decide (x.2 ≤ m ∨ m = 1000000001) := ⟨_, rfl⟩
      have h13 := fun X : World => Due_calls x m X
      rw [← hbD] at h13
      have hD : bD = true → t < m := by intro e; rw [e] at hbD; have := of_decide_eq_true hbD.symm; omega
      clear hbD
      rcases j with _ | i
      · clear hx
        simp only [Nat.zero_mul, Addr.add_zero'] at x1 x2
        cases bD
        · clear hD
          go_wp2_with (go_at_call 13; go_must (refine (h13 _).mono ?_); rintro e w4 ⟨rfl, hB4⟩; have k0' := keep (gal hB (Nat.le_refl _) hB4) hlt b0; have k1' := keep (gal hB (Nat.le_refl _) hB4) hlt b1; have k2' := keep (gal hB (Nat.le_refl _) hB4) hlt b2; obtain ⟨z1, z2, _⟩ := box2 hB4)
          go_quiet (fail)
          go_wp2
          go_roundw
          case rel => exact ⟨0 + 1, by omega, by go_num, below_drewN (gal hB (Nat.le_refl _) hB4) _⟩
          case measure => simp [intOf]; omega
        · have hm := hD rfl
          clear hD
          go_wp2_with (go_at_call 13; go_must (refine (h13 _).mono ?_); rintro e w4 ⟨rfl, hB4⟩; have k0' := keep (gal hB (Nat.le_refl _) hB4) hlt b0; have k1' := keep (gal hB (Nat.le_refl _) hB4) hlt b1; have k2' := keep (gal hB (Nat.le_refl _) hB4) hlt b2; obtain ⟨z1, z2, _⟩ := box2 hB4)
          go_quiet (fail)
          go_wp2
          go_roundw
          case rel => exact ⟨0 + 1, by omega, by go_num, below_drewN (gal hB (Nat.le_refl _) hB4) _⟩
          case measure => simp [intOf]; omega
      · exfalso; omega
    · obtain rfl : j = L.length := by omega
      go_wp2_with (go_at_call 14; go_must (refine (awake_calls _).mono ?_); rintro e w5 ⟨rfl, hB5⟩)
      go_ret
      exact ⟨rfl, bgo (bgo (below_after HB1.out) (Nat.le_refl _) hB) (Nat.le_refl _) hB5⟩

set_option maxHeartbeats 4000000 in
set_option maxRecDepth 100000 in
theorem Covers_2 (s l t m : Int) (L : List Sp) (w : World) (hlen : L.length ≤ 5000) (ht : t ≤ 1000000000)
    (h8 : ∀ X, Calls Try.prog 8 #[win 2 s l, .int .i64 t] X (OfPost L 0 X))
    (hL : ∀ (j : Nat) (x : Sp), L[j]? = some x → x.1 ≤ t ∧ t < x.2 ∧ IntKind.i64.wrap (x.2 - x.1) = s ∧ x.1.tmod l = 0)
    (hstep : ∀ (i : Nat) (x y : Sp), L[i+1]? = some x → L[i]? = some y → IntKind.i64.wrap (x.1 - y.1) = l)
    (hl : 1 ≤ l) (hs : 0 ≤ s) (a r : Int) (ha0 : 0 ≤ a) (ha1 : a ≤ 5000) (qa : s.tdiv l = a) (qr : s % l = r) (hH : ((L.length : Int) == a) = true ∨ (((L.length : Int) == a) = false ∧ ((L.length : Int) == a + 1) = true ∧ (r != 0) = true)) :
    Calls Try.prog 4 #[win 2 s l, .int .i64 t, .int .i64 m] w fun e w' => e = .returned (.bool true) ∧ Below w.heap.size w w' := by
  have HL := Lib.hid hL
  have HS := Lib.hid hstep
  clear hL hstep
  have hlz : ¬ l = 0 := by omega
  have QA := Lib.hid qa
  have QR := Lib.hid qr
  clear qa qr
  go_enter Try.func4, Try.ntmps4
  go_wp2_with (first
    | (go_at_call 8; go_must (refine (h8 _).mono ?_); rintro e w1 ⟨v1, rfl, ho1, hB1⟩; obtain ⟨A1, c1, rfl, r1⟩ := own_rd ho1; have HB1 := Lib.hid hB1; obtain ⟨b0, b1, b2, hlt⟩ := box3 hB1; clear hB1))
  go_loopw [9] (fun i wr => ∃ j : Nat, j ≤ L.length ∧ i = .int .i64 (j : Int) ∧ Below w1.heap.size w1 wr) (fun i _ => L.length - (intOf i).toNat)
  case atStart => exact ⟨0, by omega, rfl, Below.refl _ _⟩
  case round =>
    obtain ⟨j, hj, rfl, hB⟩ := hrel
    have k0 := keep hB hlt b0
    have k1 := keep hB hlt b1
    have k2 := keep hB hlt b2
    have hlw : w.heap.size < wr.heap.size := Nat.lt_of_lt_of_le hlt hB.size
    by_cases hlt3 : j < L.length
    · obtain ⟨x, hx⟩ : ∃ x, L[j]? = some x := ⟨_, List.getElem?_eq_getElem hlt3⟩
      obtain ⟨f1, f2, f3, f4⟩ := HL.out j x hx
      obtain ⟨ad, rfl, x1, x2⟩ := (r1.below hB) j x hx
      obtain ⟨bD, hbD⟩ : ∃ b, b = decide (x.2 ≤ m ∨ m = 1000000001) := ⟨_, rfl⟩
      have h13 := fun X : World => Due_calls x m X
      rw [← hbD] at h13
      have hD : bD = true → t < m := by intro e; rw [e] at hbD; have := of_decide_eq_true hbD.symm; omega
      clear hbD
      rcases j with _ | i
      · clear hx
        simp only [Nat.zero_mul, Addr.add_zero'] at x1 x2
        cases bD
        · clear hD
          go_wp2_with (go_at_call 13; go_must (refine (h13 _).mono ?_); rintro e w4 ⟨rfl, hB4⟩; have k0' := keep (gal hB (Nat.le_refl _) hB4) hlt b0; have k1' := keep (gal hB (Nat.le_refl _) hB4) hlt b1; have k2' := keep (gal hB (Nat.le_refl _) hB4) hlt b2; obtain ⟨z1, z2, _⟩ := box2 hB4)
          go_quiet (fail)
          go_wp2
          go_roundw
          case rel => exact ⟨0 + 1, by omega, by go_num, below_drewN (gal hB (Nat.le_refl _) hB4) _⟩
          case measure => simp [intOf]; omega
        · have hm := hD rfl
          clear hD
          go_wp2_with (go_at_call 13; go_must (refine (h13 _).mono ?_); rintro e w4 ⟨rfl, hB4⟩; have k0' := keep (gal hB (Nat.le_refl _) hB4) hlt b0; have k1' := keep (gal hB (Nat.le_refl _) hB4) hlt b1; have k2' := keep (gal hB (Nat.le_refl _) hB4) hlt b2; obtain ⟨z1, z2, _⟩ := box2 hB4)
          go_quiet (fail)
          go_wp2
          go_roundw
          case rel => exact ⟨0 + 1, by omega, by go_num, below_drewN (gal hB (Nat.le_refl _) hB4) _⟩
          case measure => simp [intOf]; omega
      · obtain ⟨y, hy⟩ : ∃ y, L[i]? = some y := ⟨_, List.getElem?_eq_getElem (by omega)⟩
        obtain ⟨ad', e, y1, y2⟩ := (r1.below hB) i y hy
        obtain rfl := Option.some.inj e
        have f5 := HS.out i x y hx hy
        have e1 : (i : Int) + 1 - 1 = i := by omega
        have yb := lt_of_cell y1
        clear hx hy
        cases bD
        · clear hD
          go_wp2_with (go_at_call 13; go_must (refine (h13 _).mono ?_); rintro e w4 ⟨rfl, hB4⟩; have k0' := keep (gal hB (Nat.le_refl _) hB4) hlt b0; have k1' := keep (gal hB (Nat.le_refl _) hB4) hlt b1; have k2' := keep (gal hB (Nat.le_refl _) hB4) hlt b2; obtain ⟨z1, z2, _⟩ := box2 hB4; have y1' := ((below_after hB4).cell yb).trans y1)
          go_quiet (fail)
          go_wp2
          go_roundw
          case rel => exact ⟨i + 1 + 1, by omega, by go_num, below_drewN (gal hB (Nat.le_refl _) hB4) _⟩
          case measure => simp [intOf]; omega
        · have hm := hD rfl
          clear hD
          go_wp2_with (go_at_call 13; go_must (refine (h13 _).mono ?_); rintro e w4 ⟨rfl, hB4⟩; have k0' := keep (gal hB (Nat.le_refl _) hB4) hlt b0; have k1' := keep (gal hB (Nat.le_refl _) hB4) hlt b1; have k2' := keep (gal hB (Nat.le_refl _) hB4) hlt b2; obtain ⟨z1, z2, _⟩ := box2 hB4; have y1' := ((below_after hB4).cell yb).trans y1)
          go_quiet (fail)
          go_wp2
          go_roundw
          case rel => exact ⟨i + 1 + 1, by omega, by go_num, below_drewN (gal hB (Nat.le_refl _) hB4) _⟩
          case measure => simp [intOf]; omega
    · obtain rfl : j = L.length := by omega
      have qa := QA.out
      have wa : IntKind.i64.wrap a = a := by rw [IntKind.wrap_i64]; omega
      have qr := QR.out
      have HH := Lib.hid hH
      clear hH
      rcases HH.out with hH | hH
      · go_wp2_with (go_at_call 14; go_must (refine (awake_calls _).mono ?_); rintro e w5 ⟨rfl, hB5⟩; have k1' := keep hB5 (Nat.lt_of_lt_of_le hlt hB.size) k1; have k2' := keep hB5 (Nat.lt_of_lt_of_le hlt hB.size) k2)
        go_ret
        exact ⟨rfl, bgo (bgo (below_after HB1.out) (Nat.le_refl _) hB) (Nat.le_refl _) hB5⟩
      · obtain ⟨hH1, hH2, hH3⟩ := hH
        go_wp2_with (go_at_call 14; go_must (refine (awake_calls _).mono ?_); rintro e w5 ⟨rfl, hB5⟩; have k1' := keep hB5 (Nat.lt_of_lt_of_le hlt hB.size) k1; have k2' := keep hB5 (Nat.lt_of_lt_of_le hlt hB.size) k2)
        go_ret
        exact ⟨rfl, bgo (bgo (below_after HB1.out) (Nat.le_refl _) hB) (Nat.le_refl _) hB5⟩

set_option maxHeartbeats 4000000 in
set_option maxRecDepth 100000 in
theorem Covers_3 (s l t m : Int) (L : List Sp) (w : World) (ht : t ≤ 1000000000)
    (h8 : ∀ X, Calls Try.prog 8 #[win 3 s l, .int .i64 t] X (OfPost L 0 X))
    (hL : ∀ (j : Nat) (x : Sp), L[j]? = some x → x.1 ≤ t ∧ t < x.2 ∧ IntKind.i64.wrap (x.2 - x.1) = s ∧ (x.1 == t) = true)
    (hstep : ∀ (i : Nat) (x y : Sp), L[i+1]? = some x → L[i]? = some y → IntKind.i64.wrap (x.1 - y.1) = l)
    (hE : (L.length : Int) = 1) :
    Calls Try.prog 4 #[win 3 s l, .int .i64 t, .int .i64 m] w fun e w' => e = .returned (.bool true) ∧ Below w.heap.size w w' := by
  have HL := Lib.hid hL
  have HS := Lib.hid hstep
  clear hL hstep
  skip
  go_enter Try.func4, Try.ntmps4
  go_wp2_with (first
    | (go_at_call 8; go_must (refine (h8 _).mono ?_); rintro e w1 ⟨v1, rfl, ho1, hB1⟩; obtain ⟨A1, c1, rfl, r1⟩ := own_rd ho1; have HB1 := Lib.hid hB1; obtain ⟨b0, b1, b2, hlt⟩ := box3 hB1; clear hB1))
  go_loopw [9] (fun i wr => ∃ j : Nat, j ≤ L.length ∧ i = .int .i64 (j : Int) ∧ Below w1.heap.size w1 wr) (fun i _ => L.length - (intOf i).toNat)
  case atStart => exact ⟨0, by omega, rfl, Below.refl _ _⟩
  case round =>
    obtain ⟨j, hj, rfl, hB⟩ := hrel
    have k0 := keep hB hlt b0
    have k1 := keep hB hlt b1
    have k2 := keep hB hlt b2
    have hlw : w.heap.size < wr.heap.size := Nat.lt_of_lt_of_le hlt hB.size
    by_cases hlt3 : j < L.length
    · obtain ⟨x, hx⟩ : ∃ x, L[j]? = some x := ⟨_, List.getElem?_eq_getElem hlt3⟩
      obtain ⟨f1, f2, f3, f4⟩ := HL.out j x hx
      obtain ⟨ad, rfl, x1, x2⟩ := (r1.below hB) j x hx
      obtain ⟨bD, hbD⟩ : ∃ b, b = decide (x.2 ≤ m ∨ m = 1000000001) := ⟨_, rfl⟩
      have h13 := fun X : World => Due_calls x m X
      rw [← hbD] at h13
      have hD : bD = true → t < m := by intro e; rw [e] at hbD; have := of_decide_eq_true hbD.symm; omega
      clear hbD
      rcases j with _ | i
      · clear hx
        simp only [Nat.zero_mul, Addr.add_zero'] at x1 x2
        cases bD
        · clear hD
          go_wp2_with (go_at_call 13; go_must (refine (h13 _).mono ?_); rintro e w4 ⟨rfl, hB4⟩; have k0' := keep (gal hB (Nat.le_refl _) hB4) hlt b0; have k1' := keep (gal hB (Nat.le_refl _) hB4) hlt b1; have k2' := keep (gal hB (Nat.le_refl _) hB4) hlt b2; obtain ⟨z1, z2, _⟩ := box2 hB4)
          go_quiet (fail)
          go_wp2
          go_roundw
          case rel => exact ⟨0 + 1, by omega, by go_num, below_drewN (gal hB (Nat.le_refl _) hB4) _⟩
          case measure => simp [intOf]; omega
        · have hm := hD rfl
          clear hD
          go_wp2_with (go_at_call 13; go_must (refine (h13 _).mono ?_); rintro e w4 ⟨rfl, hB4⟩; have k0' := keep (gal hB (Nat.le_refl _) hB4) hlt b0; have k1' := keep (gal hB (Nat.le_refl _) hB4) hlt b1; have k2' := keep (gal hB (Nat.le_refl _) hB4) hlt b2; obtain ⟨z1, z2, _⟩ := box2 hB4)
          go_quiet (fail)
          go_wp2
          go_roundw
          case rel => exact ⟨0 + 1, by omega, by go_num, below_drewN (gal hB (Nat.le_refl _) hB4) _⟩
          case measure => simp [intOf]; omega
      · exfalso; omega
    · obtain rfl : j = L.length := by omega
      go_wp2_with (go_at_call 14; go_must (refine (awake_calls _).mono ?_); rintro e w5 ⟨rfl, hB5⟩)
      go_ret
      exact ⟨rfl, bgo (bgo (below_after HB1.out) (Nat.le_refl _) hB) (Nat.le_refl _) hB5⟩

theorem slide_get {s l p : Int} {n j : Nat} {x : Sp} (h : (slideL s l p n)[j]? = some x) : j < n ∧ x = (l * (p + 1 + (j : Int)), l * (p + 1 + (j : Int)) + s) := by
  have hj := (List.getElem?_eq_some_iff.1 h).1
  rw [slideL_length] at hj
  unfold slideL at h
  rw [List.getElem?_map, List.getElem?_range hj] at h
  simp only [Option.map_some, Option.some.injEq] at h
  exact ⟨hj, h.symm⟩
theorem wrap_of {a b : Int} (h : a = b) (h1 : -1000000 ≤ b) (h2 : b ≤ 1000000) : IntKind.i64.wrap a = b := by
  rw [h, IntKind.wrap_i64]; omega
theorem slide_count (s l t : Int) (n : Nat) (hl : 1 ≤ l) (h0 : 0 ≤ s) (hn : (n : Int) = t / l - (t - s) / l) : (n : Int) = s.tdiv l ∨ ((n : Int) = s.tdiv l + 1 ∧ s % l ≠ 0) := by
  have a1 := Int.mul_ediv_add_emod t l
  have a2 := Int.emod_nonneg t (show l ≠ 0 by omega)
  have a3 := Int.emod_lt_of_pos t (show 0 < l by omega)
  have b1 := Int.mul_ediv_add_emod (t - s) l
  have b2 := Int.emod_nonneg (t - s) (show l ≠ 0 by omega)
  have b3 := Int.emod_lt_of_pos (t - s) (show 0 < l by omega)
  have c1 := Int.mul_ediv_add_emod s l
  have c2 := Int.emod_nonneg s (show l ≠ 0 by omega)
  have c3 := Int.emod_lt_of_pos s (show 0 < l by omega)
  rw [Int.tdiv_eq_ediv_of_nonneg h0]
  obtain ⟨q, hq⟩ : ∃ q, q = t / l := ⟨_, rfl⟩
  obtain ⟨p, hp⟩ : ∃ p, p = (t - s) / l := ⟨_, rfl⟩
  obtain ⟨a, ha⟩ : ∃ a, a = s / l := ⟨_, rfl⟩
  rw [← hq] at a1 hn
  rw [← hp] at b1 hn
  rw [← ha] at c1 ⊢
  have e : l * ((n : Int) - a) = l * q - l * p - l * a := by rw [hn, Int.mul_sub, Int.mul_sub]
  have d1 : ¬ (n : Int) - a ≤ -1 := by
    intro h
    have := Int.mul_le_mul_of_nonneg_left h (show 0 ≤ l by omega)
    omega
  have d2 : ¬ 2 ≤ (n : Int) - a := by
    intro h
    have := Int.mul_le_mul_of_nonneg_left h (show 0 ≤ l by omega)
    omega
  rcases (show (n : Int) - a = 0 ∨ (n : Int) - a = 1 by omega) with h | h
  · exact .inl (by omega)
  · rw [h] at e
    exact .inr ⟨by omega, by omega⟩

/-- the law WindowCovers. -/
theorem WindowCovers_calls (k s l t m : Int) (w : World) : Calls Try.prog 4 #[win k s l, .int .i64 t, .int .i64 m] w fun e w' => e = .returned (.bool true) ∧ Below w.heap.size w w' := by
  by_cases h : Asked k s l t
  · have h8 := fun X => Of_good k s l t X h
    have hlen := ofL_short k s l t h
    obtain ⟨hR, ht0, ht1⟩ := h
    rcases hR with ⟨rfl, rfl, rfl⟩ | ⟨hk | hk, hs1, hs2, rfl⟩ | ⟨rfl, hs1, hs2, hl1, hl2, hl3⟩
    · exact Covers_0 0 0 t m [] w h8 (fun j x hj => by cases hj) (fun i x y hj => by cases hj) rfl
    · subst hk
      have e1 := Int.emod_nonneg t (show s ≠ 0 by omega)
      have e2 := Int.emod_lt_of_pos t (show 0 < s by omega)
      refine Covers_1 s 0 t m _ w ht1 h8 (fun j x hj => ?_) (fun i x y hj => ?_) (by simp [ofL])
      · have hj' : [((t - t % s, t - t % s + s) : Sp)][j]? = some x := hj
        rcases j with _ | j
        · obtain rfl : (t - t % s, t - t % s + s) = x := by simpa using hj'
          refine ⟨by simp only; omega, by simp only; omega, wrap_of (by simp only; omega) (by omega) (by omega), ?_, hs1⟩
          have e3 := Int.mul_ediv_add_emod t s
          show (t - t % s).tmod s = 0
          rw [show t - t % s = s * (t / s) by omega]
          exact Int.mul_tmod_right _ _
        · simp at hj'
      · have hj' : [((t - t % s, t - t % s + s) : Sp)][i+1]? = some x := hj
        simp at hj'
    · subst hk
      refine Covers_3 s 0 t m _ w ht1 h8 (fun j x hj => ?_) (fun i x y hj => ?_) (by simp [ofL])
      · have hj' : [((t, t + s) : Sp)][j]? = some x := hj
        rcases j with _ | j
        · obtain rfl : (t, t + s) = x := by simpa using hj'
          exact ⟨by simp, by simp only; omega, wrap_of (by simp only; omega) (by omega) (by omega), by simp⟩
        · simp at hj'
      · have hj' : [((t, t + s) : Sp)][i+1]? = some x := hj
        simp at hj'
    · obtain ⟨n, hn, hn1, hn16, a1, a2, b1, b2⟩ := slide_num s l t hl1 hl2 hl3
      have hL : ofL 2 s l t = slideL s l ((t - s) / l) n := by
        show slideL s l ((t - s) / l) (t / l - (t - s) / l).toNat = _
        rw [← hn]; simp
      have hcnt := slide_count s l t n hl1 (by omega) hn
      have ha := Int.mul_ediv_add_emod s l
      have ha2 := Int.emod_nonneg s (show l ≠ 0 by omega)
      have ha3 := Int.emod_lt_of_pos s (show 0 < l by omega)
      rw [hL] at h8 hlen
      refine Covers_2 s l t m _ w hlen ht1 h8 (fun j x hj => ?_) (fun i x y hj hy => ?_) hl1 (by omega) (s.tdiv l) (s % l) (by rcases hcnt with h | h <;> omega) (by rcases hcnt with h | h <;> omega) rfl rfl ?_
      · obtain ⟨hj', rfl⟩ := slide_get hj
        have c1 : l * ((t - s) / l + 1 + (j : Int)) ≤ l * (t / l) := Int.mul_le_mul_of_nonneg_left (by omega) (by omega)
        have c2 : l * ((t - s) / l + 1) ≤ l * ((t - s) / l + 1 + (j : Int)) := Int.mul_le_mul_of_nonneg_left (by omega) (by omega)
        rw [Int.mul_add l _ 1] at c2
        exact ⟨by simp only; omega, by simp only; omega, wrap_of (by simp only; omega) (by omega) (by omega), Int.mul_tmod_right _ _⟩
      · obtain ⟨_, rfl⟩ := slide_get hj
        obtain ⟨_, rfl⟩ := slide_get hy
        refine wrap_of ?_ (by omega) (by omega)
        simp only
        rw [← Int.mul_sub, show (t - s) / l + 1 + ((i + 1 : Nat) : Int) - ((t - s) / l + 1 + (i : Int)) = 1 by omega, Int.mul_one]
      · rw [slideL_length]
        rcases hcnt with h | ⟨h1, h2⟩
        · exact .inl (by rw [beq_iff_eq]; exact h)
        · exact .inr ⟨by rw [beq_eq_false_iff_ne]; omega, by rw [beq_iff_eq]; exact h1, by rw [bne_iff_ne]; exact h2⟩
  · exact Covers_bad k s l t m w h
end Go.Proofs.Ytdmflbdcfnpikaa.Hand
