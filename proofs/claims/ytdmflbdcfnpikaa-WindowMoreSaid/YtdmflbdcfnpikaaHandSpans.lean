/- The law WindowSpans, walked. -/
import Derived.Test.YtdmflbdcfnpikaaHandRefOf
import Derived.Deep.RegionHeld
namespace Go.Proofs.Ytdmflbdcfnpikaa.Hand
open Go.RowKit Go.Proofs.Ytdmflbdcfnpikaa Go.Proofs.Ytdmflbdcfnpikaa.Spans Go.Proofs.YtdmflbdcfnpikaaW Go.Proofs.YtdmflbdcfnpikaaW.PrintWords Go.Lib

theorem keepS {W X Y : World} {B b : Nat} {v0 v1 v2 : Value} (k : Below X.heap.size X Y)
    (h : Below B W X ∧ X.cell? ⟨b, 0, none⟩ = some v0 ∧ X.cell? ⟨b, 1, none⟩ = some v1 ∧ X.cell? ⟨b, 2, none⟩ = some v2) (hb : B ≤ W.heap.size) :
    Below B W Y ∧ Y.cell? ⟨b, 0, none⟩ = some v0 ∧ Y.cell? ⟨b, 1, none⟩ = some v1 ∧ Y.cell? ⟨b, 2, none⟩ = some v2 :=
  ⟨bgo h.1 hb k, (k.cell (lt_of_cell h.2.1)).trans h.2.1, (k.cell (lt_of_cell h.2.2.1)).trans h.2.2.1, (k.cell (lt_of_cell h.2.2.2)).trans h.2.2.2⟩

theorem keepT {X Y W : World} {B : Nat} {a b : Addr} {v0 v1 : Value} (k : Below X.heap.size X Y)
    (h : Below B W X ∧ X.cell? a = some v0 ∧ X.cell? b = some v1) (hb : B ≤ W.heap.size) : Below B W Y ∧ Y.cell? a = some v0 ∧ Y.cell? b = some v1 :=
  ⟨bgo h.1 hb k, (k.cell (lt_of_cell h.2.1)).trans h.2.1, (k.cell (lt_of_cell h.2.2)).trans h.2.2⟩

set_option maxHeartbeats 16000000 in
set_option maxRecDepth 100000 in
theorem Spans_core (k s l t m : Int) (L : List Sp) (er : Int) (ok : Bool) (w : World) (hc : (er = 0 ∧ ok = true) ∨ (er = 1 ∧ ok = false)) (hlen : L.length ≤ 5000)
    (h8 : ∀ X, Calls Try.prog 8 #[win k s l, .int .i64 t] X (OfPost L er X)) (h9 : ∀ X, Calls Try.prog 9 #[win k s l, .int .i64 t] X (OfRPost L ok X)) :
    Calls Try.prog 3 #[win k s l, .int .i64 t, .int .i64 m] w fun e w' => e = .returned (.bool true) ∧ Below w.heap.size w w' := by
  obtain ⟨bR, hbR⟩ : ∃ b, b = decide (Righted k s l) := ⟨_, rfl⟩
  have h10 := fun X : World => Right_calls k s l X
  have h11 := fun X : World => RightR_calls k s l X
  rw [← hbR] at h10 h11
  clear hbR
  go_enter Try.func3, Try.ntmps3
  go_wp2_with (first
    | (go_at_call 8; go_must (refine (h8 _).mono ?_); rintro e w1 ⟨v1, rfl, ho1, hB1⟩; obtain ⟨A1, c1, rfl, r1⟩ := own_rd ho1; have HB1 := Lib.hid hB1; have b0 := (hB1.cell (p := ⟨w.heap.size, 0, none⟩) (by simp)).trans (by simp; rfl); have b1 := (hB1.cell (p := ⟨w.heap.size, 1, none⟩) (by simp)).trans (by simp; rfl); have b2 := (hB1.cell (p := ⟨w.heap.size, 2, none⟩) (by simp)).trans (by simp; rfl))
    | (go_at_call 9; go_must (refine (h9 _).mono ?_); rintro e w2 ⟨v2, rfl, ho2, hB2⟩; obtain ⟨A2, c2, rfl, r2⟩ := own_rd ho2; replace r1 := r1.below hB2))
  have hlt : w.heap.size < w1.heap.size := by have := HB1.out.size; simp at this; omega
  have e0 := keep hB2 hlt b0
  have e1 := keep hB2 hlt b1
  have e2 := keep hB2 hlt b2
  have hBw : Below w.heap.size w w2 := bgo (below_after HB1.out) (Nat.le_refl _) hB2
  clear hB1 b0 b1 b2 hB2
  rcases hc with ⟨rfl, rfl⟩ | ⟨rfl, rfl⟩
  · first | (go_region_held (fun w' => Below w2.heap.size w2 w' ∧ w'.cell? ⟨w.heap.size, 0, none⟩ = some (.int .i64 k) ∧ w'.cell? ⟨w.heap.size, 1, none⟩ = some (.int .i64 s) ∧ w'.cell? ⟨w.heap.size, 2, none⟩ = some (.int .i64 l)) (first | assumption | exact ⟨⟨rfl, rfl, rfl, Nat.le_refl _, fun _ _ => rfl⟩, e0, e1, e2⟩ | exact keepS (by assumption) (by assumption) (Nat.le_refl _)) ((first
      | (go_at_call 10; go_must (refine (h10 _).mono ?_); rintro e w3 ⟨rfl, hB3⟩)
      | (go_at_call 11; go_must (refine (h11 _).mono ?_); rintro e w3 ⟨rfl, hB3⟩)
      | (go_at_call 12; go_must (refine (same_yes L _ _ _ _ _ (r1.below (And.left (by assumption))) (r2.below (And.left (by assumption))) hlen).mono ?_); rintro e w3 ⟨rfl, hB3⟩)))) | fail "held"
    have hB3w : Below w.heap.size w w3 := bgo hBw (Nat.le_refl _) (And.left (by assumption : Below w2.heap.size w2 w3 ∧ _))
    replace r1 := r1.below (And.left (by assumption : Below w2.heap.size w2 w3 ∧ _))
    clear r2 ho1 ho2 h8 h9 h10 h11
    go_wp2
    go_loopw [11] (fun i wr => ∃ j : Nat, j ≤ L.length ∧ i = .int .i64 (j : Int) ∧ Below w3.heap.size w3 wr) (fun i _ => L.length - (intOf i).toNat)
    case atStart => exact ⟨0, by omega, rfl, Below.refl _ _⟩
    case round =>
      obtain ⟨j, hj, rfl, hB⟩ := hrel
      by_cases hlt3 : j < L.length
      · obtain ⟨x, hx⟩ : ∃ x, L[j]? = some x := ⟨_, List.getElem?_eq_getElem hlt3⟩
        obtain ⟨ad, rfl, x1, x2⟩ := (r1.below hB) j x hx
        by_cases d1 : x.2 ≤ m
        · have DD := decide_eq_true (show x.2 ≤ m ∨ m = 1000000001 from .inl d1)
          clear hx
          go_wp2
          first | (go_region_held (fun w' => Below wr.heap.size wr w' ∧ w'.cell? (ad.add (j * 2)) = some (.int .i64 x.1) ∧ w'.cell? ⟨(ad.add (j * 2)).block, (ad.add (j * 2)).off + 1, none⟩ = some (.int .i64 x.2)) (first | assumption | exact ⟨⟨rfl, rfl, rfl, Nat.le_refl _, fun _ _ => rfl⟩, x1, x2⟩ | exact keepT (by assumption) (by assumption) (Nat.le_refl _)) ((go_at_call 13; go_must (refine (Due_calls x m _).mono ?_); rw [DD]; rintro e w4 ⟨rfl, hB4⟩))) | fail "held"
          go_wp2
          go_roundw
          case rel => exact ⟨j + 1, by omega, by go_num, bgo hB (Nat.le_refl _) (And.left (by assumption : Below wr.heap.size wr w4 ∧ _))⟩
          case measure => simp [intOf]; omega
        · by_cases d2 : m = 1000000001
          · have DD := decide_eq_true (show x.2 ≤ m ∨ m = 1000000001 from .inr d2)
            have DM : (m == 1000000001) = true := by rw [d2]; rfl
            clear hx d2
            go_wp2
            first | (go_region_held (fun w' => Below wr.heap.size wr w' ∧ w'.cell? (ad.add (j * 2)) = some (.int .i64 x.1) ∧ w'.cell? ⟨(ad.add (j * 2)).block, (ad.add (j * 2)).off + 1, none⟩ = some (.int .i64 x.2)) (first | assumption | exact ⟨⟨rfl, rfl, rfl, Nat.le_refl _, fun _ _ => rfl⟩, x1, x2⟩ | exact keepT (by assumption) (by assumption) (Nat.le_refl _)) ((go_at_call 13; go_must (refine (Due_calls x m _).mono ?_); rw [DD]; rintro e w4 ⟨rfl, hB4⟩))) | fail "held"
            go_wp2
            go_roundw
            case rel => exact ⟨j + 1, by omega, by go_num, bgo hB (Nat.le_refl _) (And.left (by assumption : Below wr.heap.size wr w4 ∧ _))⟩
            case measure => simp [intOf]; omega
          · have DD := decide_eq_false (show ¬ (x.2 ≤ m ∨ m = 1000000001) by omega)
            have DM : (m == 1000000001) = false := by simpa using d2
            have DL : decide (x.2 ≤ m) = false := by simpa using d1
            clear hx d2
            go_wp2
            first | (go_region_held (fun w' => Below wr.heap.size wr w' ∧ w'.cell? (ad.add (j * 2)) = some (.int .i64 x.1) ∧ w'.cell? ⟨(ad.add (j * 2)).block, (ad.add (j * 2)).off + 1, none⟩ = some (.int .i64 x.2)) (first | assumption | exact ⟨⟨rfl, rfl, rfl, Nat.le_refl _, fun _ _ => rfl⟩, x1, x2⟩ | exact keepT (by assumption) (by assumption) (Nat.le_refl _)) ((go_at_call 13; go_must (refine (Due_calls x m _).mono ?_); rw [DD]; rintro e w4 ⟨rfl, hB4⟩))) | fail "held"
            go_wp2
            go_roundw
            case rel => exact ⟨j + 1, by omega, by go_num, bgo hB (Nat.le_refl _) (And.left (by assumption : Below wr.heap.size wr w4 ∧ _))⟩
            case measure => simp [intOf]; omega
      · obtain rfl : j = L.length := by omega
        go_wp2_with (go_at_call 14; go_must (refine (awake_calls _).mono ?_); rintro e w5 ⟨rfl, hB5⟩)
        go_ret
        exact ⟨rfl, bgo (bgo hB3w (Nat.le_refl _) hB) (Nat.le_refl _) hB5⟩
  · first | (go_region_held (fun w' => Below w2.heap.size w2 w' ∧ w'.cell? ⟨w.heap.size, 0, none⟩ = some (.int .i64 k) ∧ w'.cell? ⟨w.heap.size, 1, none⟩ = some (.int .i64 s) ∧ w'.cell? ⟨w.heap.size, 2, none⟩ = some (.int .i64 l)) (first | assumption | exact ⟨⟨rfl, rfl, rfl, Nat.le_refl _, fun _ _ => rfl⟩, e0, e1, e2⟩ | exact keepS (by assumption) (by assumption) (Nat.le_refl _)) ((first
      | (go_at_call 10; go_must (refine (h10 _).mono ?_); rintro e w3 ⟨rfl, hB3⟩)
      | (go_at_call 11; go_must (refine (h11 _).mono ?_); rintro e w3 ⟨rfl, hB3⟩)
      | (go_at_call 12; go_must (refine (same_yes L _ _ _ _ _ (r1.below (And.left (by assumption))) (r2.below (And.left (by assumption))) hlen).mono ?_); rintro e w3 ⟨rfl, hB3⟩)))) | fail "held"
    have hB3w : Below w.heap.size w w3 := bgo hBw (Nat.le_refl _) (And.left (by assumption : Below w2.heap.size w2 w3 ∧ _))
    replace r1 := r1.below (And.left (by assumption : Below w2.heap.size w2 w3 ∧ _))
    clear r2 ho1 ho2 h8 h9 h10 h11
    go_wp2
    go_loopw [11] (fun i wr => ∃ j : Nat, j ≤ L.length ∧ i = .int .i64 (j : Int) ∧ Below w3.heap.size w3 wr) (fun i _ => L.length - (intOf i).toNat)
    case atStart => exact ⟨0, by omega, rfl, Below.refl _ _⟩
    case round =>
      obtain ⟨j, hj, rfl, hB⟩ := hrel
      by_cases hlt3 : j < L.length
      · obtain ⟨x, hx⟩ : ∃ x, L[j]? = some x := ⟨_, List.getElem?_eq_getElem hlt3⟩
        obtain ⟨ad, rfl, x1, x2⟩ := (r1.below hB) j x hx
        by_cases d1 : x.2 ≤ m
        · have DD := decide_eq_true (show x.2 ≤ m ∨ m = 1000000001 from .inl d1)
          clear hx
          go_wp2
          first | (go_region_held (fun w' => Below wr.heap.size wr w' ∧ w'.cell? (ad.add (j * 2)) = some (.int .i64 x.1) ∧ w'.cell? ⟨(ad.add (j * 2)).block, (ad.add (j * 2)).off + 1, none⟩ = some (.int .i64 x.2)) (first | assumption | exact ⟨⟨rfl, rfl, rfl, Nat.le_refl _, fun _ _ => rfl⟩, x1, x2⟩ | exact keepT (by assumption) (by assumption) (Nat.le_refl _)) ((go_at_call 13; go_must (refine (Due_calls x m _).mono ?_); rw [DD]; rintro e w4 ⟨rfl, hB4⟩))) | fail "held"
          go_wp2
          go_roundw
          case rel => exact ⟨j + 1, by omega, by go_num, bgo hB (Nat.le_refl _) (And.left (by assumption : Below wr.heap.size wr w4 ∧ _))⟩
          case measure => simp [intOf]; omega
        · by_cases d2 : m = 1000000001
          · have DD := decide_eq_true (show x.2 ≤ m ∨ m = 1000000001 from .inr d2)
            have DM : (m == 1000000001) = true := by rw [d2]; rfl
            clear hx d2
            go_wp2
            first | (go_region_held (fun w' => Below wr.heap.size wr w' ∧ w'.cell? (ad.add (j * 2)) = some (.int .i64 x.1) ∧ w'.cell? ⟨(ad.add (j * 2)).block, (ad.add (j * 2)).off + 1, none⟩ = some (.int .i64 x.2)) (first | assumption | exact ⟨⟨rfl, rfl, rfl, Nat.le_refl _, fun _ _ => rfl⟩, x1, x2⟩ | exact keepT (by assumption) (by assumption) (Nat.le_refl _)) ((go_at_call 13; go_must (refine (Due_calls x m _).mono ?_); rw [DD]; rintro e w4 ⟨rfl, hB4⟩))) | fail "held"
            go_wp2
            go_roundw
            case rel => exact ⟨j + 1, by omega, by go_num, bgo hB (Nat.le_refl _) (And.left (by assumption : Below wr.heap.size wr w4 ∧ _))⟩
            case measure => simp [intOf]; omega
          · have DD := decide_eq_false (show ¬ (x.2 ≤ m ∨ m = 1000000001) by omega)
            have DM : (m == 1000000001) = false := by simpa using d2
            have DL : decide (x.2 ≤ m) = false := by simpa using d1
            clear hx d2
            go_wp2
            first | (go_region_held (fun w' => Below wr.heap.size wr w' ∧ w'.cell? (ad.add (j * 2)) = some (.int .i64 x.1) ∧ w'.cell? ⟨(ad.add (j * 2)).block, (ad.add (j * 2)).off + 1, none⟩ = some (.int .i64 x.2)) (first | assumption | exact ⟨⟨rfl, rfl, rfl, Nat.le_refl _, fun _ _ => rfl⟩, x1, x2⟩ | exact keepT (by assumption) (by assumption) (Nat.le_refl _)) ((go_at_call 13; go_must (refine (Due_calls x m _).mono ?_); rw [DD]; rintro e w4 ⟨rfl, hB4⟩))) | fail "held"
            go_wp2
            go_roundw
            case rel => exact ⟨j + 1, by omega, by go_num, bgo hB (Nat.le_refl _) (And.left (by assumption : Below wr.heap.size wr w4 ∧ _))⟩
            case measure => simp [intOf]; omega
      · obtain rfl : j = L.length := by omega
        go_wp2_with (go_at_call 14; go_must (refine (awake_calls _).mono ?_); rintro e w5 ⟨rfl, hB5⟩)
        go_ret
        exact ⟨rfl, bgo (bgo hB3w (Nat.le_refl _) hB) (Nat.le_refl _) hB5⟩
theorem ofL_short (k s l t : Int) (h : Asked k s l t) : (ofL k s l t).length ≤ 5000 := by
  obtain ⟨hR, _, _⟩ := h
  unfold ofL
  split
  · simp
  · split
    · simp
    · split
      · rename_i h2
        have h3 : 1 ≤ l ∧ l ≤ s ∧ s ≤ 16 * l := by unfold Righted at hR; omega
        obtain ⟨n, hn, _, h16, _⟩ := slide_num s l t h3.1 h3.2.1 h3.2.2
        rw [slideL_length]
        omega
      · simp

/-- the law WindowSpans. -/
theorem WindowSpans_calls (k s l t m : Int) (w : World) : Calls Try.prog 3 #[win k s l, .int .i64 t, .int .i64 m] w fun e w' => e = .returned (.bool true) ∧ Below w.heap.size w w' := by
  by_cases h : Asked k s l t
  · exact Spans_core k s l t m (ofL k s l t) 0 true w (.inl ⟨rfl, rfl⟩) (ofL_short k s l t h) (fun X => Of_good k s l t X h) (fun X => RefOf_good k s l t X h)
  · exact Spans_core k s l t m [] 1 false w (.inr ⟨rfl, rfl⟩) (by simp) (fun X => Of_bad k s l t X h) (fun X => RefOf_bad k s l t X h)
end Go.Proofs.Ytdmflbdcfnpikaa.Hand
