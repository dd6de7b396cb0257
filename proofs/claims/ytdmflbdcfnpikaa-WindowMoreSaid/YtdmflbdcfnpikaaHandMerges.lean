/- The law WindowMerges, walked. -/
import Derived.Test.YtdmflbdcfnpikaaHandRefPut
namespace Go.Proofs.Ytdmflbdcfnpikaa.Hand
open Go.RowKit Go.Proofs.Ytdmflbdcfnpikaa Go.Proofs.Ytdmflbdcfnpikaa.Spans Go.Proofs.YtdmflbdcfnpikaaW Go.Proofs.YtdmflbdcfnpikaaW.PrintWords Go.Lib

def Yes (w : World) (e : Ending) (w' : World) : Prop := e = .returned (.bool true) ∧ Below w.heap.size w w'
theorem Merges_huge (A : Option Addr) (cap : Nat) (d : List Sp) (w : World) (h : 5000 < d.length) (hm : d.length ≤ 9223372036854775807) : Calls Try.prog 5 #[.slice A d.length cap] w (Yes w) := by
  have hd : decide (5000 < d.length) = true := decide_eq_true h
  go_enter Try.func5, Try.ntmps5
  go_wp2
  go_ret
  exact ⟨rfl, Below.refl _ _⟩
theorem own_new (w : World) : (w.alloc (.cells #[] 34)).ownsRow w.heap.size 34 2 (.slice (some ⟨w.heap.size, 0, none⟩) 0 0) 0 [] := ⟨rfl, .inr ⟨w.heap.size, 0, #[], rfl, Nat.le_refl _, heap_new w _, by omega, by decide, rfl, rfl⟩⟩
theorem below_new {w w1 : World} {r : Option Nat} (hg : (w.alloc (.cells #[] 34)).grownBy w1 r) (hr : ∀ k, r = some k → w.heap.size ≤ k) : Below w.heap.size w w1 :=
  grown_up ((Below.refl _ _).alloc (Nat.le_refl _) _) (by simp) hg hr
theorem Merge_good {A : Option Addr} {cap : Nat} {d : List Sp} {w : World} (hr : RdSp w A d) (hl : d.length ≤ 4096) (hb : d.any (fun x => decide (x.2 ≤ x.1)) = false) : Calls Try.prog 16 #[.slice A d.length cap] w (MergePost d w) :=
  (Merge_calls A cap d w hr).mono fun e w' ⟨_, h⟩ => by
    rcases h with h | h | h
    · omega
    · rw [hb] at h; cases h.2.1
    · exact h.2.2
set_option maxRecDepth 100000 in
set_option maxHeartbeats 2000000 in
theorem Merges_many (ad : Addr) (cap : Nat) (d : List Sp) (w : World) (hr : RdSp w (some ad) d) (h : 4096 < d.length) (h5 : d.length ≤ 5000) : Calls Try.prog 5 #[.slice (some ad) d.length cap] w (Yes w) := by
  obtain ⟨i0, hi, hz0, hz1, hz2⟩ := info_parts info34
  have hB0 : Below w.heap.size w (w.alloc (.cells #[] 34)) := (Below.refl _ _).alloc (Nat.le_refl _) _
  have HC := Lib.hid (hr.below hB0).cells
  have HR := Lib.hid hr
  clear hr hB0
  have hown := own_new w
  have hd : decide (4096 < d.length) = true := decide_eq_true h
  go_enter Try.func5, Try.ntmps5
  go_wp2_with (first
    | (at_builtin; go_must (refine wpList_append_own _ rfl _ _ 24 rfl w.heap.size 34 i0 (.agg #[.int .i64 0, .int .i64 0]) 2 16 Try.underlying24 hi hz0 hz1 hz2 rfl (by decide) _ 0 [] rfl hown ad d.length cap (encs d) rfl (encs_length d) HC.out (encs_oneCell d) (by unfold maxLen; omega) (by omega) (by rw [World.size_alloc]; omega) ?_); intro v1 w1 hown1 hgrow1 _; have HB1 := Lib.hid (below_new hgrow1 (fun k e => Nat.le_of_eq (Option.some.inj (show some w.heap.size = some k from e)))); clear hgrow1; obtain ⟨A1, c1, rfl, r1⟩ := own_rd (d := d) (by simpa using hown1); clear hown1)
    | (go_at_call 16; go_must (refine (Merge_many A1 c1 _ _ h).mono ?_); rintro e w2 ⟨rfl, hB2⟩)
    | (go_at_call 12; go_must (refine (same_yes d _ _ _ _ _ (r1.below hB2) ((HR.out.below HB1.out).below hB2) h5).mono ?_); rintro e w3 ⟨rfl, hB3⟩)
    | (go_at_call 14; go_must (refine (awake_calls _).mono ?_); rintro e w5 ⟨rfl, hB5⟩))
  go_ret
  exact ⟨rfl, bgo (bgo (bgo HB1.out (Nat.le_refl _) hB2) (Nat.le_refl _) hB3) (Nat.le_refl _) hB5⟩
set_option maxRecDepth 100000 in
set_option maxHeartbeats 2000000 in
theorem Merges_bad (ad : Addr) (cap : Nat) (d : List Sp) (w : World) (hr : RdSp w (some ad) d) (h : d.length ≤ 4096) (hb : d.any (fun x => decide (x.2 ≤ x.1)) = true) : Calls Try.prog 5 #[.slice (some ad) d.length cap] w (Yes w) := by
  obtain ⟨i0, hi, hz0, hz1, hz2⟩ := info_parts info34
  have hB0 : Below w.heap.size w (w.alloc (.cells #[] 34)) := (Below.refl _ _).alloc (Nat.le_refl _) _
  have HC := Lib.hid (hr.below hB0).cells
  have HR := Lib.hid hr
  clear hr hB0
  have hown := own_new w
  have hd : decide (4096 < d.length) = false := decide_eq_false (by omega)
  have HBAD := Lib.hid hb
  clear hb
  go_enter Try.func5, Try.ntmps5
  go_wp2_with (first
    | (at_builtin; go_must (refine wpList_append_own _ rfl _ _ 24 rfl w.heap.size 34 i0 (.agg #[.int .i64 0, .int .i64 0]) 2 16 Try.underlying24 hi hz0 hz1 hz2 rfl (by decide) _ 0 [] rfl hown ad d.length cap (encs d) rfl (encs_length d) HC.out (encs_oneCell d) (by unfold maxLen; omega) (by omega) (by rw [World.size_alloc]; omega) ?_); intro v1 w1 hown1 hgrow1 _; have HB1 := Lib.hid (below_new hgrow1 (fun k e => Nat.le_of_eq (Option.some.inj (show some w.heap.size = some k from e)))); clear hgrow1; obtain ⟨A1, c1, rfl, r1⟩ := own_rd (d := d) (by simpa using hown1); clear hown1)
    | (go_at_call 16; go_must (refine (Merge_bad A1 c1 d _ r1 h HBAD.out).mono ?_); rintro e w2 ⟨rfl, hB2⟩)
    | (go_at_call 12; go_must (refine (same_yes d _ _ _ _ _ (r1.below hB2) ((HR.out.below HB1.out).below hB2) (by omega)).mono ?_); rintro e w3 ⟨rfl, hB3⟩))
  have hB3w : Below w.heap.size w w3 := bgo (bgo HB1.out (Nat.le_refl _) hB2) (Nat.le_refl _) hB3
  have r3 := ((HR.out.below HB1.out).below hB2).below hB3
  clear r1 hB2 hB3 hown
  go_loopw [6] (fun i wr => ∃ k : Nat, k ≤ d.length ∧ i = .int .i64 (k : Int) ∧ Hid ((d.take k).any (fun x => decide (x.2 ≤ x.1)) = false) ∧ Below w3.heap.size w3 wr) (fun i _ => d.length - (intOf i).toNat)
  case atStart => exact ⟨0, by omega, rfl, Lib.hid (by simp), Below.refl _ _⟩
  case round =>
    obtain ⟨k, hk, rfl, hno, hB⟩ := hrel
    by_cases hlt : k < d.length
    · obtain ⟨x, hx⟩ : ∃ x, d[k]? = some x := ⟨_, List.getElem?_eq_getElem hlt⟩
      obtain ⟨ad', e, x1, x2⟩ := (r3.below hB) k x hx
      obtain rfl := Option.some.inj e
      have HX := Lib.hid hx
      clear hx
      by_cases hc : x.2 ≤ x.1
      · go_wp2
        go_quiet (fail)
        go_wp2_with (go_at_call 14; go_must (refine (awake_calls _).mono ?_); rintro e w5 ⟨rfl, hB5⟩)
        go_ret
        exact ⟨rfl, bgo (bgo hB3w (Nat.le_refl _) (below_drewN hB _)) (Nat.le_refl _) hB5⟩
      · go_wp2
        go_quiet (fail)
        go_wp2
        go_roundw
        case rel => exact ⟨k + 1, by omega, by go_num, Lib.hid (any_no d k x HX.out (by omega) hno.out), below_drewN hB _⟩
        case measure => simp [intOf]; omega
    · obtain rfl : k = d.length := by omega
      have := hno.out
      rw [List.take_length, HBAD.out] at this
      cases this
set_option maxRecDepth 100000 in
set_option maxHeartbeats 2000000 in
theorem Merges_good (ad : Addr) (cap : Nat) (d : List Sp) (w : World) (hr : RdSp w (some ad) d) (h : d.length ≤ 4096) (hb : d.any (fun x => decide (x.2 ≤ x.1)) = false) : Calls Try.prog 5 #[.slice (some ad) d.length cap] w (Yes w) := by
  obtain ⟨i0, hi, hz0, hz1, hz2⟩ := info_parts info34
  have hB0 : Below w.heap.size w (w.alloc (.cells #[] 34)) := (Below.refl _ _).alloc (Nat.le_refl _) _
  have HC := Lib.hid (hr.below hB0).cells
  have HR := Lib.hid hr
  clear hr hB0
  have hown := own_new w
  have hd : decide (4096 < d.length) = false := decide_eq_false (by omega)
  have HGOOD := Lib.hid (any_ok hb)
  have HB := Lib.hid hb
  clear hb
  go_enter Try.func5, Try.ntmps5
  go_wp2_with (first
    | (at_builtin; go_must (refine wpList_append_own _ rfl _ _ 24 rfl w.heap.size 34 i0 (.agg #[.int .i64 0, .int .i64 0]) 2 16 Try.underlying24 hi hz0 hz1 hz2 rfl (by decide) _ 0 [] rfl hown ad d.length cap (encs d) rfl (encs_length d) HC.out (encs_oneCell d) (by unfold maxLen; omega) (by omega) (by rw [World.size_alloc]; omega) ?_); intro v1 w1 hown1 hgrow1 _; have HB1 := Lib.hid (below_new hgrow1 (fun k e => Nat.le_of_eq (Option.some.inj (show some w.heap.size = some k from e)))); clear hgrow1; obtain ⟨A1, c1, rfl, r1⟩ := own_rd (d := d) (by simpa using hown1); clear hown1)
    | (go_at_call 16; go_must (refine (Merge_good r1 h HB.out).mono ?_); rintro e w2 ⟨m, v2, rfl, hm, hml, ho2, hB2⟩; have HM := Lib.hid hm; clear hm; obtain ⟨A2, c2, rfl, r2⟩ := own_rd ho2)
    | (go_at_call 12; go_must (refine (same_yes d _ _ _ _ _ (r1.below hB2) ((HR.out.below HB1.out).below hB2) (by omega)).mono ?_); rintro e w3 ⟨rfl, hB3⟩; replace r2 := r2.below hB3))
  have hB3w : Below w.heap.size w w3 := bgo (bgo HB1.out (Nat.le_refl _) hB2) (Nat.le_refl _) hB3
  have r3 := ((HR.out.below HB1.out).below hB2).below hB3
  clear r1 hB2 hB3 hown ho2
  go_loopw [6] (fun i wr => ∃ k : Nat, k ≤ d.length ∧ i = .int .i64 (k : Int) ∧ Below w3.heap.size w3 wr) (fun i _ => d.length - (intOf i).toNat)
  case atStart => exact ⟨0, by omega, rfl, Below.refl _ _⟩
  case round =>
    obtain ⟨k, hk, rfl, hB⟩ := hrel
    by_cases hlt : k < d.length
    · obtain ⟨x, hx⟩ : ∃ x, d[k]? = some x := ⟨_, List.getElem?_eq_getElem hlt⟩
      obtain ⟨ad', e, x1, x2⟩ := (r3.below hB) k x hx
      obtain rfl := Option.some.inj e
      have hc := HGOOD.out x (List.mem_of_getElem? hx)
      clear hx
      go_wp2
      go_quiet (fail)
      go_wp2
      go_roundw
      case rel => exact ⟨k + 1, by omega, by go_num, below_drewN hB _⟩
      case measure => simp [intOf]; omega
    · obtain rfl : k = d.length := by omega
      have r4 := r3.below hB
      have q4 := r2.below hB
      by_cases h3 : 300 < d.length
      · have hd3 : decide (300 < d.length) = true := decide_eq_true h3
        go_wp2
        go_ret
        exact ⟨rfl, bgo hB3w (Nat.le_refl _) hB⟩
      · have hd3 : decide (300 < d.length) = false := decide_eq_false h3
        go_wp2_with (first
          | (go_at_call 14; go_must (refine (awake_calls _).mono ?_); rintro e w5 ⟨rfl, hB5⟩; replace r4 := r4.below hB5; replace q4 := q4.below hB5)
          | (go_at_call 17; go_must (refine (RefMerge_calls _ _ d _ r4 (by omega) HGOOD.out).mono ?_); rintro e w6 ⟨m2, v6, rfl, hm2, hml2, ho6, hB6⟩; obtain rfl := hm2.unique HM.out HGOOD.out; obtain ⟨A6, c6, rfl, r6⟩ := own_rd ho6; replace q4 := q4.below hB6)
          | (go_at_call 12; go_must (refine (same_yes _ _ _ _ _ _ q4 r6 (by omega)).mono ?_); rintro e w7 ⟨rfl, hB7⟩))
        go_ret
        exact ⟨rfl, bgo (bgo (bgo (bgo hB3w (Nat.le_refl _) hB) (Nat.le_refl _) hB5) (Nat.le_refl _) hB6) (Nat.le_refl _) hB7⟩
set_option maxRecDepth 100000 in
set_option maxHeartbeats 2000000 in
theorem Merges_nil (w : World) : Calls Try.prog 5 #[.slice none 0 0] w (Yes w) := by
  obtain ⟨i0, hi, hz0, hz1, hz2⟩ := info_parts info34
  have hown := own_new w
  have hn : RdSp w none [] := fun j x hj => by cases hj
  have hB0 : Below w.heap.size w (w.alloc (.cells #[] 34)) := (Below.refl _ _).alloc (Nat.le_refl _) _
  have HM := fun (X : World) (A : Option Addr) (c : Nat) => Merge_none A c X
  have HS : ∀ (X : World) (A B : Option Addr) (ca cb : Nat), Calls Try.prog 12 #[.slice A 0 ca, .slice B 0 cb] X fun e w' => e = .returned (.bool true) ∧ Below X.heap.size X w' := fun X A B ca cb => same_yes [] A B ca cb X (fun j x hj => by cases hj) (fun j x hj => by cases hj) (by decide)
  have HG : ∀ X : World, Calls Try.prog 17 #[.slice none 0 0] X (RefMergePost [] X) := fun X => RefMerge_calls none 0 [] X (fun j x hj => by cases hj) (by decide) (fun x hx => by cases hx)
  go_enter Try.func5, Try.ntmps5
  go_wp2_with (first
    | (at_builtin; (refine wpList_append_own_none _ rfl _ _ 24 rfl w.heap.size 34 i0 2 Try.underlying24 hi _ 0 [] rfl hown rfl ?_))
    | (go_at_call 16; go_must (refine (HM _ _ _).mono ?_); rintro e w2 ⟨m, v2, rfl, hm, hml, ho2, hB2⟩; obtain rfl : m = [] := List.eq_nil_of_length_eq_zero (by simpa using hml); obtain ⟨A2, c2, rfl, r2⟩ := own_rd ho2)
    | (go_at_call 12; go_must (first
        | ((with_reducible refine (HS _ (some ⟨w.heap.size, 0, none⟩) _ _ _).mono ?_); rintro e w3 ⟨rfl, hB3⟩)
        | ((refine (HS _ A2 _ c2 _).mono ?_); rintro e w7 ⟨rfl, hB7⟩)))
    | (go_at_call 14; go_must (refine (awake_calls _).mono ?_); rintro e w5 ⟨rfl, hB5⟩)
    | (go_at_call 17; go_must (refine (HG _).mono ?_); rintro e w6 ⟨m2, v6, rfl, hm2, hml2, ho6, hB6⟩; obtain rfl : m2 = [] := List.eq_nil_of_length_eq_zero (by simpa using hml2); obtain ⟨A6, c6, rfl, r6⟩ := own_rd ho6))
  go_loopw [6] (fun i wr => i = .int .i64 0 ∧ Below w3.heap.size w3 wr) (fun _ _ => 0)
  case atStart => exact ⟨rfl, Below.refl _ _⟩
  case round =>
    obtain ⟨rfl, hB⟩ := hrel
    go_wp2_with (first
      | (go_at_call 12; go_must (refine (HS _ A2 _ c2 _).mono ?_); rintro e w7 ⟨rfl, hB7⟩)
      | (go_at_call 14; go_must (refine (awake_calls _).mono ?_); rintro e w5 ⟨rfl, hB5⟩)
      | (go_at_call 17; go_must (refine (HG _).mono ?_); rintro e w6 ⟨m2, v6, rfl, hm2, hml2, ho6, hB6⟩; obtain rfl : m2 = [] := List.eq_nil_of_length_eq_zero (by simpa using hml2); obtain ⟨A6, c6, rfl, r6⟩ := own_rd ho6))
    go_ret
    exact ⟨rfl, bgo (bgo (bgo (bgo (bgo (bgo hB0 (Nat.le_refl _) (hB2.mono (by simp))) (Nat.le_refl _) hB3) (Nat.le_refl _) hB) (Nat.le_refl _) hB5) (Nat.le_refl _) hB6) (Nat.le_refl _) hB7⟩
theorem WindowMerges_calls (A : Option Addr) (cap : Nat) (d : List Sp) (w : World) (hr : RdSp w A d) (h0 : A = none → cap = 0) (hm : d.length ≤ 9223372036854775807) : Calls Try.prog 5 #[.slice A d.length cap] w (Yes w) := by
  rcases A with _ | ad
  · obtain rfl := h0 rfl
    have : d = [] := by
      rcases d with _ | ⟨x, d⟩
      · rfl
      · obtain ⟨ad, e, _⟩ := hr 0 x rfl
        cases e
    subst this
    exact Merges_nil w
  · by_cases h5 : 5000 < d.length
    · exact Merges_huge _ cap d w h5 hm
    by_cases h4 : 4096 < d.length
    · exact Merges_many ad cap d w hr h4 (by omega)
    by_cases hb : d.any (fun x => decide (x.2 ≤ x.1)) = true
    · exact Merges_bad ad cap d w hr (by omega) hb
    · exact Merges_good ad cap d w hr (by omega) (by simpa using hb)
end Go.Proofs.Ytdmflbdcfnpikaa.Hand
