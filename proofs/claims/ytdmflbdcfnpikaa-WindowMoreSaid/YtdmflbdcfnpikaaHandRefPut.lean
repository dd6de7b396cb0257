/- layer 9, the document's answer: one span put among merged ones, walked. -/
import Derived.Test.YtdmflbdcfnpikaaHandSpans
import Derived.Test.YtdmflbdcfnpikaaHandPlainPut
namespace Go.Proofs.Ytdmflbdcfnpikaa.Hand
open Go.RowKit Go.Proofs.Ytdmflbdcfnpikaa Go.Proofs.Ytdmflbdcfnpikaa.Spans Go.Proofs.YtdmflbdcfnpikaaW Go.Proofs.YtdmflbdcfnpikaaW.PrintWords Go.Lib

abbrev spv (x : Sp) : Value := .agg #[.int .i64 x.1, .int .i64 x.2]
theorem Share_calls (x y : Sp) (w : World) : Calls Try.prog 34 #[spv x, spv y] w fun e w' => e = .returned (.bool (decide (shares x y))) ∧ Below w.heap.size w w' := by
  by_cases h1 : x.1 < y.2
  · go_enter Try.func34, Try.ntmps34
    go_wp2
    go_ret
    exact ⟨ret_bool (by rw [Bool.eq_iff_iff, decide_eq_true_eq, decide_eq_true_eq]; unfold shares; omega), ((Below.refl _ _).alloc (Nat.le_refl _) _).alloc (by simp) _⟩
  · go_enter Try.func34, Try.ntmps34
    go_wp2
    go_ret
    exact ⟨ret_bool (no_of (by unfold shares; omega)), ((Below.refl _ _).alloc (Nat.le_refl _) _).alloc (by simp) _⟩

/-- the box of a span: what it holds, and that it may be written. -/
def Box (w : World) (b : Nat) (x : Sp) : Prop :=
  w.cell? ⟨b, 0, none⟩ = some (.int .i64 x.1) ∧ w.cell? ⟨b, 1, none⟩ = some (.int .i64 x.2) ∧ w.frozen? ⟨b, 0, none⟩ = false ∧ w.frozen? ⟨b, 1, none⟩ = false
theorem Box.below {w w' : World} {b : Nat} {x : Sp} (h : Box w b x) (hb : Below w.heap.size w w') : Box w' b x := by
  obtain ⟨h1, h2, h3, h4⟩ := h
  exact ⟨(hb.cell (lt_of_cell h1)).trans h1, (hb.cell (lt_of_cell h2)).trans h2, (hb.frozen (lt_of_cell h1)).trans h3, (hb.frozen (lt_of_cell h2)).trans h4⟩
theorem grow_next (s : Sp) (d : List Sp) (k : Nat) (x : Sp) (h : d[k]? = some x) : grow s (d.take (k + 1)) = grow1 (grow s (d.take k)) x := by
  rw [take_snoc d k x h, grow_snoc]
theorem grow1_yes {u x : Sp} (h : true = decide (shares x u)) : grow1 u x = (min u.1 x.1, max u.2 x.2) := by
  unfold grow1
  rw [if_pos (of_decide_eq_true h.symm)]
theorem box_set {w : World} {b : Nat} {u : Sp} (h : Box w b u) (p q : Int) : Box (((w.setCell ⟨b, 0, none⟩ (.int .i64 p)).drew.setCell ⟨b, 1, none⟩ (.int .i64 q)).drew) b (p, q) := by
  obtain ⟨h1, h2, h3, h4⟩ := h
  have a0 : (w.setCell ⟨b, 0, none⟩ (.int .i64 p)).cell? ⟨b, 0, none⟩ = some (.int .i64 p) := World.cell?_setCell_same w _ _ h1
  have a1 : (w.setCell ⟨b, 0, none⟩ (.int .i64 p)).cell? ⟨b, 1, none⟩ = some (.int .i64 u.2) := (World.cell?_setCell_other w _ _ _ (by simp)).trans h2
  have b0 : (w.setCell ⟨b, 0, none⟩ (.int .i64 p)).drew.cell? ⟨b, 0, none⟩ = some (.int .i64 p) := a0
  have b1 : (w.setCell ⟨b, 0, none⟩ (.int .i64 p)).drew.cell? ⟨b, 1, none⟩ = some (.int .i64 u.2) := a1
  exact ⟨(World.cell?_setCell_other _ ⟨b, 1, none⟩ ⟨b, 0, none⟩ (.int .i64 q) (by simp)).trans b0, World.cell?_setCell_same _ ⟨b, 1, none⟩ (.int .i64 q) b1, by simp [h3], by simp [h4]⟩
theorem below_set {B b : Nat} {w w' : World} (h : Below B w w') (p q : Value) (hB : B ≤ b := by exact Nat.le_refl _) : Below B w (((w'.setCell ⟨b, 0, none⟩ p).drew.setCell ⟨b, 1, none⟩ q).drew) := by
  have h1 : Below B w (w'.setCell ⟨b, 0, none⟩ p) := h.setCell hB _
  have h2 : Below B w ((w'.setCell ⟨b, 0, none⟩ p).drew) := h1.drew
  exact (h2.setCell hB _).drew
theorem box_kept {X Y W : World} {B b : Nat} {a a' : Addr} {v0 v1 : Value} {u : Sp} (k : Below X.heap.size X Y)
    (h : Below B W X ∧ X.cell? a = some v0 ∧ X.cell? a' = some v1 ∧ X.cell? ⟨b, 0, none⟩ = some (.int .i64 u.1) ∧ X.cell? ⟨b, 1, none⟩ = some (.int .i64 u.2)) (hb : B ≤ W.heap.size) :
    Below B W Y ∧ Y.cell? a = some v0 ∧ Y.cell? a' = some v1 ∧ Y.cell? ⟨b, 0, none⟩ = some (.int .i64 u.1) ∧ Y.cell? ⟨b, 1, none⟩ = some (.int .i64 u.2) :=
  ⟨bgo h.1 hb k, (k.cell (lt_of_cell h.2.1)).trans h.2.1, (k.cell (lt_of_cell h.2.2.1)).trans h.2.2.1, (k.cell (lt_of_cell h.2.2.2.1)).trans h.2.2.2.1, (k.cell (lt_of_cell h.2.2.2.2)).trans h.2.2.2.2⟩
theorem all_snoc {d : List Sp} {k : Nat} {x u : Sp} (h : d[k]? = some x) (ha : ∀ z ∈ d.take k, z.1 < u.1) (hx : x.1 < u.1) : ∀ z ∈ d.take (k + 1), z.1 < u.1 := by
  intro z hz
  rw [take_snoc d k x h] at hz
  rcases List.mem_append.1 hz with hz | hz
  · exact ha z hz
  · obtain rfl : z = x := by simpa using hz
    exact hx
theorem RdSp.take {w : World} {A : Option Addr} {d : List Sp} (h : RdSp w A d) (k : Nat) : RdSp w A (d.take k) := by
  intro j x hj
  rw [List.getElem?_take] at hj
  split at hj
  · exact h j x hj
  · cases hj
def putP (d : List Sp) (u : Sp) (k j : Nat) : List Sp := d.take k ++ [u] ++ ((d.take j).drop k).filter (fun x => !decide (shares x u))
theorem putP_start (d : List Sp) (u : Sp) (k : Nat) : putP d u k k = d.take k ++ [u] := by
  unfold putP
  rw [List.drop_eq_nil_of_le (by simp; omega)]
  simp
theorem putP_end (d : List Sp) (u : Sp) (k : Nat) : putP d u k d.length = putAt d u k := by
  unfold putP putAt
  rw [List.take_length]
theorem putP_snoc (d : List Sp) (u : Sp) (k j : Nat) (x : Sp) (hk : k ≤ j) (h : d[j]? = some x) : putP d u k (j + 1) = if shares x u then putP d u k j else putP d u k j ++ [x] := by
  have hj := (List.getElem?_eq_some_iff.1 h).1
  have e : (d.take (j + 1)).drop k = (d.take j).drop k ++ [x] := by
    rw [take_snoc d j x h, List.drop_append_of_le_length (by simp; omega)]
  unfold putP
  rw [e, List.filter_append]
  split
  · rename_i hs
    simp [hs]
  · rename_i hs
    simp [hs]
theorem putP_len (d : List Sp) (u : Sp) (k j : Nat) : (putP d u k j).length ≤ 2 * d.length + 1 := by
  unfold putP
  have h1 := List.length_filter_le (fun x => !decide (shares x u)) ((d.take j).drop k)
  have h2 : ((d.take j).drop k).length ≤ d.length := by simp; omega
  simp only [List.length_append, List.length_take, List.length_cons, List.length_nil]
  omega
theorem add_block (a : Addr) (i : Nat) : (a.add i).block = a.block := by unfold Addr.add; split <;> rfl
theorem ablk_lt {w : World} {ad : Addr} {d : List Sp} {k : Nat} {x : Sp} (hr : RdSp w (some ad) d) (h : d[k]? = some x) : ad.block < w.heap.size := by
  obtain ⟨ad', e, h1, _⟩ := hr k x h
  obtain rfl := Option.some.inj e
  have := lt_of_cell h1
  rwa [add_block] at this
theorem below_nq {wr w5 : World} {nq : Nat} {r : Option Nat} (hg : (wr.drewN nq).grownBy w5 r) (hr : ∀ k, r = some k → wr.heap.size ≤ k) : Below wr.heap.size wr w5 :=
  grown_up (below_drewN (Below.refl _ wr) nq) (Nat.le_refl _) hg hr
theorem own_kept {base E size n : Nat} {v : Value} {xs : List Value} {w w' : World} (h : w.ownsRow base E size v n xs) (hb : Below w.heap.size w w') : w'.ownsRow base E size v n xs := by
  refine ⟨h.1, ?_⟩
  rcases h.2 with hn | ⟨g, cap, cur, hv, hg, hh, rest⟩
  · exact .inl hn
  · have hlt : g < w.heap.size := by
      rcases Nat.lt_or_ge g w.heap.size with h' | h'
      · exact h'
      · rw [Array.getElem?_eq_none h'] at hh; cases hh
    exact .inr ⟨g, cap, cur, hv, hg, (hb.block g hlt).trans hh, rest⟩
def PutPost (d : List Sp) (s : Sp) (w : World) (e : Ending) (w' : World) : Prop :=
  ∃ k v, (∀ x ∈ d.take k, x.1 < (grow s d).1) ∧ (∀ x, d[k]? = some x → (grow s d).1 ≤ x.1) ∧ k ≤ d.length ∧ e = .returned v ∧ w'.ownsRow w.heap.size 34 2 v (putAt d (grow s d) k).length (encs (putAt d (grow s d) k)) ∧ Below w.heap.size w w'
set_option maxRecDepth 100000 in
set_option maxHeartbeats 2000000 in
theorem Put_some (ad : Addr) (cap : Nat) (d : List Sp) (s : Sp) (w : World) (hr : RdSp w (some ad) d) (hl : d.length ≤ 1000) (hcap : d.length ≤ cap) :
    Calls Try.prog 29 #[.slice (some ad) d.length cap, spv s] w (PutPost d s w) := by
  obtain ⟨i0, hi, hz0, hz1, hz2⟩ := info_parts info34
  go_enter Try.func29, Try.ntmps29
  go_wp2
  go_loopw [6] (fun i wr => ∃ (k : Nat) (u : Sp), k ≤ d.length ∧ i = .int .i64 (k : Int) ∧ Hid (u = grow s (d.take k)) ∧ Box wr w.heap.size u ∧ Below w.heap.size w wr) (fun i _ => d.length - (intOf i).toNat)
  case atStart => exact ⟨0, s, by omega, rfl, Lib.hid (by simp [grow]), ⟨by simp, by simp, by simp, by simp⟩, (Below.refl _ _).alloc (Nat.le_refl _) _⟩
  case round =>
    obtain ⟨k, u, hk, rfl, hu, hbox, hB⟩ := hrel
    by_cases hlt : k < d.length
    · obtain ⟨x, hx⟩ : ∃ x, d[k]? = some x := ⟨_, List.getElem?_eq_getElem hlt⟩
      obtain ⟨ad', e, x1, x2⟩ := (hr.below hB) k x hx
      obtain rfl := Option.some.inj e
      obtain ⟨bR, hbR⟩ : ∃ b, b = decide (shares x u) := ⟨_, rfl⟩
      have h34 := fun X : World => Share_calls x u X
      rw [← hbR] at h34
      have HR := Lib.hid hbR
      have HX := Lib.hid hx
      clear hbR hx
      have BX := Lib.hid hbox
      obtain ⟨y1, y2, y3, y4⟩ := hbox
      have hlw : w.heap.size < wr.heap.size := lt_of_cell (a := ⟨w.heap.size, 0, none⟩) y1
      have ha : ad.block < w.heap.size := ablk_lt hr HX.out
      cases bR
      · go_wp2
        first | (go_region_held (fun w' => Below wr.heap.size wr w' ∧ w'.cell? (ad.add (k * 2)) = some (.int .i64 x.1) ∧ w'.cell? ⟨(ad.add (k * 2)).block, (ad.add (k * 2)).off + 1, none⟩ = some (.int .i64 x.2) ∧ w'.cell? ⟨w.heap.size, 0, none⟩ = some (.int .i64 u.1) ∧ w'.cell? ⟨w.heap.size, 1, none⟩ = some (.int .i64 u.2)) (first | assumption | exact ⟨⟨rfl, rfl, rfl, Nat.le_refl _, fun _ _ => rfl⟩, x1, x2, y1, y2⟩ | exact box_kept (by assumption) (by assumption) (Nat.le_refl _)) ((go_at_call 34; go_must (refine (h34 _).mono ?_); rintro e w4 ⟨rfl, hB4⟩))) | fail "held"
        go_wp2
        go_roundw
        case rel => exact ⟨k + 1, u, by omega, by go_num, Lib.hid (by rw [grow_next s d k x HX.out, ← hu.out]; unfold grow1; rw [if_neg (by simpa using HR.out.symm)]), BX.out.below (And.left (by assumption : Below wr.heap.size wr w4 ∧ _)), bgo hB (Nat.le_refl _) (And.left (by assumption : Below wr.heap.size wr w4 ∧ _))⟩
        case measure => simp [intOf]; omega
      · go_wp2
        first | (go_region_held (fun w' => Below wr.heap.size wr w' ∧ w'.cell? (ad.add (k * 2)) = some (.int .i64 x.1) ∧ w'.cell? ⟨(ad.add (k * 2)).block, (ad.add (k * 2)).off + 1, none⟩ = some (.int .i64 x.2) ∧ w'.cell? ⟨w.heap.size, 0, none⟩ = some (.int .i64 u.1) ∧ w'.cell? ⟨w.heap.size, 1, none⟩ = some (.int .i64 u.2)) (first | assumption | exact ⟨⟨rfl, rfl, rfl, Nat.le_refl _, fun _ _ => rfl⟩, x1, x2, y1, y2⟩ | exact box_kept (by assumption) (by assumption) (Nat.le_refl _)) ((go_at_call 34; go_must (refine (h34 _).mono ?_); rintro e w4 ⟨rfl, hB4⟩))) | fail "held"
        have hb4 := And.left (by assumption : Below wr.heap.size wr w4 ∧ _)
        obtain ⟨z1, z2, z3, z4⟩ := BX.out.below hb4
        have X1 := (hb4.cell (lt_of_cell x1)).trans x1
        have X2 := (hb4.cell (lt_of_cell x2)).trans x2
        go_wp2
        go_region
        all_goals go_wp2
        go_region
        all_goals go_wp2
        go_roundw
        case rel => exact ⟨k + 1, grow1 u x, by omega, by go_num, Lib.hid (by rw [grow_next s d k x HX.out, ← hu.out]), by (rw [grow1_yes HR.out]; exact box_set ⟨z1, z2, z3, z4⟩ _ _), below_set (bgo hB (Nat.le_refl _) hb4) _ _⟩
        case measure => simp [intOf]; omega
    · obtain rfl : k = d.length := by omega
      have hu' : Hid (u = grow s d) := Lib.hid (by rw [hu.out, List.take_length])
      have hlw : w.heap.size < wr.heap.size := lt_of_cell (a := ⟨w.heap.size, 0, none⟩) hbox.1
      obtain ⟨wo, rfl⟩ : ∃ wo : World, wo = wr := ⟨_, rfl⟩
      clear hu
      go_wp2
      go_loopw [7] (fun i wr => ∃ k : Nat, k ≤ d.length ∧ i = .int .i64 (k : Int) ∧ Hid (∀ x ∈ d.take k, x.1 < u.1) ∧ Below wo.heap.size wo wr) (fun i _ => d.length - (intOf i).toNat)
      case atStart => exact ⟨0, by omega, rfl, Lib.hid (by simp), Below.refl _ _⟩
      case round =>
        obtain ⟨k, hk, rfl, hall, hB2⟩ := hrel
        obtain ⟨y1, y2, y3, y4⟩ := hbox.below hB2
        have hro := hr.below (bgo hB (Nat.le_refl _) hB2)
        by_cases hgo : ∃ x, d[k]? = some x ∧ x.1 < u.1
        · obtain ⟨x, hx, hc⟩ := hgo
          have hlt := (List.getElem?_eq_some_iff.1 hx).1
          obtain ⟨ad', e, x1, x2⟩ := hro k x hx
          obtain rfl := Option.some.inj e
          have HX := Lib.hid hx
          have HC := decide_eq_true hc
          clear hx
          go_wp2
          go_quiet (fail)
          go_wp2
          go_roundw
          case rel => exact ⟨k + 1, by omega, by go_num, Lib.hid (all_snoc HX.out hall.out hc), below_drewN hB2 _⟩
          case measure => simp [intOf]; omega
        · have hstop : ∀ x, d[k]? = some x → u.1 ≤ x.1 := fun x hx => by
            apply Decidable.byContradiction
            intro hn
            exact hgo ⟨x, hx, by omega⟩
          have HS := Lib.hid hstop
          have hcc := (hro.take k).cells
          have HCC := Lib.hid hcc
          have hlk : (d.take k).length = k := by simp; omega
          have hel : (encs (d.take k)).length = k * 2 := by rw [encs_length, hlk]
          have HEL := Lib.hid hel
          have HLK := Lib.hid hlk
          clear hgo hstop hcc hel hlk
          have hB2' : Below w.heap.size w wr := bgo hB (Nat.le_refl _) hB2
          by_cases hlt : k < d.length
          case' pos =>
            obtain ⟨x, hx⟩ : ∃ x, d[k]? = some x := ⟨_, List.getElem?_eq_getElem hlt⟩
            obtain ⟨ad', e, x1, x2⟩ := hro k x hx
            obtain rfl := Option.some.inj e
            have hc := HS.out x hx
            have HC := decide_eq_false (show ¬ x.1 < u.1 by omega)
            clear hx
          all_goals
            have HBX := Lib.hid (hbox.below hB2)
            go_wp2
            go_quiet (fail)
            go_wp2_with (first
              | (at_builtin; (refine wpList_append_own _ rfl _ _ 24 rfl wr.heap.size 34 i0 (.agg #[.int .i64 0, .int .i64 0]) 2 16 Try.underlying24 hi hz0 hz1 hz2 rfl (by decide) _ 0 [] rfl (World.ownsRow_nil _ _ _ _) ad _ _ (encs _) rfl HEL.out HCC.out (encs_oneCell _) (by unfold maxLen; omega) (by omega) (Nat.le_refl _) ?_); intro v5 w5 hown5 hgrow5 _; have HB5 := Lib.hid (below_nq hgrow5 (fun k e => by cases e)); clear hgrow5; obtain ⟨z1, z2, z3, z4⟩ := HBX.out.below HB5.out; have ho5 : w5.ownsRow wr.heap.size 34 2 v5 k (encs (d.take k)) := (by simpa using hown5); clear hown5)
              | (at_builtin; go_must (refine wpList_append_own _ rfl _ _ 24 rfl wr.heap.size 34 i0 (.agg #[.int .i64 0, .int .i64 0]) 2 16 Try.underlying24 hi hz0 hz1 hz2 rfl (by decide) _ k (encs (d.take k)) rfl (ho5.alloc _) _ 1 1 [.int .i64 u.1, .int .i64 u.2] rfl rfl (box_cell _ u) (one_two u) (by unfold maxLen; omega) (by omega) (size_one HB5.out.size) ?_); intro v6 w6 hown6 hgrow6 _; have HB6 := Lib.hid (below_one HB5.out HB5.out.size hgrow6 (fun j e => (ho5.lt j e).1)); clear hgrow6; have ho6 : w6.ownsRow wr.heap.size 34 2 v6 (k + 1) (encs (d.take k ++ [u])) := (by rw [encs_snoc]; exact hown6); clear hown6))
            have HBX6 := Lib.hid (HBX.out.below HB6.out)
            clear z1 z2 z3 z4 y1 y2 y3 y4 ho5
            obtain ⟨wp, rfl⟩ : ∃ wp : World, wp = wr := ⟨_, rfl⟩
            go_loopw [5, 8] (fun v i wr => ∃ (j n : Nat), k ≤ j ∧ j ≤ d.length ∧ i = .int .i64 (j : Int) ∧ n ≤ 2 * d.length + 1 ∧ Hid (n = (putP d u k j).length) ∧ wr.ownsRow wp.heap.size 34 2 v n (encs (putP d u k j)) ∧ Below wp.heap.size wp wr ∧ Box wr w.heap.size u) (fun _ i _ => d.length - (intOf i).toNat)
            case atStart => exact ⟨k, k + 1, by omega, by omega, rfl, by omega, Lib.hid (by rw [putP_start, List.length_append, HLK.out]; rfl), by rw [putP_start]; exact ho6, HB6.out, HBX6.out⟩
            case round =>
              obtain ⟨j, n, hkj, hj, rfl, hn, HN, hown, hB7, hbx⟩ := hrel
              have hr7 := hro.below hB7
              by_cases hlt7 : j < d.length
              · first
                | (exfalso; omega)
                | skip
                  obtain ⟨x, hx⟩ : ∃ x, d[j]? = some x := ⟨_, List.getElem?_eq_getElem hlt7⟩
                  obtain ⟨ad', e, x1, x2⟩ := hr7 j x hx
                  obtain rfl := Option.some.inj e
                  obtain ⟨bR, hbR⟩ : ∃ b, b = decide (shares x u) := ⟨_, rfl⟩
                  have h34 := fun X : World => Share_calls x u X
                  rw [← hbR] at h34
                  have HR := Lib.hid hbR
                  have HX := Lib.hid hx
                  clear hbR hx
                  have BX := Lib.hid hbx
                  obtain ⟨y1, y2, y3, y4⟩ := hbx
                  cases bR
                  · go_wp2
                    first | (go_region_held (fun w' => Below wr.heap.size wr w' ∧ w'.cell? (ad.add (j * 2)) = some (.int .i64 x.1) ∧ w'.cell? ⟨(ad.add (j * 2)).block, (ad.add (j * 2)).off + 1, none⟩ = some (.int .i64 x.2) ∧ w'.cell? ⟨w.heap.size, 0, none⟩ = some (.int .i64 u.1) ∧ w'.cell? ⟨w.heap.size, 1, none⟩ = some (.int .i64 u.2)) (first | assumption | exact ⟨⟨rfl, rfl, rfl, Nat.le_refl _, fun _ _ => rfl⟩, x1, x2, y1, y2⟩ | exact box_kept (by assumption) (by assumption) (Nat.le_refl _)) ((go_at_call 34; go_must (refine (h34 _).mono ?_); rintro e w4 ⟨rfl, hB4⟩))) | fail "held"
                    have HB4 := Lib.hid (And.left (by assumption : Below wr.heap.size wr w4 ∧ _))
                    have X1 := (HB4.out.cell (lt_of_cell x1)).trans x1
                    have X2 := (HB4.out.cell (lt_of_cell x2)).trans x2
                    have ho4 := own_kept hown HB4.out
                    have HB7 := Lib.hid (bgo hB7 (Nat.le_refl _) HB4.out)
                    go_wp2_with (at_builtin; go_must (refine wpList_append_own _ rfl _ _ 24 rfl wp.heap.size 34 i0 (.agg #[.int .i64 0, .int .i64 0]) 2 16 Try.underlying24 hi hz0 hz1 hz2 rfl (by decide) _ n (encs (putP d u k j)) rfl (ho4.alloc _) _ 1 1 [.int .i64 x.1, .int .i64 x.2] rfl rfl (box_cell _ x) (one_two x) (by unfold maxLen; omega) (by omega) (size_one HB7.out.size) ?_); intro v8 w8 hown8 hgrow8 _; have HB8 := Lib.hid (below_one HB7.out HB7.out.size hgrow8 (fun j e => (ho4.lt j e).1)); clear hgrow8)
                    go_roundw
                    case rel => exact ⟨j + 1, n + 1, by omega, by omega, by go_num, (by have h9 := putP_len d u k (j + 1); rw [putP_snoc d u k j x hkj HX.out, if_neg (by simpa using HR.out.symm), List.length_append, ← HN.out] at h9; simpa using h9), Lib.hid (by rw [putP_snoc d u k j x hkj HX.out, if_neg (by simpa using HR.out.symm), List.length_append, ← HN.out]; rfl), by (rw [putP_snoc d u k j x hkj HX.out, if_neg (by simpa using HR.out.symm), encs_snoc]; exact hown8), HB8.out, HBX.out.below HB8.out⟩
                    case measure => simp [intOf]; omega
                  · go_wp2
                    first | (go_region_held (fun w' => Below wr.heap.size wr w' ∧ w'.cell? (ad.add (j * 2)) = some (.int .i64 x.1) ∧ w'.cell? ⟨(ad.add (j * 2)).block, (ad.add (j * 2)).off + 1, none⟩ = some (.int .i64 x.2) ∧ w'.cell? ⟨w.heap.size, 0, none⟩ = some (.int .i64 u.1) ∧ w'.cell? ⟨w.heap.size, 1, none⟩ = some (.int .i64 u.2)) (first | assumption | exact ⟨⟨rfl, rfl, rfl, Nat.le_refl _, fun _ _ => rfl⟩, x1, x2, y1, y2⟩ | exact box_kept (by assumption) (by assumption) (Nat.le_refl _)) ((go_at_call 34; go_must (refine (h34 _).mono ?_); rintro e w4 ⟨rfl, hB4⟩))) | fail "held"
                    have HB4 := Lib.hid (And.left (by assumption : Below wr.heap.size wr w4 ∧ _))
                    have ho4 := own_kept hown HB4.out
                    go_wp2
                    go_roundw
                    case rel => exact ⟨j + 1, n, by omega, by omega, by go_num, by omega, Lib.hid (by rw [putP_snoc d u k j x hkj HX.out, if_pos (by simpa using HR.out.symm)]; exact HN.out), by (rw [putP_snoc d u k j x hkj HX.out, if_pos (by simpa using HR.out.symm)]; exact ho4), bgo hB7 (Nat.le_refl _) HB4.out, BX.out.below HB4.out⟩
                    case measure => simp [intOf]; omega
              · obtain rfl : j = d.length := by omega
                go_wp2
                go_ret
                have eu := hu'.out
                have en := HN.out
                rw [putP_end] at hown en
                subst eu
                rw [en] at hown
                exact ⟨k, _, hall.out, HS.out, hk, rfl, own_base hown (by have := hB2'.size; omega), bgo hB2' (Nat.le_refl _) hB7⟩
set_option maxRecDepth 100000 in
set_option maxHeartbeats 2000000 in
theorem Put_nil (s : Sp) (w : World) : Calls Try.prog 29 #[.slice none 0 0, spv s] w (PutPost [] s w) := by
  obtain ⟨i0, hi, hz0, hz1, hz2⟩ := info_parts info34
  go_enter Try.func29, Try.ntmps29
  go_wp2
  go_loopw [6] (fun i wr => i = .int .i64 0 ∧ Box wr w.heap.size s ∧ Below w.heap.size w wr) (fun _ _ => 0)
  case atStart => exact ⟨rfl, ⟨by simp, by simp, by simp, by simp⟩, (Below.refl _ _).alloc (Nat.le_refl _) _⟩
  case round =>
    obtain ⟨rfl, hbox, hB⟩ := hrel
    have hlw : w.heap.size < wr.heap.size := lt_of_cell (a := ⟨w.heap.size, 0, none⟩) hbox.1
    obtain ⟨wo, rfl⟩ : ∃ wo : World, wo = wr := ⟨_, rfl⟩
    go_wp2
    go_loopw [7] (fun i wr => i = .int .i64 0 ∧ Box wr w.heap.size s ∧ Below w.heap.size w wr) (fun _ _ => 0)
    case atStart => exact ⟨rfl, hbox, hB⟩
    case round =>
      obtain ⟨rfl, hbox, hB⟩ := hrel
      have hlw : w.heap.size < wr.heap.size := lt_of_cell (a := ⟨w.heap.size, 0, none⟩) hbox.1
      obtain ⟨wp, rfl⟩ : ∃ wo : World, wo = wr := ⟨_, rfl⟩
      have HBX := Lib.hid hbox
      obtain ⟨y1, y2, y3, y4⟩ := hbox
      go_wp2
      go_quiet (fail)
      go_wp2_with (first
        | (at_builtin; (refine wpList_append_own _ rfl _ _ 24 rfl wp.heap.size 34 i0 (.agg #[.int .i64 0, .int .i64 0]) 2 16 Try.underlying24 hi hz0 hz1 hz2 rfl (by decide) _ 0 [] rfl (World.ownsRow_nil _ _ _ _) _ 1 1 [.int .i64 s.1, .int .i64 s.2] rfl rfl (box_cell _ s) (one_two s) (by unfold maxLen; omega) (by omega) (size_one (Nat.le_refl _)) ?_); intro v6 w6 hown6 hgrow6 _; have HB6 := Lib.hid (below_one (below_drewN (Below.refl wp.heap.size wp) _) (Nat.le_refl _) hgrow6 (fun j e => by cases e)); clear hgrow6))
      have HBX6 := Lib.hid (HBX.out.below (HB6.out.mono (Nat.le_refl _)))
      go_loopw [5, 8] (fun v i wr => v = v6 ∧ i = .int .i64 0 ∧ wr = w6) (fun _ _ _ => 0)
      case atStart => exact ⟨rfl, rfl, rfl⟩
      case round =>
        obtain ⟨rfl, rfl, rfl⟩ := hrel
        go_wp2
        go_ret
        have e : encs (putAt [] (grow s []) 0) = [Value.int IntKind.i64 s.1, Value.int IntKind.i64 s.2] := rfl
        exact ⟨0, _, by simp, by simp, by simp, rfl, by rw [e]; exact own_base (by simpa [putAt] using hown6) (by omega), bgo hB (Nat.le_refl _) HB6.out⟩

/-- one span put among others. -/
theorem PutPost_w {A : Option Addr} {cap : Nat} {d : List Sp} {s : Sp} {w : World} (hr : RdSp w A d) (hl : d.length ≤ 1000) (hcap : d.length ≤ cap) (h0 : A = none → cap = 0) :
    Calls Try.prog 29 #[.slice A d.length cap, spv s] w (PutPost d s w) := by
  rcases A with _ | ad
  · obtain rfl := h0 rfl
    obtain rfl : d = [] := List.eq_nil_of_length_eq_zero (by omega)
    exact Put_nil s w
  · exact Put_some ad cap d s w hr hl hcap

def RefMergePost (d : List Sp) (w : World) (e : Ending) (w' : World) : Prop :=
  ∃ m v, e = .returned v ∧ IsMerge (· ∈ d) m ∧ m.length ≤ d.length ∧ w'.ownsRow w.heap.size 34 2 v m.length (encs m) ∧ Below w.heap.size w w'
theorem putAt_len (m : List Sp) (u : Sp) (k : Nat) : (putAt m u k).length ≤ m.length + 1 := by
  unfold putAt
  have h1 := List.length_filter_le (fun x => !decide (shares x u)) (m.drop k)
  simp only [List.length_append, List.length_take, List.length_cons, List.length_nil, List.length_drop] at *
  omega
theorem own_slice {base n : Nat} {v : Value} {d : List Sp} {w : World} (h : w.ownsRow base 34 2 v n (encs d)) : ∃ A cap, v = .slice A n cap ∧ n ≤ cap ∧ (A = none → cap = 0) := by
  rcases h.2 with ⟨rfl, h0⟩ | ⟨g, cap, cur, rfl, hb, hh, hle, rest⟩
  · have : n = 0 := by have := h.1; rw [h0] at this; simp at this; omega
    subst this
    exact ⟨none, 0, rfl, by omega, fun _ => rfl⟩
  · exact ⟨some ⟨g, 0, none⟩, cap, rfl, by have := h.1; omega, fun e => by cases e⟩

theorem own_rd2 {base cap : Nat} {A : Option Addr} {d : List Sp} {w : World} (h : w.ownsRow base 34 2 (.slice A d.length cap) d.length (encs d)) : RdSp w A d := by
  obtain ⟨A3, c3, e, r⟩ := own_rd h
  cases e
  exact r
set_option maxRecDepth 100000 in
set_option maxHeartbeats 2000000 in
theorem RefMerge_calls (A : Option Addr) (cap : Nat) (d : List Sp) (w : World) (hr : RdSp w A d) (hl : d.length ≤ 1000) (hok : ∀ x ∈ d, x.1 < x.2) :
    Calls Try.prog 17 #[.slice A d.length cap] w (RefMergePost d w) := by
  have HOK := Lib.hid hok
  clear hok
  go_enter Try.func17, Try.ntmps17
  go_wp2
  go_loopw [3, 4] (fun v i wr => ∃ (k : Nat) (m : List Sp), k ≤ d.length ∧ i = .int .i64 (k : Int) ∧ IsMerge (· ∈ d.take k) m ∧ m.length ≤ k ∧ wr.ownsRow w.heap.size 34 2 v m.length (encs m) ∧ Below w.heap.size w wr) (fun _ i _ => d.length - (intOf i).toNat)
  case atStart => exact ⟨0, [], by omega, rfl, by simpa using IsMerge.nil, by simp, World.ownsRow_nil _ _ _ _, Below.refl _ _⟩
  case round =>
    obtain ⟨k, m, hk, rfl, hm, hlm, hown, hB⟩ := hrel
    have HM := Lib.hid hm
    clear hm
    by_cases hlt : k < d.length
    · obtain ⟨x, hx⟩ : ∃ x, d[k]? = some x := ⟨_, List.getElem?_eq_getElem hlt⟩
      obtain ⟨ad, rfl, x1, x2⟩ := (hr.below hB) k x hx
      have HX := Lib.hid hx
      clear hx
      obtain ⟨A2, c2, rfl, hc2, hA2⟩ := own_slice hown
      have hr2 := own_rd2 hown
      have HA2 := Lib.hid hA2
      clear hA2
      go_wp2_with (go_at_call 29; go_must (refine (PutPost_w hr2 (by omega) hc2 HA2.out).mono ?_); rintro e w4 ⟨k2, v2, hp1, hp2, hp3, rfl, ho4, hB4⟩; have HP1 := Lib.hid hp1; have HP2 := Lib.hid hp2; clear hp1 hp2)
      go_roundw
      case rel => exact ⟨k + 1, _, by omega, by go_num, (HM.out.put x (HOK.out x (List.mem_of_getElem? HX.out)) k2 HP1.out HP2.out).congr (fun z => by rw [take_snoc d k x HX.out]; simp), by have := putAt_len m (grow x m) k2; omega, own_base ho4 hB.size, bgo hB (Nat.le_refl _) hB4⟩
      case measure => simp [intOf]; omega
    · obtain rfl : k = d.length := by omega
      go_wp2
      go_ret
      have e := HM.out
      rw [List.take_length] at e
      exact ⟨m, _, rfl, e, by omega, hown, hB⟩
end Go.Proofs.Ytdmflbdcfnpikaa.Hand
