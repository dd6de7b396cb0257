/- The law WindowOnce, walked. -/
import Derived.Test.YtdmflbdcfnpikaaHandMerges
namespace Go.Proofs.Ytdmflbdcfnpikaa.Spans
def within (x : Sp) (y : Sp) : Bool := decide (y.1 ≤ x.1) && decide (x.2 ≤ y.2)
theorem count_zero {l : List Sp} {x : Sp} (h : ∀ y ∈ l, within x y = false) : l.countP (within x) = 0 := by
  rw [List.countP_eq_zero]
  intro y hy
  rw [h y hy]
  simp
theorem count_one : ∀ {m : List Sp}, (∀ y ∈ m, y.1 < y.2) → m.Pairwise (fun a b => a.2 ≤ b.1) → ∀ (x : Sp), x.1 < x.2 → (∃ y ∈ m, y.1 ≤ x.1 ∧ x.2 ≤ y.2) → m.countP (within x) = 1
  | [], _, _, x, _, h => by obtain ⟨y, hy, _⟩ := h; cases hy
  | z :: m, hok, hc, x, hx, h => by
    obtain ⟨c1, c2⟩ := List.pairwise_cons.1 hc
    by_cases hz : within x z = true
    · rw [List.countP_cons_of_pos hz, count_zero]
      intro y hy
      have := c1 y hy
      have hzz : z.1 ≤ x.1 ∧ x.2 ≤ z.2 := by simpa [within] using hz
      simp [within]
      omega
    · rw [List.countP_cons_of_neg (by simpa using hz)]
      refine count_one (fun y hy => hok y (by simp [hy])) c2 x hx ?_
      obtain ⟨y, hy, h1, h2⟩ := h
      rcases List.mem_cons.1 hy with rfl | hy
      · exact absurd (by simp [within, h1, h2]) hz
      · exact ⟨y, hy, h1, h2⟩
end Go.Proofs.Ytdmflbdcfnpikaa.Spans
namespace Go.Proofs.Ytdmflbdcfnpikaa.Hand
open Go.RowKit Go.Proofs.Ytdmflbdcfnpikaa Go.Proofs.Ytdmflbdcfnpikaa.Spans Go.Proofs.YtdmflbdcfnpikaaW Go.Proofs.YtdmflbdcfnpikaaW.PrintWords Go.Lib

theorem Once_huge (A : Option Addr) (cap : Nat) (d : List Sp) (w : World) (h : 300 < d.length) (hm : d.length ≤ 9223372036854775807) : Calls Try.prog 6 #[.slice A d.length cap] w (Yes w) := by
  have hd : decide (300 < d.length) = true := decide_eq_true h
  go_enter Try.func6, Try.ntmps6
  go_wp2
  go_ret
  exact ⟨rfl, Below.refl _ _⟩
theorem Once_bad (A : Option Addr) (cap : Nat) (d : List Sp) (w : World) (hr : RdSp w A d) (h : d.length ≤ 300) (hb : d.any (fun x => decide (x.2 ≤ x.1)) = true) : Calls Try.prog 6 #[.slice A d.length cap] w (Yes w) := by
  have hd : decide (300 < d.length) = false := decide_eq_false (by omega)
  have HB := Lib.hid hb
  clear hb
  go_enter Try.func6, Try.ntmps6
  go_wp2_with (first
    | (go_at_call 16; go_must (refine (Merge_bad A cap d _ hr (by omega) HB.out).mono ?_); rintro e w2 ⟨rfl, hB2⟩)
    | (go_at_call 14; go_must (refine (awake_calls _).mono ?_); rintro e w5 ⟨rfl, hB5⟩))
  go_ret
  exact ⟨rfl, bgo hB2 (Nat.le_refl _) hB5⟩
theorem drop_rev {d : List Sp} {p : Nat} {x : Sp} (h : d[p]? = some x) : (d.drop p).reverse = (d.drop (p + 1)).reverse ++ [x] := by
  obtain ⟨hp, e⟩ := List.getElem?_eq_some_iff.1 h
  rw [List.drop_eq_getElem_cons hp, e, List.reverse_cons]
theorem chain_get {m : List Sp} (h : m.Pairwise (fun a b => a.2 ≤ b.1)) {p : Nat} {x y : Sp} (hy : m[p]? = some y) (hx : m[p + 1]? = some x) : y.2 ≤ x.1 := by
  obtain ⟨h1, e1⟩ := List.getElem?_eq_some_iff.1 hx
  obtain ⟨h2, e2⟩ := List.getElem?_eq_some_iff.1 hy
  have := List.pairwise_iff_getElem.1 h p (p + 1) h2 h1 (by omega)
  rw [e1, e2] at this
  exact this
def cnt (m : List Sp) (x : Sp) (k : Nat) : Nat := (m.take k).countP (within x)
theorem cnt_next (m : List Sp) (x y : Sp) (k : Nat) (h : m[k]? = some y) : cnt m x (k + 1) = cnt m x k + if within x y then 1 else 0 := by
  unfold cnt
  rw [take_snoc m k y h, List.countP_append]
  cases hw : within x y <;> simp [hw]
theorem cnt_le (m : List Sp) (x : Sp) (k : Nat) : cnt m x k ≤ m.length := by
  unfold cnt
  have h1 := List.countP_le_length (p := within x) (l := m.take k)
  have h2 : (m.take k).length ≤ m.length := by simp; omega
  omega
set_option maxRecDepth 100000 in
set_option maxHeartbeats 4000000 in
theorem Once_good (A : Option Addr) (cap : Nat) (d : List Sp) (w : World) (hr : RdSp w A d) (h : d.length ≤ 300) (hb : d.any (fun x => decide (x.2 ≤ x.1)) = false) : Calls Try.prog 6 #[.slice A d.length cap] w (Yes w) := by
  obtain ⟨i0, hi, hz0, hz1, hz2⟩ := info_parts info34
  have hd : decide (300 < d.length) = false := decide_eq_false (by omega)
  have HG := Lib.hid (any_ok hb)
  have HB := Lib.hid hb
  have HR := Lib.hid hr
  clear hb hr
  go_enter Try.func6, Try.ntmps6
  go_wp2_with (first
    | (go_at_call 16; go_must (refine (Merge_good HR.out (by omega) HB.out).mono ?_); rintro e w1 ⟨m, v1, rfl, hm, hml, ho1, hB1⟩; have HM := Lib.hid hm; clear hm; obtain ⟨A1, c1, rfl, r1⟩ := own_rd ho1; clear ho1))
  have R1 := Lib.hid (HR.out.below hB1)
  go_loopw [5, 6] (fun v i wr => ∃ (q : Nat) (n : Int), q ≤ d.length ∧ i = .int .i64 n ∧ n + 1 = (q : Int) ∧ wr.ownsRow w1.heap.size 34 2 v (d.length - q) (encs (d.drop q).reverse) ∧ Below w1.heap.size w1 wr) (fun _ i _ => (intOf i + 1).toNat)
  case atStart => exact ⟨d.length, _, Nat.le_refl _, rfl, by omega, by simpa [encs] using World.ownsRow_nil _ _ _ _, Below.refl _ _⟩
  case round =>
    obtain ⟨q, n, hq, rfl, hn, hown, hB⟩ := hrel
    rcases q with _ | p
    · obtain rfl : n = -1 := by omega
      have hown0 : wr.ownsRow w1.heap.size 34 2 u5 d.reverse.length (encs d.reverse) := by simpa using hown
      obtain ⟨A0, c0, rfl, r0⟩ := own_rd hown0
      have hbr : d.reverse.any (fun x => decide (x.2 ≤ x.1)) = false := by rw [List.any_reverse]; exact HB.out
      have hlr : d.reverse.length = d.length := List.length_reverse
      have hbm : m.any (fun x => decide (x.2 ≤ x.1)) = false := by
        rw [List.any_eq_false]
        intro y hy
        have := HM.out.ok y hy
        simp only [decide_eq_true_eq]
        omega
      have hcall : Calls Try.prog 16 #[.slice A0 d.length c0] wr (MergePost d.reverse wr) := by
        have := Merge_good (cap := c0) r0 (by rw [hlr]; omega) hbr
        rwa [hlr] at this
      have HCALL := Lib.hid hcall
      have HBM := Lib.hid hbm
      clear hbr hbm hlr hown hown0 hcall
      have hB1w : Below w.heap.size w wr := bgo hB1 (Nat.le_refl _) hB
      have q1 := r1.below hB
      clear r1
      go_wp2_with (first
        | (go_at_call 16; go_must (first
            | ((with_reducible refine HCALL.out.mono ?_); rintro e w2 ⟨n, v2, rfl, hn2, hnl, ho2, hB2⟩; have en : m = n := ((hn2.congr (fun x => List.mem_reverse)).unique HM.out HG.out).symm; subst en; clear hn2; obtain ⟨A2, c2, rfl, q2⟩ := own_rd ho2; clear ho2; replace q1 := q1.below hB2)
            | ((with_reducible refine (Merge_good q1 (by omega) HBM.out).mono ?_); rintro e w3 ⟨n3, v3, rfl, hn3, hnl3, ho3, hB3⟩; have en : m = n3 := (hn3.unique HM.out.again HM.out.ok).symm; subst en; clear hn3; obtain ⟨A3, c3, rfl, q3⟩ := own_rd ho3; clear ho3; replace q1 := q1.below hB3; replace q2 := q2.below hB3)))
        | (go_at_call 12; go_must (first
            | ((with_reducible refine (same_yes _ _ _ _ _ _ q1 q2 (by omega)).mono ?_); rintro e w4 ⟨rfl, hB4⟩; replace q1 := q1.below hB4; replace q3 := q3.below hB4; clear q2)
            | ((with_reducible refine (same_yes _ _ _ _ _ _ q1 q3 (by omega)).mono ?_); rintro e w5 ⟨rfl, hB5⟩; replace q1 := q1.below hB5; clear q3))))
      have hB5w : Below w.heap.size w w5 := bgo (bgo (bgo (bgo hB1w (Nat.le_refl _) hB2) (Nat.le_refl _) hB3) (Nat.le_refl _) hB4) (Nat.le_refl _) hB5
      have R5 := Lib.hid (HR.out.below hB5w)
      clear hB2 hB3 hB4 hB5 hB1w r0 R1 hB hB1
      go_loopw [11] (fun i wr => ∃ j : Nat, 1 ≤ j ∧ j ≤ 1 + m.length ∧ i = .int .i64 (j : Int) ∧ Below w5.heap.size w5 wr) (fun i _ => m.length - (intOf i).toNat)
      case atStart => exact ⟨1, by omega, by omega, rfl, Below.refl _ _⟩
      case round =>
        obtain ⟨j, hj, hj2, rfl, hB⟩ := hrel
        have q6 := q1.below hB
        by_cases hlt : j < m.length
        · obtain ⟨p, rfl⟩ : ∃ p, j = p + 1 := ⟨j - 1, by omega⟩
          obtain ⟨x, hx⟩ : ∃ x, m[p + 1]? = some x := ⟨_, List.getElem?_eq_getElem hlt⟩
          obtain ⟨y, hy⟩ : ∃ y, m[p]? = some y := ⟨_, List.getElem?_eq_getElem (by omega)⟩
          obtain ⟨ad, rfl, x1, x2⟩ := q6 (p + 1) x hx
          obtain ⟨ad', e, y1, y2⟩ := q6 p y hy
          obtain rfl := Option.some.inj e
          have hc : y.2 ≤ x.1 := chain_get HM.out.chain hy hx
          have e1 : (p : Int) + 1 - 1 = p := by omega
          have HC := decide_eq_false (show ¬ x.1 < y.2 by omega)
          clear hx hy
          go_wp2
          go_quiet (fail)
          go_wp2
          go_roundw
          case rel => exact ⟨p + 1 + 1, by omega, by omega, by go_num, below_drewN hB _⟩
          case measure => simp [intOf]; omega
        · obtain ⟨w6, rfl⟩ : ∃ wo : World, wo = wr := ⟨_, rfl⟩
          have hB6w : Below w.heap.size w w6 := bgo hB5w (Nat.le_refl _) hB
          clear q1 hB
          have R6 := Lib.hid (HR.out.below hB6w)
          go_wp2
          go_loopw [12] (fun i wr => ∃ k : Nat, k ≤ d.length ∧ i = .int .i64 (k : Int) ∧ Below w6.heap.size w6 wr) (fun i _ => d.length - (intOf i).toNat)
          case atStart => exact ⟨0, by omega, rfl, Below.refl _ _⟩
          case round =>
            obtain ⟨k, hk, rfl, hB⟩ := hrel
            obtain ⟨w7, rfl⟩ : ∃ wo : World, wo = wr := ⟨_, rfl⟩
            have q7 := q6.below hB
            by_cases hltk : k < d.length
            · obtain ⟨x, hx⟩ : ∃ x, d[k]? = some x := ⟨_, List.getElem?_eq_getElem hltk⟩
              have hxm := List.mem_of_getElem? hx
              have HX := Lib.hid hx
              have hone : cnt m x m.length = 1 := by
                unfold cnt
                rw [List.take_length]
                exact count_one HM.out.ok HM.out.chain x (HG.out x hxm) (HM.out.cover x hxm)
              have HONE := Lib.hid hone
              clear hone hxm hx
              go_wp2
              go_loopw [13, 14] (fun v i wr => ∃ j : Nat, j ≤ m.length ∧ i = .int .i64 (j : Int) ∧ v = .int .i64 (cnt m x j : Int) ∧ Below w7.heap.size w7 wr) (fun _ i _ => m.length - (intOf i).toNat)
              case atStart => exact ⟨0, by omega, rfl, rfl, Below.refl _ _⟩
              case round =>
                obtain ⟨j, hj, rfl, rfl, hB2⟩ := hrel
                by_cases hltj : j < m.length
                · obtain ⟨y, hy⟩ : ∃ y, m[j]? = some y := ⟨_, List.getElem?_eq_getElem hltj⟩
                  obtain ⟨ad, rfl, y1, y2⟩ := (q7.below hB2) j y hy
                  obtain ⟨ad2, rfl, x1, x2⟩ := (R6.out.below (bgo hB (Nat.le_refl _) hB2)) k x HX.out
                  have hcn := cnt_next m x y j hy
                  have hcl := cnt_le m x (j + 1)
                  have hcl0 := cnt_le m x j
                  obtain ⟨C, hC⟩ : ∃ C, C = cnt m x j := ⟨_, rfl⟩
                  rw [← hC] at hcn hcl0 ⊢
                  have HCN := Lib.hid hcn
                  clear hcn hC hy
                  by_cases a1 : y.1 ≤ x.1
                  · have A1' := decide_eq_true a1
                    by_cases a2 : x.2 ≤ y.2
                    · have A2' := decide_eq_true a2
                      go_wp2
                      go_quiet (fail)
                      go_wp2
                      go_roundw
                      case rel => exact ⟨j + 1, by omega, by go_num, by (rw [HCN.out, if_pos (by simp [within, a1, a2])]; go_num), below_drewN hB2 _⟩
                      case measure => simp [intOf]; omega
                    · have A2' := decide_eq_false a2
                      go_wp2
                      go_quiet (fail)
                      go_wp2
                      go_roundw
                      case rel => exact ⟨j + 1, by omega, by go_num, by rw [HCN.out, if_neg (by simp [within]; omega)]; rfl, below_drewN hB2 _⟩
                      case measure => simp [intOf]; omega
                  · have A1' := decide_eq_false a1
                    go_wp2
                    go_quiet (fail)
                    go_wp2
                    go_roundw
                    case rel => exact ⟨j + 1, by omega, by go_num, by rw [HCN.out, if_neg (by simp [within]; omega)]; rfl, below_drewN hB2 _⟩
                    case measure => simp [intOf]; omega
                · obtain rfl : j = m.length := by omega
                  rw [HONE.out]
                  go_wp2
                  go_roundw
                  case rel => exact ⟨k + 1, by omega, by go_num, bgo hB (Nat.le_refl _) hB2⟩
                  case measure => simp [intOf]; omega
            · have hz : ((m.length : Int) == 0) = ((d.length : Int) == 0) := by
                rw [Bool.eq_iff_iff, beq_iff_eq, beq_iff_eq]
                rcases d with _ | ⟨x, d⟩
                · simp at hml; simp [hml]
                · obtain ⟨y, hy, _⟩ := HM.out.cover x (by simp)
                  have hpos := List.length_pos_of_mem hy
                  exact ⟨fun h => by omega, fun h => by simp only [List.length_cons] at h; omega⟩
              obtain ⟨bz, hbz⟩ : ∃ b, b = ((d.length : Int) == 0) := ⟨_, rfl⟩
              rw [← hbz] at hz
              have hbz' := hbz.symm
              clear hbz
              go_wp2_with (go_at_call 14; go_must (refine (awake_calls _).mono ?_); rintro e w8 ⟨rfl, hB8⟩)
              go_ret
              exact ⟨by simp, bgo (bgo hB6w (Nat.le_refl _) hB) (Nat.le_refl _) hB8⟩
    · obtain rfl : n = (p : Int) := by omega
      obtain ⟨x, hx⟩ : ∃ x, d[p]? = some x := ⟨_, List.getElem?_eq_getElem (by omega)⟩
      obtain ⟨ad, rfl, x1, x2⟩ := (R1.out.below hB) p x hx
      have HX := Lib.hid hx
      clear hx
      go_wp2_with (at_builtin; go_must (refine wpList_append_own _ rfl _ _ 24 rfl w1.heap.size 34 i0 (.agg #[.int .i64 0, .int .i64 0]) 2 16 Try.underlying24 hi hz0 hz1 hz2 rfl (by decide) _ (d.length - (p + 1)) (encs (d.drop (p + 1)).reverse) rfl (hown.alloc _) _ 1 1 [.int .i64 x.1, .int .i64 x.2] rfl rfl (box_cell _ x) (one_two x) (by unfold maxLen; omega) (by omega) (size_one hB.size) ?_); intro v8 w8 hown8 hgrow8 _; have HB8 := Lib.hid (below_one hB hB.size hgrow8 (fun j e => (hown.lt j e).1)); clear hgrow8)
      go_roundw
      case rel => exact ⟨p, _, by omega, rfl, by omega, by (rw [drop_rev HX.out, encs_snoc, show d.length - p = d.length - (p + 1) + 1 by omega]; exact hown8), HB8.out⟩
      case measure => simp [intOf]
theorem WindowOnce_calls (A : Option Addr) (cap : Nat) (d : List Sp) (w : World) (hr : RdSp w A d) (hm : d.length ≤ 9223372036854775807) : Calls Try.prog 6 #[.slice A d.length cap] w (Yes w) := by
  by_cases h5 : 300 < d.length
  · exact Once_huge _ cap d w h5 hm
  by_cases hb : d.any (fun x => decide (x.2 ≤ x.1)) = true
  · exact Once_bad A cap d w hr (by omega) hb
  · exact Once_good A cap d w hr (by omega) (by simpa using hb)
end Go.Proofs.Ytdmflbdcfnpikaa.Hand
