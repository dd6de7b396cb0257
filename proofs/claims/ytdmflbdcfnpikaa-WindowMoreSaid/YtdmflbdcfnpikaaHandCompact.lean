/- slices.CompactFunc at spans: the same spans, in their order, fewer times. -/
import Derived.Test.YtdmflbdcfnpikaaHandCompactA
import Derived.Deep.RegionHeld
import Derived.Laws.OwnMore
import Derived.Lib.SliceRun
import Derived.Lib.BufferOwn
import Derived.Outline
namespace Go.Proofs.Ytdmflbdcfnpikaa.Hand
open Go.RowKit Go.Proofs.Ytdmflbdcfnpikaa Go.Proofs.Ytdmflbdcfnpikaa.Spans Go.Proofs.YtdmflbdcfnpikaaW Go.Proofs.YtdmflbdcfnpikaaW.PrintWords Go.Lib

theorem zero_one : (Value.agg #[Value.int IntKind.i64 0, Value.int IntKind.i64 0]).cells.all (·.oneCell') = true := by simp [Value.cells, Value.oneCell']
theorem encs_take (L : List Sp) : ∀ c, (encs L).take (c * 2) = encs (L.take c) := by
  induction L with
  | nil => intro c; simp [encs]
  | cons y L ih =>
    intro c
    have e : ∀ (y : Sp) (L : List Sp), encs (y :: L) = .int .i64 y.1 :: .int .i64 y.2 :: encs L := by intro y L; simp [encs, enc]
    rcases c with _ | c
    · simp [encs]
    · rw [List.take_succ_cons, e, e, ← ih, show (c + 1) * 2 = c * 2 + 1 + 1 by omega]
      rfl
theorem CI.ends {d : List Sp} {m : Nat} {L C : List Sp} (h : CI d m L C) (hm : m + 1 = d.length) : (encs L).take (C.length * 2) = encs C ∧ (∀ x, x ∈ C ↔ x ∈ d) ∧ C.Sublist d := by
  have hs := h.sub
  have ha := h.all
  rw [hm, List.take_length] at hs ha
  exact ⟨by rw [encs_take, h.head], fun x => ⟨fun hx => hs.subset hx, ha x⟩, hs⟩

def CompactPost (base g cap : Nat) (d : List Sp) (w : World) (e : Ending) (w' : World) : Prop :=
  ∃ c : List Sp, e = .returned (.slice (some ⟨g, 0, none⟩) c.length cap) ∧ w'.ownsRow base 34 2 (.slice (some ⟨g, 0, none⟩) c.length cap) c.length (encs c) ∧ (∀ x, x ∈ c ↔ x ∈ d) ∧ c.Sublist d ∧ w.grownBy w' (some g)

set_option maxRecDepth 100000 in
set_option maxHeartbeats 1000000 in
theorem CompactFunc_calls (base g cap : Nat) (d : List Sp) (w : World) (hl : d.length ≤ 4096) (h : w.ownsRow base 34 2 (.slice (some ⟨g, 0, none⟩) d.length cap) d.length (encs d)) :
    Calls Try.prog 27 #[.slice (some ⟨g, 0, none⟩) d.length cap, .func (.func 28) #[] #[]] w (CompactPost base g cap d w) := by
  by_cases h2 : d.length < 2
  · go_enter Try.func27, Try.ntmps27
    go_wp2
    go_ret
    exact ⟨d, rfl, h, fun _ => Iff.rfl, List.Sublist.refl _, World.grownBy.refl _ _⟩
  go_enter Try.func27, Try.ntmps27
  go_wp2
  go_loopw [5] (fun i wr => ∃ k : Nat, k + 1 ≤ d.length ∧ i = .int .i64 ((k : Int) + 1) ∧ w.grownBy wr (some g) ∧ wr.ownsRow base 34 2 (.slice (some ⟨g, 0, none⟩) d.length cap) d.length (encs d)) (fun i _ => d.length - (intOf i).toNat)
  case atStart => exact ⟨0, by omega, rfl, World.grownBy.refl _ _, h⟩
  case round =>
    obtain ⟨k, hk, rfl, hB, ho⟩ := hrel
    by_cases hlt : k + 1 < d.length
    · obtain ⟨x, hx⟩ : ∃ x, d[k + 1]? = some x := ⟨_, List.getElem?_eq_getElem hlt⟩
      obtain ⟨y, hy⟩ : ∃ y, d[k]? = some y := ⟨_, List.getElem?_eq_getElem (by omega)⟩
      obtain ⟨x1, x2⟩ := own_cell ho hx
      obtain ⟨y1, y2⟩ := own_cell ho hy
      have e1 : (k : Int) + 1 - 1 = k := by omega
      have e2 : IntKind.i64.wrap (k : Int) = k := by rw [IntKind.wrap_i64]; omega
      have HX := Lib.hid hx
      have HY := Lib.hid hy
      clear hx hy
      go_wp2
      go_region_held (fun w' => w'.cell? ⟨g, (k + 1) * 2, none⟩ = some (.int .i64 x.1) ∧ w'.cell? ⟨g, (k + 1) * 2 + 1, none⟩ = some (.int .i64 x.2) ∧ w'.cell? ⟨g, k * 2, none⟩ = some (.int .i64 y.1) ∧ w'.cell? ⟨g, k * 2 + 1, none⟩ = some (.int .i64 y.2)) (first | exact ⟨x1, x2, y1, y2⟩ | exact ⟨(hB1.cell (lt_of_cell x1)).trans x1, (hB1.cell (lt_of_cell x2)).trans x2, (hB1.cell (lt_of_cell y1)).trans y1, (hB1.cell (lt_of_cell y2)).trans y2⟩) ((go_at_call 28; go_must (refine (clo28 _ _ _).mono ?_); rintro e w1 ⟨rfl, hB1⟩))
      all_goals (
        have hB' := grownBy_below (grown_drew hB) hB1
        have ho' := own_below ho.drew hB1
        clear x1 x2 y1 y2 hB ho
        by_cases hxy : x = y
        · rw [decide_eq_true hxy]
          subst hxy
          have e3 : k + 1 ≤ d.length := by omega
          have e4 : ¬ cap = k + 1 := by have := own_cap h; omega
          go_wp2
          go_loopw [5, 7] (fun a i wr => ∃ (j : Nat) (L C : List Sp), j + 1 ≤ d.length - (k + 1) ∧ a = .int .i64 (C.length : Int) ∧ i = .int .i64 ((j : Int) + 1) ∧ Hid (CI d (k + 1 + j) L C) ∧ w.grownBy wr (some g) ∧ wr.ownsRow base 34 2 (.slice (some ⟨g, 0, none⟩) d.length cap) d.length (encs L)) (fun _ i _ => d.length - (intOf i).toNat)
          case atStart => exact ⟨0, d, d.take (k + 1), by omega, by rw [List.length_take, Nat.min_eq_left (by omega)]; rfl, rfl, Lib.hid (CI.start HX.out HY.out), hB', ho'⟩
          case round =>
            obtain ⟨j, L, C, hj, rfl, rfl, hC, hB, ho⟩ := hrel
            by_cases hlt2 : j + 1 < d.length - (k + 1)
            · obtain ⟨x3, hx⟩ : ∃ x, d[k + 1 + j + 1]? = some x := ⟨_, List.getElem?_eq_getElem (by omega)⟩
              obtain ⟨y3, hy⟩ : ∃ x, d[k + 1 + j]? = some x := ⟨_, List.getElem?_eq_getElem (by omega)⟩
              have hxL := (hC.out.rest (k + 1 + j + 1) (by omega)).trans hx
              have hyL := (hC.out.rest (k + 1 + j) (by omega)).trans hy
              obtain ⟨x1, x2⟩ := own_cell ho hxL
              obtain ⟨y1, y2⟩ := own_cell ho hyL
              rw [show (k + 1 + j + 1) * 2 = (k + 1) * 2 + (j + 1) * 2 by omega] at x1 x2
              rw [show (k + 1 + j) * 2 = (k + 1) * 2 + j * 2 by omega] at y1 y2
              have f1 : (j : Int) + 1 - 1 = j := by omega
              have f2 : IntKind.i64.wrap (j : Int) = j := by rw [IntKind.wrap_i64]; omega
              have HX3 := Lib.hid hx
              have HY3 := Lib.hid hy
              have HXL := Lib.hid hxL
              clear hx hy hxL hyL e1 e2
              go_wp2
              go_region_held (fun w' => w'.cell? ⟨g, (k + 1) * 2 + (j + 1) * 2, none⟩ = some (.int .i64 x3.1) ∧ w'.cell? ⟨g, (k + 1) * 2 + (j + 1) * 2 + 1, none⟩ = some (.int .i64 x3.2) ∧ w'.cell? ⟨g, (k + 1) * 2 + j * 2, none⟩ = some (.int .i64 y3.1) ∧ w'.cell? ⟨g, (k + 1) * 2 + j * 2 + 1, none⟩ = some (.int .i64 y3.2)) (first | exact ⟨x1, x2, y1, y2⟩ | exact ⟨(hB2.cell (lt_of_cell x1)).trans x1, (hB2.cell (lt_of_cell x2)).trans x2, (hB2.cell (lt_of_cell y1)).trans y1, (hB2.cell (lt_of_cell y2)).trans y2⟩) ((go_at_call 28; go_must (refine (clo28 _ _ _).mono ?_); rintro e w2 ⟨rfl, hB2⟩))
              all_goals (
                have hB3 := grownBy_below (grown_drew hB) hB2
                have ho3 := own_below ho.drew hB2
                clear x1 x2 y1 y2 hB ho
                by_cases hxy : x3 = y3
                · rw [decide_eq_true hxy]
                  subst hxy
                  go_wp2
                  go_roundw
                  case rel => exact ⟨j + 1, L, C, by omega, rfl, by go_num, Lib.hid (hC.out.skip HX3.out HY3.out), hB3, ho3⟩
                  case measure => simp [intOf]; omega
                · rw [decide_eq_false hxy]
                  obtain ⟨x1, x2⟩ := own_cell ho3 HXL.out
                  rw [show (k + 1 + j + 1) * 2 = (k + 1) * 2 + (j + 1) * 2 by omega] at x1 x2
                  have hcl := hC.out.le
                  have hcz := hC.out.size
                  obtain ⟨z, hz⟩ : ∃ z, L[C.length]? = some z := ⟨_, List.getElem?_eq_getElem (by omega)⟩
                  obtain ⟨z1, z2⟩ := own_cell ho3 hz
                  have fz1 := ho3.frozenAt (C.length * 2)
                  have fz2 := ho3.frozenAt (C.length * 2 + 1)
                  have HZ := Lib.hid hz
                  clear hz
                  go_wp2
                  go_roundw
                  case rel => exact ⟨j + 1, L.set C.length x3, C ++ [x3], by omega, by simp, by go_num, Lib.hid (hC.out.push HX3.out), grownBy_trans hB3 (own_set ho3 C.length x3).2, (own_set ho3 C.length x3).1⟩
                  case measure => simp [intOf]; omega)
            · obtain ⟨q1, q2, q3⟩ := hC.out.ends (by omega)
              have hcl := hC.out.le
              have e5 : ¬ cap = C.length := by have := own_cap h; omega
              have e6 : C.length ≤ d.length := by omega
              have e7 : C.length ≤ cap := by have := own_cap h; omega
              have Q1 := Lib.hid q1
              have Q2 := Lib.hid q2
              clear q1 q2
              obtain ⟨w3, hrun3, hown3, hgr3⟩ := run_clear_tail (P := Try.prog) wr 24 0 base 34 (.agg #[.int .i64 0, .int .i64 0]) 2 Try.underlying24 zero34 rfl zero_one g C.length d.length (d.length - C.length) (cap - C.length) cap (encs L) (by omega) (by omega) ho
              go_wp2
              go_ret
              exact ⟨C, rfl, Q1.out ▸ hown3, Q2.out, q3, grownBy_trans hB hgr3⟩
        · rw [decide_eq_false hxy]
          have e3 : k + 1 ≤ d.length := by omega
          go_wp2
          go_roundw
          case rel => exact ⟨k + 1, by omega, by go_num, hB', ho'⟩
          case measure => simp [intOf]; omega)
    · have e1 : (k : Int) + 1 = d.length := by omega
      go_wp2
      go_ret
      exact ⟨d, rfl, ho, fun _ => Iff.rfl, List.Sublist.refl _, hB⟩
end Go.Proofs.Ytdmflbdcfnpikaa.Hand
