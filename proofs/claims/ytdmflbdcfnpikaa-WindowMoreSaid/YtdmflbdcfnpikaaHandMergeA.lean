/- window.Merge, walked: it answers with the merging of its spans. -/
import Derived.Test.YtdmflbdcfnpikaaHandCompact
import Derived.Deep.QuietTactic
import Derived.BigQuiet
import Derived.WalkSmall
namespace Go.Proofs.Ytdmflbdcfnpikaa.Hand
open Go.RowKit Go.Proofs.Ytdmflbdcfnpikaa Go.Proofs.Ytdmflbdcfnpikaa.Spans Go.Proofs.YtdmflbdcfnpikaaW Go.Proofs.YtdmflbdcfnpikaaW.PrintWords Go.Lib

theorem Merge_many (A : Option Addr) (cap n : Nat) (w : World) (hl : 4096 < n) :
    Calls Try.prog 16 #[.slice A n cap] w fun e w' => e = .returned (.tuple #[.slice none 0 0, .int .i64 5]) ∧ Below w.heap.size w w' := by
  go_enter Try.func16, Try.ntmps16
  go_wp2
  go_ret2
  exact ⟨rfl, Below.refl _ _⟩

theorem Merge_bad (A : Option Addr) (cap : Nat) (d : List Sp) (w : World) (hr : RdSp w A d) (hl : d.length ≤ 4096) (hb : d.any (fun x => decide (x.2 ≤ x.1)) = true) :
    Calls Try.prog 16 #[.slice A d.length cap] w fun e w' => e = .returned (.tuple #[.slice none 0 0, .int .i64 1]) ∧ Below w.heap.size w w' := by
  go_enter Try.func16, Try.ntmps16
  go_wp2_with (go_at_call 21; go_must (refine (ContainsFunc_calls A cap d _ hr hl).mono ?_); rw [hb]; rintro e w1 ⟨rfl, hB1⟩)
  go_ret2
  exact ⟨rfl, hB1⟩

theorem Compact_small (p : Option Addr) (cap n : Nat) (fv : Value) (w : World) (hn : n < 2) : Calls Try.prog 27 #[.slice p n cap, fv] w fun e w' => e = .returned (.slice p n cap) ∧ w' = w := by
  go_enter Try.func27, Try.ntmps27
  go_wp2
  go_ret
  exact ⟨rfl, rfl⟩
theorem Clone_nil (cap : Nat) (w : World) : Calls Try.prog 23 #[.slice none 0 cap] w fun e w' => e = .returned (.slice none 0 0) ∧ Below w.heap.size w w' := by
  have e0 := fun w0 : World => Lib.run_eql_slice_nil_nil (P := Try.prog) w0 0 cap Try.underlying24
  go_enter Try.func23, Try.ntmps23
  go_wp2
  go_ret
  exact ⟨rfl, Below.refl _ _⟩

theorem own_some {base n : Nat} {v : Value} {d : List Sp} {w : World} (h : w.ownsRow base 34 2 v n (encs d)) (hn : 0 < n) : ∃ g cap, v = .slice (some ⟨g, 0, none⟩) n cap ∧ base ≤ g ∧ g < w.heap.size ∧ n ≤ cap := by
  rcases h.2 with ⟨_, h0⟩ | ⟨g, cap, cur, rfl, hb, hg, hc, _⟩
  · omega
  · exact ⟨g, cap, rfl, hb, (Array.getElem?_eq_some_iff.1 hg).1, hc⟩
theorem own_nil {base : Nat} {v : Value} {d : List Sp} {w : World} (h : w.ownsRow base 34 2 v 0 (encs d)) : ∃ A cap, v = .slice A 0 cap := by
  rcases h.2 with ⟨rfl, h0⟩ | ⟨g, cap, cur, rfl, _⟩
  · exact ⟨_, _, rfl⟩
  · exact ⟨_, _, rfl⟩

theorem cell_grow {B : Nat} {w w' : World} (h : Below B w w') {a : Addr} {v : Value} (hb : a.block < B) (hc : w.cell? a = some v) : w'.cell? a = some v := (h.cell hb).trans hc
theorem mstep_nil (s : Sp) : mstep [] s = [s] := rfl
theorem mstep_cut (init : List Sp) (y s : Sp) (h : s.1 < y.2) : mstep (init ++ [y]) s = init ++ [(y.1, if y.2 < s.2 then s.2 else y.2)] := by
  unfold mstep
  simp [h]
theorem mstep_add (init : List Sp) (y s : Sp) (h : ¬ s.1 < y.2) : mstep (init ++ [y]) s = init ++ [y] ++ [s] := by
  unfold mstep
  simp [h]
theorem fold_snoc (c : List Sp) (k : Nat) (s : Sp) (h : c[k]? = some s) : (c.take (k + 1)).foldl mstep [] = mstep ((c.take k).foldl mstep []) s := by
  rw [take_snoc c k s h, List.foldl_append]
  rfl
theorem mstep_len (out : List Sp) (s : Sp) : (mstep out s).length ≤ out.length + 1 := by
  rcases List.eq_nil_or_concat out with rfl | ⟨init, y, rfl⟩
  · simp [mstep]
  · rw [List.concat_eq_append]
    by_cases h : s.1 < y.2
    · rw [mstep_cut _ _ _ h]; simp
    · rw [mstep_add _ _ _ h]; simp
theorem fold_len (c : List Sp) : ∀ out : List Sp, (c.foldl mstep out).length ≤ out.length + c.length := by
  induction c with
  | nil => intro out; simp
  | cons s c ih => intro out; have := ih (mstep out s); have := mstep_len out s; simp only [List.foldl_cons, List.length_cons]; omega

theorem grown_up {B : Nat} {w w1 w2 : World} {r : Option Nat} (h : Below B w w1) (hB : B ≤ w1.heap.size) (hg : w1.grownBy w2 r) (hr : ∀ k, r = some k → B ≤ k) : Below B w w2 :=
  h.grown hg hB hr
theorem own_two {base n : Nat} {v : Value} {xs : List Value} {w : World} {nq : Nat} {o o' : Obj} (h : w.ownsRow base 34 2 v n xs) : (((w.alloc o).drewN nq).alloc o').ownsRow base 34 2 v n xs := by
  have h1 : ((w.alloc o).drewN nq).ownsRow base 34 2 v n xs := h.alloc o
  exact h1.alloc o'
theorem box_cells (wr : World) (nq : Nat) (s : Sp) : ∀ (j : Nat) (u : Value), [Value.int IntKind.i64 s.1, Value.int IntKind.i64 s.2][j]? = some u →
    (((wr.alloc (Obj.cells #[Value.int IntKind.i64 s.1, Value.int IntKind.i64 s.2] 34)).drewN nq).alloc (Obj.cells #[Value.int IntKind.i64 s.1, Value.int IntKind.i64 s.2] 34)).cell? ((⟨wr.heap.size + 1, 0, none⟩ : Addr).add j) = some u := by
  intro j u hj
  have hh := heap_new ((wr.alloc (Obj.cells #[Value.int IntKind.i64 s.1, Value.int IntKind.i64 s.2] 34)).drewN nq) (Obj.cells #[Value.int IntKind.i64 s.1, Value.int IntKind.i64 s.2] 34)
  have hsz : ((wr.alloc (Obj.cells #[Value.int IntKind.i64 s.1, Value.int IntKind.i64 s.2] 34)).drewN nq).heap.size = wr.heap.size + 1 := by simp [World.drewN]
  rw [hsz] at hh
  have hadd : (⟨wr.heap.size + 1, 0, none⟩ : Addr).add j = ⟨wr.heap.size + 1, j, none⟩ := by unfold Addr.add; split <;> simp_all
  rw [hadd, cell_of_row _ _ _ _ _ _ hh]
  simpa using hj
theorem one_two (s : Sp) : ∀ u ∈ [Value.int IntKind.i64 s.1, Value.int IntKind.i64 s.2], u.oneCell' = true := by simp [Value.oneCell']
theorem size_two {B : Nat} {w wr : World} {nq : Nat} {o o' : Obj} (h : Below B w wr) : w.heap.size ≤ (((wr.alloc o).drewN nq).alloc o').heap.size := by
  have := h.size
  simp [World.drewN]
  omega
theorem below_two {w wr w5 : World} {nq : Nat} {o o' : Obj} {r : Option Nat} (h : Below w.heap.size w wr) (hg : (((wr.alloc o).drewN nq).alloc o').grownBy w5 r) (hr : ∀ k, r = some k → w.heap.size ≤ k) : Below w.heap.size w w5 := by
  have h1 : Below w.heap.size w (wr.alloc o) := h.alloc h.size o
  have h2 : Below w.heap.size w ((wr.alloc o).drewN nq) := below_drewN h1 _
  exact grown_up (h2.alloc h2.size o') (size_two h) hg hr

theorem own_base {B B' n : Nat} {v : Value} {xs : List Value} {w : World} (h : w.ownsRow B' 34 2 v n xs) (hB : B ≤ B') : w.ownsRow B 34 2 v n xs := by
  refine ⟨h.1, ?_⟩
  rcases h.2 with hn | ⟨g, cap, cur, hv, hb, rest⟩
  · exact .inl hn
  · exact .inr ⟨g, cap, cur, hv, by omega, rest⟩
theorem max_if (a b : Int) : max a b = if a < b then b else a := by
  rw [Int.max_def]
  split <;> split <;> omega
theorem own_top {base g c n : Nat} {init : List Sp} {y : Sp} {t : Int} {wr : World} {o : Obj} (h : wr.ownsRow base 34 2 (.slice (some ⟨g, 0, none⟩) (init.length + 1) c) (init.length + 1) (encs (init ++ [y]))) :
    (((wr.alloc o).drewN n).setCell ⟨g, init.length * 2 + 1, none⟩ (.int .i64 t)).ownsRow base 34 2 (.slice (some ⟨g, 0, none⟩) (init.length + 1) c) (init.length + 1) (encs (init ++ [(y.1, t)])) ∧
      ((wr.alloc o).drewN n).grownBy (((wr.alloc o).drewN n).setCell ⟨g, init.length * 2 + 1, none⟩ (.int .i64 t)) (some g) := by
  have h1 : ((wr.alloc o).drewN n).ownsRow base 34 2 (.slice (some ⟨g, 0, none⟩) (init.length + 1) c) (init.length + 1) (encs (init ++ [y])) := h.alloc o
  obtain ⟨h2, h3⟩ := h1.stored (init.length * 2 + 1) (.int .i64 t)
  refine ⟨?_, h3⟩
  have e : (encs (init ++ [y])).set (init.length * 2 + 1) (.int .i64 t) = encs (init ++ [(y.1, t)]) := by
    rw [encs_snoc, encs_snoc, List.set_append_right _ _ (by rw [encs_length]; omega), encs_length, show init.length * 2 + 1 - init.length * 2 = 1 by omega]
    rfl
  rwa [e] at h2
theorem below_top {w wr w5 : World} {n m k g c : Nat} {xs : List Value} {o : Obj} (h : Below w.heap.size w wr) (ho : wr.ownsRow w.heap.size 34 2 (.slice (some ⟨g, 0, none⟩) k c) m xs) (hg : ((wr.alloc o).drewN n).grownBy w5 (some g)) : Below w.heap.size w w5 := by
  have h1 : Below w.heap.size w (wr.alloc o) := h.alloc h.size o
  have h2 : Below w.heap.size w ((wr.alloc o).drewN n) := below_drewN h1 _
  exact grown_up h2 h2.size hg (fun k e => by have := Option.some.inj e; have := (ho.lt g rfl).1; omega)

def MergePost (d : List Sp) (w : World) (e : Ending) (w' : World) : Prop :=
  ∃ m v, e = .returned (.tuple #[v, .int .i64 0]) ∧ IsMerge (· ∈ d) m ∧ m.length ≤ d.length ∧ w'.ownsRow w.heap.size 34 2 v m.length (encs m) ∧ Below w.heap.size w w'

theorem any_ok {d : List Sp} (hb : d.any (fun x => decide (x.2 ≤ x.1)) = false) : ∀ x ∈ d, x.1 < x.2 := by
  intro x hx
  have := List.any_eq_false.1 hb x hx
  simp at this
  omega

set_option maxRecDepth 100000 in
set_option maxHeartbeats 2000000 in
theorem Merge_some (ad : Addr) (cap : Nat) (d : List Sp) (w : World) (hr : RdSp w (some ad) d) (hl : d.length ≤ 4096) (h0 : 0 < d.length) (hb : d.any (fun x => decide (x.2 ≤ x.1)) = false) :
    Calls Try.prog 16 #[.slice (some ad) d.length cap] w (MergePost d w) := by
  obtain ⟨i0, hi, hz0, hz1, hz2⟩ := info_parts info34
  go_enter Try.func16, Try.ntmps16
  go_wp2_with (first
    | (go_at_call 21; go_must (refine (ContainsFunc_calls (some ad) cap d _ hr hl).mono ?_); rw [hb]; rintro e w1 ⟨rfl, hB1⟩)
    | (go_at_call 23; go_must (refine (Clone_calls ad cap d _ (hr.below hB1) hl).mono ?_); rintro e w2 ⟨v, rfl, ho2, hB2⟩; obtain ⟨g, c2, rfl, hg1, hg2, hg3⟩ := own_some ho2 h0)
    | (go_at_call 24; go_must (refine (SortFunc_calls _ g c2 d _ hl ho2).mono ?_); rintro e w3 ⟨rfl, d3, hp3, hs3, ho3, hg3⟩; have hl3 := hp3.length_eq; rw [← hl3] at ho3)
    | (go_at_call 27; go_must (rw [← hl3]; refine (CompactFunc_calls _ g c2 d3 _ (by omega) ho3).mono ?_); rintro e w4 ⟨c, rfl, ho4, hm4, hs4, hg4⟩))
  have hB4 : Below w.heap.size w w4 := grown_up (grown_up (bgo hB1 (Nat.le_refl _) hB2) (by have := hB1.size; have := hB2.size; omega) hg3 (fun k e => by have := Option.some.inj e; have := hB1.size; omega)) (by have := hB1.size; have := hB2.size; have := hg3.size; omega) hg4 (fun k e => by have := Option.some.inj e; have := hB1.size; omega)
  have hg4' : g < w4.heap.size := (ho4.lt g rfl).2
  have hlc : c.length ≤ d.length := by have := hs4.length_le; omega
  clear hB1 hB2 ho2 hg1 hg2 hg3 ho3 hg4 hr
  go_loopw [5, 22] (fun v i wr => ∃ (k : Nat) (out : List Sp), k ≤ c.length ∧ i = .int .i64 (k : Int) ∧ Hid (out = (c.take k).foldl mstep []) ∧ out.length ≤ k ∧ wr.ownsRow w4.heap.size 34 2 v out.length (encs out) ∧ Below w4.heap.size w4 wr) (fun _ i _ => c.length - (intOf i).toNat)
  case atStart => exact ⟨0, [], by omega, rfl, Lib.hid (by simp), by simp, World.ownsRow_nil _ _ _ _, Below.refl _ _⟩
  case round =>
    obtain ⟨k, out, hk, rfl, ho, hlo, hown, hB⟩ := hrel
    by_cases hlt : k < c.length
    · obtain ⟨s, hs⟩ : ∃ x, c[k]? = some x := ⟨_, List.getElem?_eq_getElem hlt⟩
      obtain ⟨s1, s2⟩ := own_cell (own_below ho4 hB) hs
      have HS := Lib.hid hs
      clear hs
      rcases List.eq_nil_or_concat out with rfl | ⟨init, y, rfl⟩
      · obtain ⟨A, c5, rfl⟩ := own_nil hown
        go_wp2
        go_quiet (fail)
        go_wp2_with (at_builtin; go_must (refine wpList_append_own _ rfl _ _ 24 rfl w4.heap.size 34 i0 (.agg #[.int .i64 0, .int .i64 0]) 2 16 Try.underlying24 hi hz0 hz1 hz2 rfl (by decide) _ 0 [] rfl (own_two hown) _ 1 1 [.int .i64 s.1, .int .i64 s.2] rfl rfl (box_cells wr nq s) (one_two s) (by unfold maxLen; omega) (by omega) (size_two hB) ?_); intro v' w5 hown' hgrow _)
        go_roundw
        case rel => exact ⟨k + 1, [s], by omega, by go_num, Lib.hid (by rw [fold_snoc c k s HS.out, ← ho.out, mstep_nil]), by simp, hown', below_two hB hgrow (fun j e => (hown.lt j e).1)⟩
        case measure => simp [intOf]; omega
      · rw [List.concat_eq_append] at ho hlo hown
        have hn : (init ++ [y]).length = init.length + 1 := by simp
        rw [hn] at hown hlo
        obtain ⟨g5, c5, rfl, hg5, hg6, hg7⟩ := own_some hown (by omega)
        have hy : (init ++ [y])[init.length]? = some y := by simp
        obtain ⟨y1, y2⟩ := own_cell hown hy
        have e1 : ((init.length : Int) + 1) - 1 = init.length := by omega
        have fz := hown.frozenAt (init.length * 2 + 1)
        have e2 : (init.length : Int) < init.length + 1 := by omega
        by_cases hlt2 : s.1 < y.2
        · go_wp2
          go_quiet (fail)
          go_wp2
          go_region
          go_wp2
          go_roundw
          case rel => exact ⟨k + 1, init ++ [(y.1, max y.2 s.2)], by omega, by go_num, Lib.hid (by rw [fold_snoc c k s HS.out, ← ho.out, mstep_cut _ _ _ hlt2, max_if]), by simp; omega, by simpa using (own_top hown).1, below_top hB hown (own_top hown).2⟩
          case measure => simp [intOf]; omega
        · have e3 : y.2 ≤ s.1 := by omega
          go_wp2
          go_quiet (fail)
          go_wp2_with (at_builtin; go_must (refine wpList_append_own _ rfl _ _ 24 rfl w4.heap.size 34 i0 (.agg #[.int .i64 0, .int .i64 0]) 2 16 Try.underlying24 hi hz0 hz1 hz2 rfl (by decide) _ (init.length + 1) (encs (init ++ [y])) rfl (own_two hown) _ 1 1 [.int .i64 s.1, .int .i64 s.2] rfl rfl (box_cells wr nq s) (one_two s) (by unfold maxLen; omega) (by omega) (size_two hB) ?_); intro v' w5 hown' hgrow _)
          go_roundw
          case rel => exact ⟨k + 1, init ++ [y] ++ [s], by omega, by go_num, Lib.hid (by rw [fold_snoc c k s HS.out, ← ho.out, mstep_add _ _ _ (by omega)]), by simp; omega, by rw [encs_snoc]; simpa using hown', below_two hB hgrow (fun j e => (hown.lt j e).1)⟩
          case measure => simp [intOf]; omega
    · obtain rfl : k = c.length := by omega
      go_wp2
      go_ret2
      have e := ho.out
      rw [List.take_length] at e
      refine ⟨out, _, rfl, ?_, by omega, ?_, bgo hB4 (Nat.le_refl _) hB⟩
      · subst e
        have hok : ∀ x ∈ c, x.1 < x.2 := fun x hx => any_ok hb x ((hp3.mem_iff).1 ((hm4 x).1 hx))
        exact (fold_merge c hok (hs3.sublist hs4)).congr (fun x => (hm4 x).trans hp3.mem_iff)
      · exact own_base hown hB4.size
end Go.Proofs.Ytdmflbdcfnpikaa.Hand
