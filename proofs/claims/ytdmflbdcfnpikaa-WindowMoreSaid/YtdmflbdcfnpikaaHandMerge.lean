/- window.Merge: all its answers. -/
import Derived.Test.YtdmflbdcfnpikaaHandMergeA
import Derived.Shelf.SlSortCmp.NoneTotal
namespace Go.Proofs.Ytdmflbdcfnpikaa.Hand
open Go.RowKit Go.Proofs.Ytdmflbdcfnpikaa Go.Proofs.Ytdmflbdcfnpikaa.Spans Go.Proofs.YtdmflbdcfnpikaaW Go.Proofs.YtdmflbdcfnpikaaW.PrintWords Go.Lib

theorem Sort_none (p : Option Addr) (cap : Nat) (fv : Value) (w : World) : Calls Try.prog 24 #[.slice p 0 cap, fv] w fun e w' => e = .returned (.tuple #[]) ∧ w' = w :=
  AnyF.slices_SortFunc_none Try.sortSpan p cap fv w

/-- slices.Clone at no element. -/
theorem Clone_none (A : Option Addr) (cap : Nat) (w : World) : Calls Try.prog 23 #[.slice A 0 cap] w fun e w' => (∃ p c, e = .returned (.slice p 0 c)) ∧ Below w.heap.size w w' := by
  rcases A with _ | ad
  · exact (Clone_nil cap w).mono fun e w' ⟨h1, h2⟩ => ⟨⟨_, _, h1⟩, h2⟩
  · refine (Clone_calls ad cap [] w (fun j x h => by cases h) (by simp)).mono ?_
    rintro e w' ⟨v, rfl, ho, hB⟩
    obtain ⟨A, c, rfl⟩ := own_nil ho
    exact ⟨⟨_, _, rfl⟩, hB⟩

set_option maxRecDepth 100000 in
set_option maxHeartbeats 2000000 in
theorem Merge_none (A : Option Addr) (cap : Nat) (w : World) : Calls Try.prog 16 #[.slice A 0 cap] w (MergePost [] w) := by
  have hr : RdSp w A [] := fun j x h => by cases h
  go_enter Try.func16, Try.ntmps16
  go_wp2_with (first
    | (go_at_call 21; go_must (refine (ContainsFunc_calls A cap [] _ hr (by simp)).mono ?_); rintro e w1 ⟨rfl, hB1⟩; simp only [List.any_nil])
    | (go_at_call 23; go_must (refine (Clone_none A cap _).mono ?_); rintro e w2 ⟨⟨p, c, rfl⟩, hB2⟩)
    | (go_at_call 24; go_must (refine (Sort_none _ _ _ _).mono ?_); rintro e w3 ⟨rfl, rfl⟩)
    | (go_at_call 27; go_must (refine (Compact_small _ _ _ _ _ (by omega)).mono ?_); rintro e w4 ⟨rfl, rfl⟩))
  have hB := bgo hB1 (Nat.le_refl _) hB2
  clear hr
  go_loopw [5, 22] (fun v i wr => v = .slice none 0 0 ∧ i = .int .i64 0 ∧ Below w.heap.size w wr) (fun _ _ _ => 0)
  case atStart => exact ⟨rfl, rfl, hB⟩
  case round =>
    obtain ⟨rfl, rfl, hB⟩ := hrel
    go_wp2
    go_ret2
    exact ⟨[], _, rfl, IsMerge.nil, Nat.le_refl _, World.ownsRow_nil _ _ _ _, hB⟩

/-- window.Merge. -/
theorem Merge_calls (A : Option Addr) (cap : Nat) (d : List Sp) (w : World) (hr : RdSp w A d) :
    Calls Try.prog 16 #[.slice A d.length cap] w fun e w' => Below w.heap.size w w' ∧
      ((4096 < d.length ∧ e = .returned (.tuple #[.slice none 0 0, .int .i64 5])) ∨
       (d.length ≤ 4096 ∧ d.any (fun x => decide (x.2 ≤ x.1)) = true ∧ e = .returned (.tuple #[.slice none 0 0, .int .i64 1])) ∨
       (d.length ≤ 4096 ∧ d.any (fun x => decide (x.2 ≤ x.1)) = false ∧ MergePost d w e w')) := by
  by_cases hl : 4096 < d.length
  · exact (Merge_many A cap _ w hl).mono fun e w' ⟨h1, h2⟩ => ⟨h2, .inl ⟨hl, h1⟩⟩
  by_cases hb : d.any (fun x => decide (x.2 ≤ x.1)) = true
  · exact (Merge_bad A cap d w hr (by omega) hb).mono fun e w' ⟨h1, h2⟩ => ⟨h2, .inr (.inl ⟨by omega, hb, h1⟩)⟩
  have hb' : d.any (fun x => decide (x.2 ≤ x.1)) = false := by simpa using hb
  have hpost : Calls Try.prog 16 #[.slice A d.length cap] w (MergePost d w) := by
    rcases Nat.eq_zero_or_pos d.length with h0 | h0
    · obtain rfl := List.eq_nil_of_length_eq_zero h0
      exact Merge_none A cap w
    · obtain ⟨ad, rfl, _⟩ := hr 0 _ (List.getElem?_eq_getElem h0)
      exact Merge_some ad cap d w hr (by omega) h0 hb'
  exact hpost.mono fun e w' h => ⟨by obtain ⟨_, _, _, _, _, _, hB⟩ := h; exact hB, .inr (.inr ⟨by omega, hb', h⟩)⟩
end Go.Proofs.Ytdmflbdcfnpikaa.Hand
