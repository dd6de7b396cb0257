/- window.Of, walked. -/
import Derived.Test.YtdmflbdcfnpikaaHandParts
namespace Go.Proofs.Ytdmflbdcfnpikaa.Hand
open Go.RowKit Go.Proofs.Ytdmflbdcfnpikaa Go.Proofs.Ytdmflbdcfnpikaa.Spans Go.Proofs.YtdmflbdcfnpikaaW Go.Proofs.YtdmflbdcfnpikaaW.PrintWords Go.Lib

/-- the spans of a time, in windows that slide: those that begin at p + 1, .. q times l. -/
def slideL (s l p : Int) (n : Nat) : List Sp := (List.range n).map fun j : Nat => ((l * (p + 1 + (j : Int)), l * (p + 1 + (j : Int)) + s) : Sp)
/-- a time's spans. -/
def ofL (k s l t : Int) : List Sp := if k = 1 then [(t - t % s, t - t % s + s)] else if k = 3 then [(t, t + s)] else if k = 2 then slideL s l ((t - s) / l) (t / l - (t - s) / l).toNat else []

theorem box_cell (X : World) (s : Sp) : ∀ (j : Nat) (u : Value), [Value.int IntKind.i64 s.1, Value.int IntKind.i64 s.2][j]? = some u →
    (X.alloc (Obj.cells #[Value.int IntKind.i64 s.1, Value.int IntKind.i64 s.2] 34)).cell? ((⟨X.heap.size, 0, none⟩ : Addr).add j) = some u := by
  intro j u hj
  have hh := heap_new X (Obj.cells #[Value.int IntKind.i64 s.1, Value.int IntKind.i64 s.2] 34)
  have hadd : (⟨X.heap.size, 0, none⟩ : Addr).add j = ⟨X.heap.size, j, none⟩ := by unfold Addr.add; split <;> simp_all
  rw [hadd, cell_of_row _ _ _ _ _ _ hh]
  simpa using hj
theorem size_one {B : Nat} {X : World} {o : Obj} (h : B ≤ X.heap.size) : B ≤ (X.alloc o).heap.size := by simp; omega
theorem below_one {B : Nat} {w X w5 : World} {o : Obj} {r : Option Nat} (h : Below B w X) (hB : B ≤ X.heap.size) (hg : (X.alloc o).grownBy w5 r) (hr : ∀ k, r = some k → B ≤ k) : Below B w w5 :=
  grown_up (h.alloc hB o) (size_one hB) hg hr
theorem size_after {w w1 : World} {o : Obj} (h : Below (w.alloc o).heap.size (w.alloc o) w1) : w.heap.size ≤ w1.heap.size := by have := h.size; simp at this; omega
theorem below_after {w w1 : World} {o : Obj} (h : Below (w.alloc o).heap.size (w.alloc o) w1) : Below w.heap.size w w1 := bgo ((Below.refl _ _).alloc (Nat.le_refl _) _) (by simp) h

def OfPost (l : List Sp) (er : Int) (w : World) (e : Ending) (w' : World) : Prop :=
  ∃ v, e = .returned (.tuple #[v, .int .i64 er]) ∧ w'.ownsRow w.heap.size 34 2 v l.length (encs l) ∧ Below w.heap.size w w'

set_option maxHeartbeats 1000000 in
theorem Of_bad (k s l t : Int) (w : World) (hn : ¬ (Righted k s l ∧ 0 ≤ t ∧ t ≤ 1000000000)) : Calls Try.prog 8 #[win k s l, .int .i64 t] w (OfPost [] 1 w) := by
  by_cases hR : Righted k s l
  · by_cases h1 : t < 0
    · go_enter Try.func8, Try.ntmps8
      go_wp2_with (go_at_call 10; go_must (refine (Right_calls k s l _).mono ?_); rw [decide_eq_true hR]; rintro e w1 ⟨rfl, hB1⟩)
      go_ret2
      exact ⟨_, rfl, World.ownsRow_nil _ _ _ _, bgo ((Below.refl _ _).alloc (Nat.le_refl _) _) (by simp) hB1⟩
    · have h2 : 1000000000 < t := by have h3 : ¬ (0 ≤ t ∧ t ≤ 1000000000) := fun h => hn ⟨hR, h⟩; omega
      go_enter Try.func8, Try.ntmps8
      go_wp2_with (go_at_call 10; go_must (refine (Right_calls k s l _).mono ?_); rw [decide_eq_true hR]; rintro e w1 ⟨rfl, hB1⟩)
      go_ret2
      exact ⟨_, rfl, World.ownsRow_nil _ _ _ _, bgo ((Below.refl _ _).alloc (Nat.le_refl _) _) (by simp) hB1⟩
  · go_enter Try.func8, Try.ntmps8
    go_wp2_with (go_at_call 10; go_must (refine (Right_calls k s l _).mono ?_); rw [decide_eq_false hR]; rintro e w1 ⟨rfl, hB1⟩)
    go_ret2
    exact ⟨_, rfl, World.ownsRow_nil _ _ _ _, bgo ((Below.refl _ _).alloc (Nat.le_refl _) _) (by simp) hB1⟩

set_option maxHeartbeats 1000000 in
theorem Of_none (t : Int) (w : World) (h0 : 0 ≤ t) (h1 : t ≤ 1000000000) : Calls Try.prog 8 #[win 0 0 0, .int .i64 t] w (OfPost (ofL 0 0 0 t) 0 w) := by
  have hR : Righted 0 0 0 := by decide
  have hR' := decide_eq_true hR
  clear hR
  go_enter Try.func8, Try.ntmps8
  go_wp2_with (go_at_call 10; go_must (refine (Right_calls 0 0 0 _).mono ?_); rw [hR']; rintro e w1 ⟨rfl, hB1⟩; have HB := Lib.hid hB1; have HF := hB1.cell (p := ⟨w.heap.size, 0, none⟩) (by simp))
  go_ret2
  exact ⟨_, rfl, World.ownsRow_nil _ _ _ _, bgo ((Below.refl _ _).alloc (Nat.le_refl _) _) (by simp) HB.out⟩

set_option maxHeartbeats 1000000 in
theorem Of_session (s t : Int) (w : World) (hs : 1 ≤ s) (hs' : s ≤ 1000000) (h0 : 0 ≤ t) (h1 : t ≤ 1000000000) : Calls Try.prog 8 #[win 3 s 0, .int .i64 t] w (OfPost (ofL 3 s 0 t) 0 w) := by
  have hR : Righted 3 s 0 := by unfold Righted; omega
  have hR' := decide_eq_true hR
  have ew : IntKind.i64.wrap (t + s) = t + s := by rw [IntKind.wrap_i64]; omega
  clear hR
  obtain ⟨i0, hi, hz0, hz1, hz2⟩ := info_parts info34
  go_enter Try.func8, Try.ntmps8
  go_wp2_with (first
    | (go_at_call 10; go_must (refine (Right_calls 3 s 0 _).mono ?_); rw [hR']; rintro e w1 ⟨rfl, hB1⟩; have HB := Lib.hid hB1; have HF := hB1.cell (p := ⟨w.heap.size, 0, none⟩) (by simp); have HF1 := hB1.cell (p := ⟨w.heap.size, 1, none⟩) (by simp))
    | (at_builtin; go_must (refine wpList_append_own _ rfl _ _ 24 rfl w.heap.size 34 i0 (.agg #[.int .i64 0, .int .i64 0]) 2 16 Try.underlying24 hi hz0 hz1 hz2 rfl (by decide) _ 0 [] rfl (World.ownsRow_nil _ _ _ _) _ 1 1 [.int .i64 t, .int .i64 (t + s)] rfl rfl (box_cell w1 (t, t + s)) (one_two (t, t + s)) (by unfold maxLen; omega) (by omega) (size_one (size_after HB.out)) ?_); intro v' w5 hown' hgrow _))
  go_ret2
  exact ⟨_, rfl, by simpa [ofL, encs, enc] using hown', below_one (below_after HB.out) (size_after HB.out) hgrow (fun k e => by cases e)⟩

set_option maxHeartbeats 1000000 in
theorem Of_tumble (s t : Int) (w : World) (hs : 1 ≤ s) (hs' : s ≤ 1000000) (h0 : 0 ≤ t) (h1 : t ≤ 1000000000) : Calls Try.prog 8 #[win 1 s 0, .int .i64 t] w (OfPost (ofL 1 s 0 t) 0 w) := by
  have hR : Righted 1 s 0 := by unfold Righted; omega
  have hR' := decide_eq_true hR
  have er : t.tmod s = t % s := Int.tmod_eq_emod_of_nonneg h0
  have e1 := Int.emod_nonneg t (show s ≠ 0 by omega)
  have e2 := Int.emod_lt_of_pos t (show 0 < s by omega)
  obtain ⟨r, hr⟩ : ∃ r, r = t % s := ⟨_, rfl⟩
  have hz : ¬ s = 0 := by omega
  rw [← hr] at er e1 e2
  have ew0 : IntKind.i64.wrap r = r := by rw [IntKind.wrap_i64]; omega
  have ew1 : IntKind.i64.wrap (t - r) = t - r := by rw [IntKind.wrap_i64]; omega
  have ew : IntKind.i64.wrap (t - r + s) = t - r + s := by rw [IntKind.wrap_i64]; omega
  have hL : ofL 1 s 0 t = [(t - r, t - r + s)] := by rw [hr]; rfl
  clear hR hr
  rw [hL]
  obtain ⟨i0, hi, hz0, hz1, hz2⟩ := info_parts info34
  go_enter Try.func8, Try.ntmps8
  go_wp2_with (first
    | (go_at_call 10; go_must (refine (Right_calls 1 s 0 _).mono ?_); rw [hR']; rintro e w1 ⟨rfl, hB1⟩; have HB := Lib.hid hB1; have HF := hB1.cell (p := ⟨w.heap.size, 0, none⟩) (by simp); have HF1 := hB1.cell (p := ⟨w.heap.size, 1, none⟩) (by simp))
    | (at_builtin; go_must (refine wpList_append_own _ rfl _ _ 24 rfl w.heap.size 34 i0 (.agg #[.int .i64 0, .int .i64 0]) 2 16 Try.underlying24 hi hz0 hz1 hz2 rfl (by decide) _ 0 [] rfl (World.ownsRow_nil _ _ _ _) _ 1 1 [.int .i64 (t - r), .int .i64 (t - r + s)] rfl rfl (box_cell w1 (t - r, t - r + s)) (one_two (t - r, t - r + s)) (by unfold maxLen; omega) (by omega) (size_one (size_after HB.out)) ?_); intro v' w5 hown' hgrow _))
  go_ret2
  exact ⟨_, rfl, by simpa [encs, enc] using hown', below_one (below_after HB.out) (size_after HB.out) hgrow (fun k e => by cases e)⟩
end Go.Proofs.Ytdmflbdcfnpikaa.Hand
