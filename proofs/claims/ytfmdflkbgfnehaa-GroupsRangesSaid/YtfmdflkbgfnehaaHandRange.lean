/- The groups that a keeper owns, walked: a range over a function. -/
import Derived.Test.YtfmdflkbgfnehaaProg
import Derived.WalkKit
import Derived.KernelRfl
import Derived.RangeFuncNested
import Derived.RangeFuncBound
import Derived.RangeFuncCalls
import Derived.RangeFuncLeaves
import Derived.Shelf.Abstract
import Derived.Shelf.RegionOpen
import Derived.OwnWalkIn
import Derived.TacticsInMore
import Derived.LoopNIn
import Derived.LoopIn
import Derived.Lib.Hide
namespace Go.Proofs.Ytfmdflkbgfnehaa.Hand
open Go.RowKit Go.Shelf Go.Proofs.Ytfmdflkbgfnehaa
attribute [local go_sem] Oper.semAt_some

theorem cell_of_box_l {W : World} {B : Nat} {v : Value} {t : TypeId} (h : W.heap[B]? = some (.cells #[v] t (0, 0))) : W.cell? ⟨B, 0, none⟩ = some v ∧ W.frozen? ⟨B, 0, none⟩ = false := by
  constructor <;> simp [World.cell?, World.frozen?, h]
theorem cell_new_l (W : World) (v : Value) (t : TypeId) : (W.alloc (.cells #[v] t)).cell? ⟨W.heap.size, 0, none⟩ = some v ∧ (W.alloc (.cells #[v] t)).frozen? ⟨W.heap.size, 0, none⟩ = false :=
  cell_of_box_l (World.alloc_heap_new W _)
theorem cell_alloc_l {W : World} {a : Addr} {v : Value} (o : Obj) (h : W.cell? a = some v) : (W.alloc o).cell? a = some v := cell_kept h (World.grownBy_alloc W o none) (fun r e => by cases e)
theorem frozen_alloc_l {W : World} {a : Addr} {v : Value} (o : Obj) (h : W.cell? a = some v) (hf : W.frozen? a = false) : (W.alloc o).frozen? a = false := (frozen_kept h (World.grownBy_alloc W o none) (fun r e => by cases e)).trans hf

/-- a block lies as it lay. -/
def KeepsAt (b : Nat) (A B : World) : Prop := B.heap[b]? = A.heap[b]?
theorem KeepsAt.refl (b : Nat) (A : World) : KeepsAt b A A := rfl
theorem KeepsAt.trans {b : Nat} {A B C : World} (h : KeepsAt b A B) (k : KeepsAt b B C) : KeepsAt b A C := Eq.trans k h
theorem KeepsAt.cell {b : Nat} {A B : World} (h : KeepsAt b A B) (o : Nat) : B.cell? ⟨b, o, none⟩ = A.cell? ⟨b, o, none⟩ := World.cell?_of_block (w := A) h

abbrev ownEnc (n : Nat) (g : Fin 16) : Array Value := #[.int .i64 (g.val : Int), .int .i64 ((g.val : Int) * (n : Int) / 16)]
def upto16 (k : Nat) : List (Fin 16) := (List.finRange 16).take k

theorem upto16_succ (k : Nat) (h : k < 16) : upto16 (k + 1) = upto16 k ++ [⟨k, h⟩] := by
  unfold upto16
  rw [List.take_succ_eq_append_getElem (by simpa using h)]
  simp

theorem own_bd (k m : Nat) (hk : k ≤ 16) (hm : m ≤ 8) : 0 ≤ (k : Int) * (m : Int) ∧ (k : Int) * (m : Int) ≤ 128 :=
  ⟨Int.mul_nonneg (by omega) (by omega), Int.mul_le_mul (c := 16) (d := 8) (by omega) (by omega) (by omega) (by omega)⟩
theorem own_mul (k m : Nat) (hk : k ≤ 16) (hm : m ≤ 8) : wrap64 ((k : Int) * (m : Int)) = (k : Int) * (m : Int) := by
  have := own_bd k m hk hm
  unfold wrap64; omega
theorem own_quo (k m : Nat) (hk : k ≤ 16) (hm : m ≤ 8) : wrap64 (((k : Int) * (m : Int)).tdiv 16) = (k : Int) * (m : Int) / 16 := by
  have := own_bd k m hk hm
  rw [Int.tdiv_eq_ediv_of_nonneg this.1]
  unfold wrap64; omega

set_option maxRecDepth 100000 in
set_option maxHeartbeats 2000000 in
theorem owners1_in (F : Fence) (n : Nat) (h22 : F.fn 22) (hro : F.round = none) (hn : 1 ≤ n) (l Bn m : Nat) (hm : m ≤ 8) (J Jx : List (Fin 16) → World → Prop)
    (hY : ∀ pre x W, J pre W → pre.length < 16 → YieldAt F (n - 1) Try.prog l (ownEnc m x) W fun e W' =>
      (e = .returned (.bool true) ∧ J (pre ++ [x]) W' ∧ KeepsAt Bn W W') ∨ (e = .returned (.bool false) ∧ Jx (pre ++ [x]) W'))
    (W : World) (hBs : W.cell? ⟨Bn, 0, none⟩ = some (.int .i64 m)) (h0 : J [] W) :
    CallsIn F n Try.prog 22 #[.func (.yield l) #[] #[], .pointer (some ⟨Bn, 0, none⟩)] W fun e W' => (∃ v, e = .returned v) ∧
      ((∃ ys, ys = List.finRange 16 ∧ J ys W') ∨ (∃ pre, (∃ k, k ≤ 16 ∧ pre = upto16 k) ∧ Jx pre W')) := by
  refine callsIn_of_wp Try.func22 rfl h22 ?_ hro
  simp only [Try.ntmps22, List.size_toArray, List.length_cons, List.length_nil, Nat.reduceAdd, Nat.reduceSub, Array.replicate_succ, Array.replicate_zero, List.push_toArray, List.append_toArray, List.nil_append, List.cons_append]
  gi_wp2
  gi_loopw [4] (fun i wr => ∃ k : Nat, k ≤ 16 ∧ i = .int .i64 k ∧ J (upto16 k) wr ∧ KeepsAt Bn W wr)
    (fun i _ => 16 - (intOf i).toNat)
  case atStart => exact ⟨0, Nat.zero_le _, rfl, h0, KeepsAt.refl _ _⟩
  case round =>
    obtain ⟨k, hk, rfl, hJs, hnx⟩ := hrel
    have hc := (hnx.cell 0).trans hBs
    by_cases hlt : k < 16
    · obtain ⟨fn, tmps, assign, body, hy, hR⟩ := hY _ ⟨k, hlt⟩ wr hJs (by simp [upto16]; omega)
      dsimp only [ownEnc] at hy
      have hq := own_quo k m (by omega) hm
      have hw := own_mul k m (by omega) hm
      gi_wp2
      refine hR.mono ?_
      rintro e W3 (⟨rfl, hJ3, hk3⟩ | ⟨rfl, hJx3⟩)
      · gi_wp2
        go_roundw
        case rel => exact ⟨k + 1, by omega, by simp, by rw [upto16_succ k hlt]; exact hJ3, hnx.trans hk3⟩
        case measure => simp [intOf]; omega
      · gi_wp2
        refine bodyPost_ret (results_none rfl _ _ _) rfl ?_
        exact ⟨⟨_, rfl⟩, .inr ⟨_, ⟨k + 1, by omega, (upto16_succ k hlt).symm⟩, hJx3⟩⟩
    · obtain rfl : k = 16 := by omega
      gi_wp2
      go_end0
      exact ⟨⟨_, rfl⟩, .inl ⟨_, rfl, hJs⟩⟩

set_option maxHeartbeats 1000000 in
theorem owners_in (F : Fence) (n : Nat) (h21 : F.fn 21) (hro : F.round = none) (m : Int) (w : World) :
    CallsIn F n Try.prog 21 #[.int .i64 m] w fun e w' => e = .returned (.func (.func 22) #[] #[.pointer (some ⟨w.heap.size, 0, none⟩)]) ∧ w' = w.alloc (.cells #[.int .i64 m] 3) := by
  refine callsIn_of_wp Try.func21 rfl h21 ?_ hro
  simp only [Try.ntmps21, List.size_toArray, List.length_cons, List.length_nil, Nat.reduceAdd, Nat.reduceSub, Array.replicate_succ, Array.replicate_zero, List.push_toArray, List.append_toArray, List.nil_append, List.cons_append]
  gi_wp2
  go_ret
  exact ⟨rfl, rfl⟩

theorem upto16_prefix (k : Nat) : upto16 k <+: List.finRange 16 := List.take_prefix _ _

theorem owners_stops (F : Fence) (n : Nat) (h22 : F.fn 22) (hro : F.round = none) (hn : 1 ≤ n) (Bn m : Nat) (hm : m ≤ 8) (w : World) (hB : Bn < w.heap.size) (hc : w.cell? ⟨Bn, 0, none⟩ = some (.int .i64 m)) :
    SeqStopsK F n Try.prog 22 #[.pointer (some ⟨Bn, 0, none⟩)] (ownEnc m) (KeepsAt Bn) (fun ys => ys = List.finRange 16) (fun pre => pre <+: List.finRange 16) 16 w := fun l J Jx W hW _ _ hY h0 => by
  have hc' := (hW.cell (p := ⟨Bn, 0, none⟩) hB).trans hc
  refine (owners1_in F n h22 hro hn l Bn m hm J Jx hY W hc' h0).mono ?_
  rintro e W' ⟨he, ⟨ys, rfl, hj⟩ | ⟨pre, ⟨k, hk, rfl⟩, hj⟩⟩
  · exact ⟨he, .inl ⟨_, rfl, hj⟩⟩
  · exact ⟨he, .inr ⟨_, upto16_prefix k, hj⟩⟩

theorem many_true (m : Int) (w : World) (h1 : 1 ≤ m) (h2 : m ≤ 8) : Calls Try.prog 20 #[.int .i64 m] w fun e w' => e = .returned (.bool true) ∧ w = w' := by
  go_enter Try.func20, Try.ntmps20
  go_wp2
  go_ret
  exact ⟨rfl, rfl⟩
theorem many_false (m : Int) (w : World) (h : m < 1 ∨ 8 < m) : Calls Try.prog 20 #[.int .i64 m] w fun e w' => e = .returned (.bool false) ∧ w = w' := by
  rcases h with h | h
  · go_enter Try.func20, Try.ntmps20
    go_wp2
    go_ret
    exact ⟨rfl, rfl⟩
  · go_enter Try.func20, Try.ntmps20
    go_wp2
    go_ret
    exact ⟨by simp; omega, rfl⟩

def own16 (m : Nat) (g : Fin 16) : Int := (g.val : Int) * (m : Int) / 16
def rangeA (m : Nat) (k : Int) (l : List (Fin 16)) : Int := l.foldl (fun a g => if own16 m g < k then (g.val : Int) + 1 else a) 0
def rangeB (l : List (Fin 16)) : Int := l.foldl (fun _ g => (g.val : Int) + 1) 0
def rangeL (m : Nat) (k : Int) : List (Fin 16) := (List.finRange 16).takeWhile fun g => own16 m g ≤ k

theorem rangeA_snoc (m : Nat) (k : Int) (pre : List (Fin 16)) (x : Fin 16) : rangeA m k (pre ++ [x]) = if own16 m x < k then (x.val : Int) + 1 else rangeA m k pre := by simp [rangeA]
theorem rangeB_snoc (pre : List (Fin 16)) (x : Fin 16) : rangeB (pre ++ [x]) = (x.val : Int) + 1 := by simp [rangeB]
theorem rangeL_all (m : Nat) (k : Int) (h : ∀ g ∈ List.finRange 16, own16 m g ≤ k) : rangeL m k = List.finRange 16 := by
  unfold rangeL
  have := List.takeWhile_append_of_pos (p := fun g => decide (own16 m g ≤ k)) (l₁ := List.finRange 16) (l₂ := []) (fun g hg => by simpa using h g hg)
  simpa using this
theorem rangeL_part (m : Nat) (k : Int) (q : List (Fin 16)) (x : Fin 16) (hpre : q ++ [x] <+: List.finRange 16) (h : ∀ g ∈ q, own16 m g ≤ k) (hx : ¬ own16 m x ≤ k) : rangeL m k = q := by
  obtain ⟨r, hr⟩ := hpre
  unfold rangeL
  rw [← hr, List.append_assoc, List.takeWhile_append_of_pos (fun g hg => by simpa using h g hg)]
  simp [hx]

def RangeX (m : Nat) (k : Int) (A B : Addr) (c : Code) (pre : List (Fin 16)) (W : World) : Prop :=
  ∃ q x, c = .exit 0 ∧ pre = q ++ [x] ∧ (∀ g ∈ q, own16 m g ≤ k) ∧ ¬ own16 m x ≤ k ∧ W.cell? A = some (.int .i64 (rangeA m k q)) ∧ W.cell? B = some (.int .i64 (rangeB q))

set_option maxRecDepth 100000 in
set_option maxHeartbeats 2000000 in
theorem Range_good (m : Nat) (k : Int) (hm0 : 1 ≤ m) (hm : m ≤ 8) (hk0 : 0 ≤ k) (hk : k < m) (w : World) :
    Calls Try.prog 13 #[.int .i64 k, .int .i64 m] w fun e w' => e = .returned (.tuple #[.int .i64 (rangeA m k (rangeL m k)), .int .i64 (rangeB (rangeL m k)), .int .i64 0]) ∧ Below w.heap.size w w' := by
  refine (callsIn_wide (n := 9)).1 ?_
  refine callsIn_of_wp_marks Try.func13 rfl trivial ?_ rfl
  simp only [Try.ntmps13, List.size_toArray, List.length_cons, List.length_nil, Nat.reduceAdd, Nat.reduceSub, Array.replicate_succ, Array.replicate_zero, List.push_toArray, List.append_toArray, List.nil_append, List.cons_append]
  have d1 : decide (k < 0) = false := by simp; omega
  have d2 : decide ((m : Int) ≤ k) = false := by simp; omega
  gi_wp2_with (first | (refine ⟨trivial, ?_⟩; gi_at_call 20; refine (callsIn_wide.2 (many_true _ _ (by omega) (by omega))).mono ?_; rintro e w' ⟨rfl, rfl⟩) | (refine ⟨trivial, ?_⟩; gi_at_call 21; refine (owners_in _ _ trivial rfl _ _).mono ?_; rintro e w' ⟨rfl, rfl⟩))
  have hK := cell_new_l w (.int .i64 k) 3
  have hA := cell_new_l (w.alloc (.cells #[.int .i64 k] 3)) (.int .i64 0) 3
  have hBc := cell_new_l ((w.alloc (.cells #[.int .i64 k] 3)).alloc (.cells #[.int .i64 0] 3)) (.int .i64 0) 3
  have hM := cell_new_l (((w.alloc (.cells #[.int .i64 k] 3)).alloc (.cells #[.int .i64 0] 3)).alloc (.cells #[.int .i64 0] 3)) (.int .i64 (m : Int)) 3
  simp only [World.size_alloc] at hA hBc hM
  have hB0 : Below w.heap.size w ((((w.alloc (.cells #[.int .i64 k] 3)).alloc (.cells #[.int .i64 0] 3)).alloc (.cells #[.int .i64 0] 3)).alloc (.cells #[.int .i64 (m : Int)] 3)) :=
    ((((Below.refl _ w).alloc (Nat.le_refl _) _).alloc (by simp) _).alloc (by simp; omega) _).alloc (by simp <;> omega) _
  refine wpIn_rangeFunc_ownF rfl (by omega) (gf := 22) (lb := #[.pointer (some ⟨w.heap.size + 1 + 1 + 1, 0, none⟩)]) rfl trivial (enters_of Try.func22 (by kernel_rfl) rfl)
    (owners_stops _ _ trivial rfl (by omega) (w.heap.size + 1 + 1 + 1) m hm _ (by simp) hM.1) (fun h k => h.trans k) (fun W l o o' hl h _ _ => by simp at hl; exact World.putObj_heap_other (by omega)) (Below.refl _ _) (fun _ => rfl)
    (fun pre W => ((∀ g ∈ pre, own16 m g ≤ k) ∧ W.cell? ⟨w.heap.size, 0, none⟩ = some (.int .i64 k) ∧ W.cell? ⟨w.heap.size + 1, 0, none⟩ = some (.int .i64 (rangeA m k pre)) ∧ W.frozen? ⟨w.heap.size + 1, 0, none⟩ = false ∧ W.cell? ⟨w.heap.size + 1 + 1, 0, none⟩ = some (.int .i64 (rangeB pre)) ∧ W.frozen? ⟨w.heap.size + 1 + 1, 0, none⟩ = false) ∧ Below w.heap.size w W)
    (fun c pre W => RangeX m k ⟨w.heap.size + 1, 0, none⟩ ⟨w.heap.size + 1 + 1, 0, none⟩ c pre W ∧ Below w.heap.size w W)
    (OwnFrom.and (Own.from (fun s A B row hs hg hr => ⟨hs.1, cell_kept hs.2.1 hg hr, cell_kept hs.2.2.1 hg hr, (frozen_kept hs.2.2.1 hg hr).trans hs.2.2.2.1, cell_kept hs.2.2.2.2.1 hg hr, (frozen_kept hs.2.2.2.2.1 hg hr).trans hs.2.2.2.2.2⟩) _) (ownFrom_below (Nat.le_refl _) (by simp; omega)))
    (fun c => OwnFrom.and (Own.from (fun s A B row hs hg hr => by obtain ⟨q, x, h1, h2, h3, h4, h5, h6⟩ := hs; exact ⟨q, x, h1, h2, h3, h4, cell_kept h5 hg hr, cell_kept h6 hg hr⟩) _) (ownFrom_below (Nat.le_refl _) (by simp; omega)))
    ⟨⟨by simp, cell_alloc_l _ (cell_alloc_l _ (cell_alloc_l _ hK.1)), cell_alloc_l _ (cell_alloc_l _ hA.1), frozen_alloc_l _ (cell_alloc_l _ hA.1) (frozen_alloc_l _ hA.1 hA.2), cell_alloc_l _ hBc.1, frozen_alloc_l _ hBc.1 hBc.2⟩, hB0⟩
    (fun x => { tmps := #[.int .i64 k, .int .i64 (m : Int), .pointer (some ⟨w.heap.size, 0, none⟩), undef, .int .i64 0, .int .i64 0, .int .i64 0, .pointer (some ⟨w.heap.size + 1, 0, none⟩), .pointer (some ⟨w.heap.size + 1 + 1, 0, none⟩), .int .i64 (x.val : Int), .int .i64 ((x.val : Int) * (m : Int) / 16), .int .i64 (m : Int), .bool true, .bool false, .bool false, .int .i64 k, .bool false, .bool false, .bool false, .int .i64 k, .int .i64 (m : Int), .bool false, .bool false, .int .i64 (m : Int), .func (.func 22) #[] #[.pointer (some ⟨w.heap.size + 1 + 1 + 1, 0, none⟩)], .int .i64 (x.val : Int), .int .i64 ((x.val : Int) * (m : Int) / 16), undef, undef, undef, undef, undef, undef, undef, undef, undef, undef, undef, undef], defers := [] }) ?assign ?body ?done ?stop
  case assign =>
    intro l x W K hK
    gi_wp2
    exact hK
  case body =>
    rintro l pre x W ⟨⟨hp, ck, ca, fa, cb, fb⟩, hB⟩ _
    have hx := x.isLt
    gi_wp2
    · rename_i h1 h2
      refine ⟨(KeepsOthers.setCell _ _ _).trans (KeepsOthers.setCell _ _ _), ?_, ⟨?_, ?_, ?_, ?_, ?_, ?_⟩, ?_⟩
      · exact ((Below.heap_setCell _ _ _ _ (by simp <;> omega)).trans (Below.heap_setCell _ _ _ _ (by simp <;> omega)))
      · intro g hg; rcases List.mem_append.1 hg with hg | hg
        · exact hp g hg
        · obtain rfl : g = x := by simpa using hg
          exact h2
      · go_simp
      · rw [rangeA_snoc, if_pos (show own16 m x < k from h1)]; go_simp
      · go_simp
      · rw [rangeB_snoc]; go_simp
      · go_simp
      · exact (hB.setCell (p := ⟨w.heap.size + 1, 0, none⟩) (by simp) _).setCell (p := ⟨w.heap.size + 1 + 1, 0, none⟩) (by simp <;> omega) _
    · rename_i h1 h2
      refine ⟨KeepsOthers.refl _, ⟨pre, x, rfl, rfl, hp, by unfold own16; omega, ca, cb⟩, hB⟩
    · rename_i h1 h2
      refine ⟨KeepsOthers.setCell _ _ _, ?_, ⟨?_, ?_, ?_, ?_, ?_, ?_⟩, ?_⟩
      · exact Below.heap_setCell _ _ _ _ (by simp <;> omega)
      · intro g hg; rcases List.mem_append.1 hg with hg | hg
        · exact hp g hg
        · obtain rfl : g = x := by simpa using hg
          exact h2
      · go_simp
      · rw [rangeA_snoc, if_neg (show ¬ own16 m x < k from by unfold own16; omega)]; go_simp
      · go_simp
      · rw [rangeB_snoc]; go_simp
      · go_simp
      · exact hB.setCell (p := ⟨w.heap.size + 1 + 1, 0, none⟩) (by simp <;> omega) _
  case done =>
    rintro D ys W hD rfl ⟨⟨hne, _, ca, _, cb, _⟩, hB⟩ hK
    gi_wp2
    gi_region
    all_goals gi_wp2
    all_goals
      refine ⟨by simp, .inl ⟨_, _, rfl, run_takeDeferred (w := W.drew) hK, ?_⟩⟩
      rw [rangeL_all m k hne]
      refine ⟨_, by simp [results, Try.results13, go_sem], rfl, hB.drew.trans (belowK_b (w := w) (Nat.le_refl _) W.drew D _ _ (by simp at hD; omega) hK rfl rfl)⟩
  case stop =>
    rintro D c pre W hD hpre ⟨⟨q, x, rfl, rfl, hp, hx, ca, cb⟩, hB⟩ hK
    gi_wp2
    gi_region
    all_goals gi_wp2
    all_goals
      refine ⟨by simp, .inl ⟨_, _, rfl, run_takeDeferred (w := W.drew) hK, ?_⟩⟩
      rw [rangeL_part m k q x hpre hp (by omega)]
      refine ⟨_, by simp [results, Try.results13, go_sem], rfl, hB.drew.trans (belowK_b (w := w) (Nat.le_refl _) W.drew D _ _ (by simp at hD; omega) hK rfl rfl)⟩
end Go.Proofs.Ytfmdflkbgfnehaa.Hand
