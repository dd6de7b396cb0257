/- The closures that window.Merge hands to the library; ContainsFunc, walked. -/
import Derived.Test.YtdmflbdcfnpikaaProg
import Derived.Test.YtdmflbdcfnpikaaWWords
import Derived.Test.YtdmflbdcfnpikaaHandPlain
import Derived.WalkKit
import Derived.KernelRfl
import Derived.Lib.Hide
import Derived.Deep.DeepMust
import Derived.Lib.BufferMore
import Derived.OwnWalk
namespace Go.Proofs.Ytdmflbdcfnpikaa.Hand
open Go.RowKit Go.Proofs.Ytdmflbdcfnpikaa Go.Proofs.Ytdmflbdcfnpikaa.Spans Go.Proofs.YtdmflbdcfnpikaaW

/-- the slice at A reads as d. -/
def RdSp (w : World) (A : Option Addr) (d : List Sp) : Prop :=
  ∀ j x, d[j]? = some x → ∃ ad, A = some ad ∧ w.cell? (ad.add (j * 2)) = some (.int .i64 x.1) ∧ w.cell? ⟨(ad.add (j * 2)).block, (ad.add (j * 2)).off + 1, none⟩ = some (.int .i64 x.2)
theorem lt_of_cell {W : World} {a : Addr} {v : Value} (h : W.cell? a = some v) : a.block < W.heap.size := by
  rcases Nat.lt_or_ge a.block W.heap.size with h' | h'
  · exact h'
  · simp [World.cell?, Array.getElem?_eq_none h'] at h
theorem RdSp.below {w w' : World} {A : Option Addr} {d : List Sp} (h : RdSp w A d) (hb : Below w.heap.size w w') : RdSp w' A d := by
  intro j x hj
  obtain ⟨ad, e, h1, h2⟩ := h j x hj
  exact ⟨ad, e, (hb.cell (lt_of_cell h1)).trans h1, (hb.cell (lt_of_cell h2)).trans h2⟩

theorem ret_bool {a b : Bool} (h : a = b) : Ending.returned (.bool a) = .returned (.bool b) := by rw [h]
theorem bgo {B : Nat} {a b c : World} (h : Below B a b) (hB : B ≤ a.heap.size) (k : Below b.heap.size b c) : Below B a c := h.trans (k.mono (by have := h.size; omega))
theorem keep {B : Nat} {w w' : World} (h : Below B w w') {b o : Nat} {v : Value} (hb : b < B) (hc : w.cell? ⟨b, o, none⟩ = some v) : w'.cell? ⟨b, o, none⟩ = some v := (h.cell (p := ⟨b, o, none⟩) hb).trans hc
theorem any_yes (d : List Sp) (k : Nat) (x : Sp) (h : d[k]? = some x) (hb : x.2 ≤ x.1) : d.any (fun x => decide (x.2 ≤ x.1)) = true := by
  rw [List.any_eq_true]
  exact ⟨x, List.mem_of_getElem? h, by simpa using hb⟩
theorem take_snoc {α : Type} (d : List α) (k : Nat) (x : α) (h : d[k]? = some x) : d.take (k + 1) = d.take k ++ [x] := by
  rw [List.take_add_one, h]; rfl
theorem any_no (d : List Sp) (k : Nat) (x : Sp) (h : d[k]? = some x) (hb : ¬ x.2 ≤ x.1) (hp : (d.take k).any (fun x => decide (x.2 ≤ x.1)) = false) : (d.take (k + 1)).any (fun x => decide (x.2 ≤ x.1)) = false := by
  rw [take_snoc d k x h, List.any_append, hp]
  simp
  omega
theorem clo22 (a b : Int) (w : World) : Calls Try.prog 22 #[.agg #[.int .i64 a, .int .i64 b]] w fun e w' => e = .returned (.bool (decide (b ≤ a))) ∧ Below w.heap.size w w' := by
  go_enter Try.func22, Try.ntmps22
  go_wp2
  go_ret
  exact ⟨rfl, (Below.refl _ _).alloc (Nat.le_refl _) _⟩

set_option maxRecDepth 100000 in
set_option maxHeartbeats 1000000 in
theorem IndexFunc_calls (A : Option Addr) (cap : Nat) (d : List Sp) (w : World) (hr : RdSp w A d) (hl : d.length ≤ 4096) :
    Calls Try.prog 30 #[.slice A d.length cap, .func (.func 22) #[] #[]] w fun e w' => (∃ n : Int, e = .returned (.int .i64 n) ∧ (0 ≤ n ↔ d.any (fun x => decide (x.2 ≤ x.1)) = true)) ∧ Below w.heap.size w w' := by
  go_enter Try.func30, Try.ntmps30
  go_wp2
  go_loopw [8] (fun i wr => ∃ k : Nat, k ≤ d.length ∧ i = .int .i64 (k : Int) ∧ Hid ((d.take k).any (fun x => decide (x.2 ≤ x.1)) = false) ∧ Below w.heap.size w wr) (fun i _ => d.length - (intOf i).toNat)
  case atStart => exact ⟨0, by omega, rfl, Lib.hid (by simp), Below.refl _ _⟩
  case round =>
    obtain ⟨k, hk, rfl, hno, hB⟩ := hrel
    by_cases hlt : k < d.length
    · obtain ⟨x, hx⟩ : ∃ x, d[k]? = some x := ⟨_, List.getElem?_eq_getElem hlt⟩
      obtain ⟨ad, rfl, h1, h2⟩ := (hr.below hB) k x hx
      have HX := Lib.hid hx
      clear hx
      by_cases hb : x.2 ≤ x.1
      · go_wp2_with (go_at_call 22; go_must (refine (clo22 _ _ _).mono ?_); rintro e w1 ⟨rfl, hB1⟩)
        go_ret
        exact ⟨⟨_, rfl, ⟨fun _ => any_yes d k x HX.out hb, fun _ => by omega⟩⟩, bgo hB (Nat.le_refl _) hB1⟩
      · go_wp2_with (go_at_call 22; go_must (refine (clo22 _ _ _).mono ?_); rintro e w1 ⟨rfl, hB1⟩)
        go_roundw
        case rel => exact ⟨k + 1, by omega, by go_num, Lib.hid (any_no d k x HX.out (by omega) hno.out), bgo hB (Nat.le_refl _) hB1⟩
        case measure => simp [intOf]; omega
    · obtain rfl : k = d.length := by omega
      go_wp2
      go_ret
      have := hno.out
      rw [List.take_length] at this
      exact ⟨⟨_, rfl, ⟨fun h => by omega, fun h => by rw [this] at h; cases h⟩⟩, hB⟩

set_option maxHeartbeats 1000000 in
theorem ContainsFunc_calls (A : Option Addr) (cap : Nat) (d : List Sp) (w : World) (hr : RdSp w A d) (hl : d.length ≤ 4096) :
    Calls Try.prog 21 #[.slice A d.length cap, .func (.func 22) #[] #[]] w fun e w' => e = .returned (.bool (d.any (fun x => decide (x.2 ≤ x.1)))) ∧ Below w.heap.size w w' := by
  go_enter Try.func21, Try.ntmps21
  go_wp2_with (go_at_call 30; go_must (refine (IndexFunc_calls A cap d _ hr hl).mono ?_); rintro e w1 ⟨⟨n, rfl, hn⟩, hB1⟩; have HN := Lib.hid hn; clear hn)
  go_ret
  exact ⟨ret_bool (by rw [Bool.eq_iff_iff, ← HN.out]; simp), hB1⟩

def enc (x : Sp) : List Value := [.int .i64 x.1, .int .i64 x.2]
def encs (d : List Sp) : List Value := d.flatMap enc
theorem encs_length (d : List Sp) : (encs d).length = d.length * 2 := by
  induction d with
  | nil => rfl
  | cons x d ih => simp [encs, enc] at ih ⊢; omega
theorem encs_snoc (d : List Sp) (x : Sp) : encs (d ++ [x]) = encs d ++ [.int .i64 x.1, .int .i64 x.2] := by simp [encs, enc]
theorem encs_get (d : List Sp) : ∀ j x, d[j]? = some x → (encs d)[j * 2]? = some (.int .i64 x.1) ∧ (encs d)[j * 2 + 1]? = some (.int .i64 x.2) := by
  induction d with
  | nil => intro j x h; cases h
  | cons y d ih =>
    intro j x h
    have e : encs (y :: d) = .int .i64 y.1 :: .int .i64 y.2 :: encs d := by simp [encs, enc]
    rw [e]
    rcases j with _ | j
    · obtain rfl : y = x := by simpa using h
      exact ⟨rfl, rfl⟩
    · obtain ⟨h1, h2⟩ := ih j x (by simpa using h)
      rw [show (j + 1) * 2 = j * 2 + 1 + 1 by omega]
      exact ⟨h1, h2⟩
theorem encs_one (d : List Sp) (i : Nat) (u : Value) (h : (encs d)[i]? = some u) : ∃ j x, d[j]? = some x ∧ ((i = j * 2 ∧ u = .int .i64 x.1) ∨ (i = j * 2 + 1 ∧ u = .int .i64 x.2)) := by
  have hi := (List.getElem?_eq_some_iff.1 h).1
  rw [encs_length] at hi
  have hj : i / 2 < d.length := by omega
  obtain ⟨h1, h2⟩ := encs_get d (i / 2) _ (List.getElem?_eq_getElem hj)
  refine ⟨i / 2, _, List.getElem?_eq_getElem hj, ?_⟩
  rcases Nat.mod_two_eq_zero_or_one i with e | e
  · have : i = i / 2 * 2 := by omega
    rw [this] at h; rw [h1] at h
    exact .inl ⟨this, (Option.some.inj h).symm⟩
  · have : i = i / 2 * 2 + 1 := by omega
    rw [this] at h; rw [h2] at h
    exact .inr ⟨this, (Option.some.inj h).symm⟩
theorem RdSp.cells {w : World} {ad : Addr} {d : List Sp} (h : RdSp w (some ad) d) : ∀ i u, (encs d)[i]? = some u → w.cell? (ad.add i) = some u := by
  intro i u hi
  obtain ⟨j, x, hj, h1 | h1⟩ := encs_one d i u hi
  · obtain ⟨rfl, rfl⟩ := h1
    obtain ⟨ad', e, h1, h2⟩ := h j x hj
    obtain rfl := Option.some.inj e
    exact h1
  · obtain ⟨rfl, rfl⟩ := h1
    obtain ⟨ad', e, h1, h2⟩ := h j x hj
    obtain rfl := Option.some.inj e
    rw [PrintWords.add_field ad (j * 2) 1 (by omega)]
    exact h2

theorem encs_oneCell (d : List Sp) : ∀ u ∈ encs d, u.oneCell' = true := by
  intro u hu
  obtain ⟨i, hi⟩ := List.getElem?_of_mem hu
  obtain ⟨j, x, _, h | h⟩ := encs_one d i u hi
  · rw [h.2]; rfl
  · rw [h.2]; rfl
theorem heap_new (w : World) (o : Obj) : (w.alloc o).heap[w.heap.size]? = some o := by simp [World.alloc, -World.alloc_eq]
theorem info34 : (Try.prog.info? 34).map (fun i => (i.zero, i.size, i.bytes)) = some (some (.agg #[.int .i64 0, .int .i64 0]), 2, 16) := by kernel_rfl

set_option maxHeartbeats 1000000 in
theorem Clone_calls (ad : Addr) (cap : Nat) (d : List Sp) (w : World) (hr : RdSp w (some ad) d) (hl : d.length ≤ 4096) :
    Calls Try.prog 23 #[.slice (some ad) d.length cap] w fun e w' => ∃ v, e = .returned v ∧ w'.ownsRow w.heap.size 34 2 v d.length (encs d) ∧ Below w.heap.size w w' := by
  obtain ⟨i0, hi, hz0, hz1, hz2⟩ := info_parts info34
  have hc := (hr.below ((Below.refl _ w).alloc (Nat.le_refl _) (.cells #[] 34))).cells
  have hk : ((d.length * 2 : Nat)) = (encs d).length := (encs_length d).symm
  have HC := Lib.hid hc
  clear hc
  have e0 := fun w0 : World => Lib.run_eql_slice_some_nil (P := Try.prog) w0 ad d.length cap Try.underlying24
  have hown : (w.alloc (.cells #[] 34)).ownsRow w.heap.size 34 2 (.slice (some ⟨w.heap.size, 0, none⟩) 0 0) 0 [] := ⟨rfl, .inr ⟨w.heap.size, 0, #[], rfl, Nat.le_refl _, heap_new w _, by omega, by decide, rfl, rfl⟩⟩
  go_enter Try.func23, Try.ntmps23
  go_wp2_with (at_builtin; go_must (refine wpList_append_own _ rfl _ _ 24 rfl w.heap.size 34 i0 (.agg #[.int .i64 0, .int .i64 0]) 2 16 Try.underlying24 hi hz0 hz1 hz2 rfl (by decide) _ _ _ rfl hown ad d.length cap (encs d) rfl (encs_length d) HC.out (encs_oneCell d) (by unfold maxLen; omega) (by omega) (by rw [World.size_alloc]; omega) ?_); intro v' w1 hown' hgrow _)
  go_ret
  have hB1 : Below w.heap.size w (w.alloc (.cells #[] 34)) := (Below.refl _ _).alloc (Nat.le_refl _) _
  refine ⟨_, rfl, by simpa using hown', hB1.grown hgrow (by rw [World.size_alloc]; omega) (fun k e => ?_)⟩
  have : some w.heap.size = some k := e
  have := Option.some.inj this
  omega
end Go.Proofs.Ytdmflbdcfnpikaa.Hand
