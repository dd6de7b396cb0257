/- The document's examples of layer 9, walked. -/
import Derived.Test.YtdmflbdcfnpikaaHandOf
namespace Go.Proofs.Ytdmflbdcfnpikaa.Hand
open Go.RowKit Go.Proofs.Ytdmflbdcfnpikaa Go.Proofs.Ytdmflbdcfnpikaa.Spans Go.Proofs.YtdmflbdcfnpikaaW Go.Proofs.YtdmflbdcfnpikaaW.PrintWords Go.Lib

theorem RdSp.alloc {w : World} {A : Option Addr} {d : List Sp} (h : RdSp w A d) (o : Obj) : RdSp (w.alloc o) A d := h.below ((Below.refl _ _).alloc (Nat.le_refl _) o)
theorem own_rd {base : Nat} {v : Value} {d : List Sp} {w : World} (h : w.ownsRow base 34 2 v d.length (encs d)) : ∃ A c, v = .slice A d.length c ∧ RdSp w A d := by
  rcases Nat.eq_zero_or_pos d.length with h0 | h0
  · obtain rfl := List.eq_nil_of_length_eq_zero h0
    obtain ⟨A, c, rfl⟩ := own_nil h
    exact ⟨A, c, rfl, fun j x hj => by cases hj⟩
  · obtain ⟨g, c, rfl, _⟩ := own_some h h0
    refine ⟨_, c, rfl, fun j x hj => ?_⟩
    obtain ⟨h1, h2⟩ := own_cell h hj
    have hadd : (⟨g, 0, none⟩ : Addr).add (j * 2) = ⟨g, j * 2, none⟩ := by unfold Addr.add; split <;> simp_all
    exact ⟨_, rfl, by rw [hadd]; exact h1, by rw [hadd]; exact h2⟩
theorem rd_lit (X : World) (d : List Sp) (cs : Array Value) (hcs : cs.toList = encs d) : RdSp (X.alloc (.cells cs 34)) (some ⟨X.heap.size, 0, none⟩) d := by
  intro j x hj
  have hh := heap_new X (.cells cs 34)
  obtain ⟨h1, h2⟩ := encs_get d j x hj
  rw [← hcs] at h1 h2
  have hadd : (⟨X.heap.size, 0, none⟩ : Addr).add (j * 2) = ⟨X.heap.size, j * 2, none⟩ := by unfold Addr.add; split <;> simp_all
  refine ⟨_, rfl, ?_, ?_⟩
  · rw [hadd, cell_of_row _ _ _ _ _ _ hh]; simpa using h1
  · rw [hadd, cell_of_row _ _ _ _ _ _ hh]; simpa using h2

theorem Of_ex1 (w : World) : Calls Try.prog 8 #[.agg #[.int .i64 2, .int .i64 10, .int .i64 5], .int .i64 3] w (OfPost [(-5, 5), (0, 10)] 0 w) := Of_good 2 10 5 3 w (by decide)
theorem Of_ex2 (w : World) : Calls Try.prog 8 #[.agg #[.int .i64 1, .int .i64 10, .int .i64 0], .int .i64 25] w (OfPost [(20, 30)] 0 w) := Of_good 1 10 0 25 w (by decide)

def exA : List Sp := [(5, 9), (1, 3), (8, 12), (3, 4)]
def exB : List Sp := [(1, 3), (3, 4), (5, 12)]
theorem ex_merge : IsMerge (· ∈ exA) exB := by
  have h := fold_merge [(1, 3), (3, 4), (5, 9), (8, 12)] (by decide) (by decide)
  rw [show List.foldl mstep [] [(1, 3), (3, 4), (5, 9), (8, 12)] = exB from by decide] at h
  exact h.congr (fun x => by simp only [exA, List.mem_cons, List.not_mem_nil, or_false]; constructor <;> (rintro (h | h | h | h) <;> simp [h]))
theorem Merge_ex1 (A : Option Addr) (cap : Nat) (w : World) (hr : RdSp w A exA) : Calls Try.prog 16 #[.slice A 4 cap] w fun e w' => ∃ v, e = .returned (.tuple #[v, .int .i64 0]) ∧ w'.ownsRow w.heap.size 34 2 v exB.length (encs exB) ∧ Below w.heap.size w w' := by
  refine (Merge_calls A cap exA w hr).mono ?_
  rintro e w' ⟨hB, ⟨h, _⟩ | ⟨_, h, _⟩ | ⟨_, _, m, v, rfl, hm, _, ho, _⟩⟩
  · exact absurd h (by decide)
  · exact absurd h (by decide)
  · obtain rfl := hm.unique ex_merge (by decide)
    exact ⟨v, rfl, ho, hB⟩
theorem Merge_ex2 (A : Option Addr) (cap : Nat) (w : World) (hr : RdSp w A [(3, 3)]) : Calls Try.prog 16 #[.slice A 1 cap] w fun e w' => e = .returned (.tuple #[.slice none 0 0, .int .i64 1]) ∧ Below w.heap.size w w' := by
  refine (Merge_calls A cap [(3, 3)] w hr).mono ?_
  rintro e w' ⟨hB, ⟨h, _⟩ | ⟨_, _, h⟩ | ⟨_, h, _⟩⟩
  · exact absurd h (by decide)
  · exact ⟨h, hB⟩
  · exact absurd h (by decide)

theorem same_yes (d : List Sp) (A B : Option Addr) (ca cb : Nat) (w : World) (ha : RdSp w A d) (hb : RdSp w B d) (hl : d.length ≤ 5000) :
    Calls Try.prog 12 #[.slice A d.length ca, .slice B d.length cb] w fun e w' => e = .returned (.bool true) ∧ Below w.heap.size w w' := by
  have h := same_calls A B ca cb d d w ha hb hl
  rw [decide_eq_true rfl] at h
  exact h
theorem same_ex1 (A B : Option Addr) (ca cb : Nat) (w : World) (ha : RdSp w A [(-5, 5), (0, 10)]) (hb : RdSp w B [(-5, 5), (0, 10)]) :
    Calls Try.prog 12 #[.slice A 2 ca, .slice B 2 cb] w fun e w' => e = .returned (.bool true) ∧ Below w.heap.size w w' := same_yes [(-5, 5), (0, 10)] A B ca cb w ha hb (by decide)
theorem same_ex2 (A B : Option Addr) (ca cb : Nat) (w : World) (ha : RdSp w A [(20, 30)]) (hb : RdSp w B [(20, 30)]) :
    Calls Try.prog 12 #[.slice A 1 ca, .slice B 1 cb] w fun e w' => e = .returned (.bool true) ∧ Below w.heap.size w w' := same_yes [(20, 30)] A B ca cb w ha hb (by decide)
theorem same_ex3 (A B : Option Addr) (ca cb : Nat) (w : World) (ha : RdSp w A exB) (hb : RdSp w B exB) :
    Calls Try.prog 12 #[.slice A exB.length ca, .slice B 3 cb] w fun e w' => e = .returned (.bool true) ∧ Below w.heap.size w w' := same_yes exB A B ca cb w ha hb (by decide)
theorem Due_ex1 (w : World) : Calls Try.prog 13 #[.agg #[.int .i64 20, .int .i64 30], .int .i64 30] w fun e w' => e = .returned (.bool true) ∧ Below w.heap.size w w' := Due_calls (20, 30) 30 w
theorem Due_ex2 (w : World) : Calls Try.prog 13 #[.agg #[.int .i64 20, .int .i64 30], .int .i64 29] w fun e w' => e = .returned (.bool false) ∧ Below w.heap.size w w' := Due_calls (20, 30) 29 w
theorem gal {B : Nat} {a b c : World} {o : Obj} (h : Below B a b) (hB : B ≤ a.heap.size) (k : Below (b.alloc o).heap.size (b.alloc o) c) : Below B a c :=
  bgo (h.alloc (by have := h.size; omega) o) hB k

set_option maxHeartbeats 2000000 in
set_option maxRecDepth 100000 in
theorem awake_calls (w : World) : Calls Try.prog 14 #[] w fun e w' => e = .returned (.bool true) ∧ Below w.heap.size w w' := by
  go_enter Try.func14, Try.ntmps14
  go_wp2_with (first
    | (go_at_call 8; go_must (first
        | ((with_reducible refine (Of_ex1 _).mono ?_); rintro e w1 ⟨v1, rfl, ho1, hB1⟩; obtain ⟨A1, c1, rfl, r1⟩ := own_rd ho1)
        | ((with_reducible refine (Of_ex2 _).mono ?_); rintro e w2 ⟨v2, rfl, ho2, hB2⟩; obtain ⟨A2, c2, rfl, r2⟩ := own_rd ho2; replace r1 := r1.below hB2)))
    | (go_at_call 16; go_must (first
        | ((with_reducible refine (Merge_ex1 _ _ _ ?_).mono ?_); (exact rd_lit w2 exA _ rfl); rintro e w3 ⟨v3, rfl, ho3, hB3⟩; obtain ⟨A3, c3, rfl, r3⟩ := own_rd ho3; replace r1 := (r1.alloc _).below hB3; replace r2 := (r2.alloc _).below hB3)
        | ((with_reducible refine (Merge_ex2 _ _ _ ?_).mono ?_); (exact rd_lit w3 [(3, 3)] _ rfl); rintro e w4 ⟨rfl, hB4⟩; replace r1 := (r1.alloc _).below hB4; replace r2 := (r2.alloc _).below hB4; replace r3 := (r3.alloc _).below hB4)))
    | (go_at_call 12; go_must (first
        | ((with_reducible refine (same_ex1 _ _ _ _ _ (r1.alloc _) ?_).mono ?_); (exact rd_lit w4 [(-5, 5), (0, 10)] _ rfl); rintro e w5 ⟨rfl, hB5⟩; replace r2 := (r2.alloc _).below hB5; replace r3 := (r3.alloc _).below hB5)
        | ((with_reducible refine (same_ex2 _ _ _ _ _ (r2.alloc _) ?_).mono ?_); (exact rd_lit w5 [(20, 30)] _ rfl); rintro e w6 ⟨rfl, hB6⟩; replace r3 := (r3.alloc _).below hB6)
        | ((with_reducible refine (same_ex3 _ _ _ _ _ (r3.alloc _) ?_).mono ?_); (exact rd_lit w6 exB _ rfl); rintro e w7 ⟨rfl, hB7⟩)))
    | (go_at_call 13; go_must (first
        | ((with_reducible refine (Due_ex1 _).mono ?_); rintro e w8 ⟨rfl, hB8⟩)
        | ((with_reducible refine (Due_ex2 _).mono ?_); rintro e w9 ⟨rfl, hB9⟩))))
  go_ret
  have b2 := bgo hB1 (Nat.le_refl _) hB2
  have b3 := gal b2 (Nat.le_refl _) hB3
  have b4 := gal b3 (Nat.le_refl _) hB4
  have b5 := gal b4 (Nat.le_refl _) hB5
  have b6 := gal b5 (Nat.le_refl _) hB6
  have b7 := gal b6 (Nat.le_refl _) hB7
  have b8 := bgo b7 (Nat.le_refl _) hB8
  exact ⟨rfl, bgo b8 (Nat.le_refl _) hB9⟩
end Go.Proofs.Ytdmflbdcfnpikaa.Hand
