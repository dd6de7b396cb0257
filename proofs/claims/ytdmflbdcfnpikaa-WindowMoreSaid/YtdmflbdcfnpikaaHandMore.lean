/- The law WindowMore, walked. -/
import Derived.Test.YtdmflbdcfnpikaaHandOnce
import Derived.Test.YtdmflbdcfnpikaaHandCovers
import Derived.Test.YtdmflbdcfnpikaaOwn
import Derived.Deep.RegionHeld3
namespace Go.Proofs.Ytdmflbdcfnpikaa.Hand
open Go.RowKit Go.Proofs.Ytdmflbdcfnpikaa Go.Proofs.Ytdmflbdcfnpikaa.Spans Go.Proofs.YtdmflbdcfnpikaaW Go.Proofs.YtdmflbdcfnpikaaW.PrintWords Go.Lib

theorem S24 : Own.SliceOf Try.prog 24 34 2 16 := Own.sliceOf (z := .agg #[.int .i64 0, .int .i64 0]) Try.underlying24 info34 rfl (by decide)
theorem rd_none {A : Option Addr} {w : World} {d : List Sp} (h : RdSp w A d) (hA : A = none) : d = [] := by
  rcases d with _ | ⟨x, d⟩
  · rfl
  · obtain ⟨ad, e, _⟩ := h 0 x rfl
    rw [hA] at e; cases e
theorem src_rd {X : World} {A : Option Addr} {cap : Nat} {d : List Sp} (h : RdSp X A d) (hA : A = none → cap = 0) : Own.Src X 2 (.slice A d.length cap) d.length (encs d) := by
  refine ⟨encs_length d, encs_oneCell d, ?_⟩
  rcases A with _ | ad
  · left
    have hd : d = [] := rd_none h rfl
    rw [hA rfl, hd]
    exact ⟨rfl, rfl⟩
  · exact .inr ⟨ad, cap, rfl, h.cells⟩
/-- what stands while a region goes on: worlds that have grown, and a span's box. -/
theorem kp {w0 X Y : World} {b : Nat} {v0 v1 : Value} (h : Below w0.heap.size w0 X ∧ X.cell? ⟨b, 0, none⟩ = some v0 ∧ X.cell? ⟨b, 1, none⟩ = some v1) (k : Below X.heap.size X Y) :
    Below w0.heap.size w0 Y ∧ Y.cell? ⟨b, 0, none⟩ = some v0 ∧ Y.cell? ⟨b, 1, none⟩ = some v1 := ⟨Own.go h.1 k, Own.kc k h.2.1, Own.kc k h.2.2⟩
theorem kpa {w0 X : World} {b : Nat} {v0 v1 : Value} (o : Obj) (h : Below w0.heap.size w0 X ∧ X.cell? ⟨b, 0, none⟩ = some v0 ∧ X.cell? ⟨b, 1, none⟩ = some v1) :
    Below w0.heap.size w0 (X.alloc o).drew ∧ (X.alloc o).drew.cell? ⟨b, 0, none⟩ = some v0 ∧ (X.alloc o).drew.cell? ⟨b, 1, none⟩ = some v1 := kp h (Own.balloc (Below.refl _ _) o).drew
theorem kpb {w0 X : World} {b : Nat} {v0 v1 : Value} (o : Obj) (h : Below w0.heap.size w0 X ∧ X.cell? ⟨b, 0, none⟩ = some v0 ∧ X.cell? ⟨b, 1, none⟩ = some v1) :
    Below w0.heap.size w0 (X.alloc o) ∧ (X.alloc o).cell? ⟨b, 0, none⟩ = some v0 ∧ (X.alloc o).cell? ⟨b, 1, none⟩ = some v1 := kp h (Own.balloc (Below.refl _ _) o)
theorem kpg {w0 X Y : World} {b base : Nat} {v0 v1 : Value} (h : Below w0.heap.size w0 X ∧ X.cell? ⟨b, 0, none⟩ = some v0 ∧ X.cell? ⟨b, 1, none⟩ = some v1) (k : Below base X Y) (hb : b < base) (hB : w0.heap.size ≤ base) :
    Below w0.heap.size w0 Y ∧ Y.cell? ⟨b, 0, none⟩ = some v0 ∧ Y.cell? ⟨b, 1, none⟩ = some v1 := ⟨h.1.trans (k.mono hB), Own.kb k hb h.2.1, Own.kb k hb h.2.2⟩
/-- all spans, merged. -/
def AllPost (d : List Sp) (X : World) (e : Ending) (w' : World) : Prop :=
  Below X.heap.size X w' ∧ ((d.any (fun x => decide (x.2 ≤ x.1)) = true ∧ e = .returned (.tuple #[.slice none 0 0, .int .i64 1])) ∨ (d.any (fun x => decide (x.2 ≤ x.1)) = false ∧ MergePost d X e w'))
theorem all_call {X : World} {A : Option Addr} {c n : Nat} {d : List Sp} (h : RdSp X A d) (hl : d.length ≤ 4096) (hn : n = d.length) : Calls Try.prog 16 #[.slice A n c] X (AllPost d X) := by
  subst hn
  exact (Merge_calls A c d X h).mono fun e w' ⟨hB, h⟩ => by
    rcases h with h | h | h
    · omega
    · exact ⟨hB, .inl ⟨h.2.1, h.2.2⟩⟩
    · exact ⟨hB, .inr ⟨h.2.1, h.2.2⟩⟩
theorem own_more {base n : Nat} {v : Value} {d : List Sp} {s : Sp} {X : World} (h : X.ownsRow base 34 2 v (n + 1) (encs d ++ [.int .i64 s.1, .int .i64 s.2])) (hn : n = d.length) : ∃ A c, v = .slice A (n + 1) c ∧ RdSp X A (d ++ [s]) := by
  subst hn
  rw [← encs_snoc] at h
  have e : d.length + 1 = (d ++ [s]).length := by simp
  rw [e] at h
  obtain ⟨A, c, rfl, r⟩ := own_rd h
  exact ⟨A, c, by rw [e], r⟩
set_option maxRecDepth 100000 in
set_option maxHeartbeats 4000000 in
theorem More_bad (A : Option Addr) (cap : Nat) (d : List Sp) (s : Sp) (w : World) (hr : RdSp w A d) (hA : A = none → cap = 0) (h : d.length ≤ 300) (hb : (d ++ [s]).any (fun x => decide (x.2 ≤ x.1)) = true) : Calls Try.prog 7 #[.slice A d.length cap, spv s] w (Yes w) := by
  have hd : decide (300 < d.length) = false := decide_eq_false (by omega)
  have HB := Lib.hid hb
  have HR := Lib.hid hr
  have HA := Lib.hid hA
  have HR1 := Lib.hid (hr.alloc (.cells #[.int .i64 s.1, .int .i64 s.2] 34))
  clear hb hr hA
  have hfirst : ∀ X : World, RdSp X A d → Calls Try.prog 16 #[.slice A d.length cap] X fun e w' => (∃ v er, e = .returned (.tuple #[v, .int .i64 er])) ∧ Below X.heap.size X w' := fun X hX => (all_call hX (by omega) rfl).mono fun e w' ⟨hB, h⟩ => by
    rcases h with h | h
    · exact ⟨⟨_, _, h.2⟩, hB⟩
    · obtain ⟨m, v, he, _⟩ := h.2; exact ⟨⟨_, _, he⟩, hB⟩
  have hall : ∀ X : World, ∀ A2 c2, RdSp X A2 (d ++ [s]) → Calls Try.prog 16 #[.slice A2 (d.length + 1) c2] X fun e w' => e = .returned (.tuple #[.slice none 0 0, .int .i64 1]) ∧ Below X.heap.size X w' := fun X A2 c2 hX => (all_call hX (by simp; omega) (by simp)).mono fun e w' ⟨hB, h⟩ => by
    rcases h with h | h
    · exact ⟨h.2, hB⟩
    · rw [HB.out] at h; cases h.1
  have HF := Lib.hid hfirst
  have HALL := Lib.hid hall
  clear hfirst hall
  go_enter Try.func7, Try.ntmps7
  go_wp2_with (first
    | (go_at_call 16; go_must (refine (HF.out _ HR1.out).mono ?_); rintro e w1 ⟨⟨v1, er, rfl⟩, hB1⟩; obtain ⟨z1, z2, hlt⟩ := box2 hB1))
  have R1 := Lib.hid (HR1.out.below hB1)
  go_region_held3 (fun w' => Below w1.heap.size w1 w' ∧ w'.cell? ⟨w.heap.size, 0, none⟩ = some (.int .i64 s.1) ∧ w'.cell? ⟨w.heap.size, 1, none⟩ = some (.int .i64 s.2)) (first | assumption | exact ⟨⟨rfl, rfl, rfl, Nat.le_refl _, fun _ _ => rfl⟩, z1, z2⟩ | exact kpa _ (by assumption) | exact kpb _ (by assumption) | exact kpg (by assumption) hB5 hlt (Nat.le_refl _) | exact kpg (by assumption) hB6 hlt (Nat.le_refl _) | exact kp (by assumption) hB7)
    ((first
      | (refine Own.step_app (o := ⟨some 22, _, _, _, _, _⟩) S24 (by rfl) (.tmp 20) (.tmp 21) (by rfl) (base := w1.heap.size) (by rfl) (Own.own_at (by (repeat (first | (with_reducible exact Own.heap_at (by simp; done)) | (with_reducible refine Own.heap_drew ?_) | (with_reducible refine Own.heap_up ?_))); done) (by simp)) (by rfl) (src_rd (R1.out.below (And.left (by assumption))) HA.out) (by unfold maxLen; omega) (by omega) (by simp <;> omega) ?_; intro v5 w5 ho5 hB5 hg5
         replace ho5 : w5.ownsRow w1.heap.size 34 2 v5 d.length (encs d) := (by simpa using ho5))
      | (refine Own.step_app (o := ⟨some 25, _, _, _, _, _⟩) (w := w5.alloc (.cells #[.int .i64 s.1, .int .i64 s.2] 34)) S24 (by rfl) (.tmp 22) (.tmp 24) (by rfl) (base := w1.heap.size) (by rfl) (ho5.alloc _) (by rfl) (Own.Src.at (T := 34) (cs := #[.int .i64 s.1, .int .i64 s.2]) (by (repeat (first | (with_reducible exact Own.heap_at (by simp; done)) | (with_reducible refine Own.heap_drew ?_) | (with_reducible refine Own.heap_up ?_))); done) 2 1 1 (by simp) (one_two s)) (by unfold maxLen; omega) (by omega) (by have h9 := hB5.size; simp at h9 ⊢ <;> omega) ?_; intro v6 w6 ho6 hB6 hg6; obtain ⟨A6, c6, rfl, r6⟩ := own_more ho6 rfl)
      | (refine Own.step_app (o := ⟨some 25, _, _, _, _, _⟩) (w := w5) S24 (by rfl) (.tmp 22) (.tmp 24) (by rfl) (base := w1.heap.size) (by rfl) ho5 (by rfl) (Own.Src.at (T := 34) (cs := #[.int .i64 s.1, .int .i64 s.2]) (Own.heap_kept (by (repeat (first | (with_reducible exact Own.heap_at (by simp; done)) | (with_reducible refine Own.heap_drew ?_) | (with_reducible refine Own.heap_up ?_))); done) hg5 (by simp [Value.ownBlock])) 2 1 1 (by simp) (one_two s)) (by unfold maxLen; omega) (by omega) (by have h9 := hB5.size; simp at h9 ⊢ <;> omega) ?_; intro v6 w6 ho6 hB6 hg6; obtain ⟨A6, c6, rfl, r6⟩ := own_more ho6 rfl)
      | (go_at_call 16; refine (HALL.out _ _ _ r6).mono ?_; rintro e w7 ⟨rfl, hB7⟩)))
  all_goals
    have hB7w : Below w.heap.size w w7 := Own.bgo (below_after hB1) (Nat.le_refl _) (And.left (by assumption : Below w1.heap.size w1 w7 ∧ _))
    go_wp2_with (go_at_call 14; go_must (refine (awake_calls _).mono ?_); rintro e w8 ⟨rfl, hB8⟩)
    all_goals
      go_ret
      exact ⟨rfl, bgo hB7w (Nat.le_refl _) hB8⟩
theorem nil_cap {base n cap : Nat} {A : Option Addr} {xs : List Value} {w : World} (h : w.ownsRow base 34 2 (.slice A n cap) n xs) : A = none → cap = 0 := by
  intro e
  obtain ⟨A2, c2, e2, _, _, h3, _⟩ := Own.own_form h
  cases e2
  exact (h3 e).1
/-- merged ones and one more. -/
theorem merged_call {d m n : List Sp} {s : Sp} (hm : IsMerge (· ∈ d) m) (hn : IsMerge (· ∈ d ++ [s]) n) (hb : (d ++ [s]).any (fun x => decide (x.2 ≤ x.1)) = false) (hl : m.length ≤ 300) :
    ∀ X : World, ∀ A2 c2, RdSp X A2 (m ++ [s]) → Calls Try.prog 16 #[.slice A2 (m.length + 1) c2] X fun e w' => (∃ v, e = .returned (.tuple #[v, .int .i64 0]) ∧ w'.ownsRow X.heap.size 34 2 v n.length (encs n)) ∧ Below X.heap.size X w' := by
  intro X A2 c2 hX
  have hok := any_ok hb
  have hd : ∀ x ∈ d, x.1 < x.2 := fun x hx => hok x (by simp [hx])
  have hs : s.1 < s.2 := hok s (by simp)
  have hm2 : IsMerge (· ∈ m ++ [s]) n := (hm.more s hd hs (hn.congr (fun x => by simp))).congr (fun x => by simp)
  have hok2 : ∀ x ∈ m ++ [s], x.1 < x.2 := by
    intro x hx
    rcases List.mem_append.1 hx with hx | hx
    · exact hm.ok x hx
    · obtain rfl : x = s := by simpa using hx
      exact hs
  have hb2 : (m ++ [s]).any (fun x => decide (x.2 ≤ x.1)) = false := by
    rw [List.any_eq_false]
    intro x hx
    have := hok2 x hx
    simp only [decide_eq_true_eq]
    omega
  have hc := Merge_good (cap := c2) hX (by simp; omega) hb2
  rw [List.length_append] at hc
  refine hc.mono fun e w' ⟨m3, v3, he, hm3, _, ho3, hB3⟩ => ?_
  obtain rfl : m3 = n := hm3.unique hm2 hok2
  exact ⟨⟨v3, he, ho3⟩, hB3⟩
set_option maxRecDepth 100000 in
set_option maxHeartbeats 4000000 in
theorem More_good (A : Option Addr) (cap : Nat) (d : List Sp) (s : Sp) (w : World) (hr : RdSp w A d) (hA : A = none → cap = 0) (h : d.length ≤ 300) (hb : (d ++ [s]).any (fun x => decide (x.2 ≤ x.1)) = false) : Calls Try.prog 7 #[.slice A d.length cap, spv s] w (Yes w) := by
  have hd : decide (300 < d.length) = false := decide_eq_false (by omega)
  have HB := Lib.hid hb
  have HR := Lib.hid hr
  have HA := Lib.hid hA
  have HR1 := Lib.hid (hr.alloc (.cells #[.int .i64 s.1, .int .i64 s.2] 34))
  clear hb hr hA
  have hbd : d.any (fun x => decide (x.2 ≤ x.1)) = false := by
    have := HB.out
    rw [List.any_append, Bool.or_eq_false_iff] at this
    exact this.1
  have HBD := Lib.hid hbd
  have hfirst : ∀ X : World, RdSp X A d → Calls Try.prog 16 #[.slice A d.length cap] X (MergePost d X) := fun X hX => Merge_good hX (by omega) HBD.out
  have hall : ∀ X : World, ∀ A2 c2, RdSp X A2 (d ++ [s]) → Calls Try.prog 16 #[.slice A2 (d.length + 1) c2] X (MergePost (d ++ [s]) X) := fun X A2 c2 hX => by
    have := Merge_good (cap := c2) hX (by simp; omega) HB.out
    rwa [List.length_append] at this
  have HF := Lib.hid hfirst
  have HALL := Lib.hid hall
  clear hfirst hall hbd
  go_enter Try.func7, Try.ntmps7
  go_wp2_with (first
    | (go_at_call 16; go_must (refine (HF.out _ HR1.out).mono ?_); rintro e w1 ⟨m, v1, rfl, hm, hml, ho1, hB1⟩; have HM := Lib.hid hm; clear hm; obtain ⟨A1, c1, rfl, r1⟩ := own_rd ho1; obtain ⟨z1, z2, hlt⟩ := box2 hB1))
  have R1 := Lib.hid (HR1.out.below hB1)
  go_region_held3 (fun w' => Below w1.heap.size w1 w' ∧ w'.cell? ⟨w.heap.size, 0, none⟩ = some (.int .i64 s.1) ∧ w'.cell? ⟨w.heap.size, 1, none⟩ = some (.int .i64 s.2)) (first | assumption | exact ⟨⟨rfl, rfl, rfl, Nat.le_refl _, fun _ _ => rfl⟩, z1, z2⟩ | exact kpa _ (by assumption) | exact kpb _ (by assumption) | exact kpg (by assumption) hB5 hlt (Nat.le_refl _) | exact kpg (by assumption) hB6 hlt (Nat.le_refl _) | exact kp (by assumption) hB7)
    ((first
      | (refine Own.step_app (o := ⟨some 22, _, _, _, _, _⟩) S24 (by rfl) (.tmp 20) (.tmp 21) (by rfl) (base := w1.heap.size) (by rfl) (Own.own_at (by (repeat (first | (with_reducible exact Own.heap_at (by simp; done)) | (with_reducible refine Own.heap_drew ?_) | (with_reducible refine Own.heap_up ?_))); done) (by simp)) (by rfl) (src_rd (R1.out.below (And.left (by assumption))) HA.out) (by unfold maxLen; omega) (by omega) (by simp <;> omega) ?_; intro v5 w5 ho5 hB5 hg5
         replace ho5 : w5.ownsRow w1.heap.size 34 2 v5 d.length (encs d) := (by simpa using ho5))
      | (refine Own.step_app (o := ⟨some 25, _, _, _, _, _⟩) (w := w5.alloc (.cells #[.int .i64 s.1, .int .i64 s.2] 34)) S24 (by rfl) (.tmp 22) (.tmp 24) (by rfl) (base := w1.heap.size) (by rfl) (ho5.alloc _) (by rfl) (Own.Src.at (T := 34) (cs := #[.int .i64 s.1, .int .i64 s.2]) (by (repeat (first | (with_reducible exact Own.heap_at (by simp; done)) | (with_reducible refine Own.heap_drew ?_) | (with_reducible refine Own.heap_up ?_))); done) 2 1 1 (by simp) (one_two s)) (by unfold maxLen; omega) (by omega) (by have h9 := hB5.size; simp at h9 ⊢ <;> omega) ?_; intro v6 w6 ho6 hB6 hg6; obtain ⟨A6, c6, rfl, r6⟩ := own_more ho6 rfl)
      | (refine Own.step_app (o := ⟨some 25, _, _, _, _, _⟩) (w := w5) S24 (by rfl) (.tmp 22) (.tmp 24) (by rfl) (base := w1.heap.size) (by rfl) ho5 (by rfl) (Own.Src.at (T := 34) (cs := #[.int .i64 s.1, .int .i64 s.2]) (Own.heap_kept (by (repeat (first | (with_reducible exact Own.heap_at (by simp; done)) | (with_reducible refine Own.heap_drew ?_) | (with_reducible refine Own.heap_up ?_))); done) hg5 (by simp [Value.ownBlock])) 2 1 1 (by simp) (one_two s)) (by unfold maxLen; omega) (by omega) (by have h9 := hB5.size; simp at h9 ⊢ <;> omega) ?_; intro v6 w6 ho6 hB6 hg6; obtain ⟨A6, c6, rfl, r6⟩ := own_more ho6 rfl)
      | (go_at_call 16; refine (HALL.out _ _ _ r6).mono ?_; rintro e w7 ⟨m7, v7, rfl, hm7, hml7, ho7, hB7⟩)))
  all_goals
    have hK7 : Below w1.heap.size w1 w7 := And.left (by assumption : Below w1.heap.size w1 w7 ∧ _)
    have HK7 := Lib.hid hK7
    have Z1 := Own.kc hK7 z1
    have Z2 := Own.kc hK7 z2
    have R7 := Lib.hid (r1.below hK7)
    have hlt7 : w.heap.size < w7.heap.size := Nat.lt_of_lt_of_le hlt hK7.size
    have HM7 := Lib.hid hm7
    obtain ⟨A7, c7, rfl, r7⟩ := own_rd ho7
    have HO7 := Lib.hid r7
    have HA1 := Lib.hid (nil_cap ho1)
    have HALL2 := Lib.hid (merged_call (s := s) HM.out HM7.out HB.out (by omega))
    clear hm7 hK7 z1 z2 hB5 hB6 hB7 ho5 ho6 hg5 hg6 r6 ho1 ho7 r7 r1
    go_wp2
    go_region_held3 (fun w' => Below w7.heap.size w7 w' ∧ w'.cell? ⟨w.heap.size, 0, none⟩ = some (.int .i64 s.1) ∧ w'.cell? ⟨w.heap.size, 1, none⟩ = some (.int .i64 s.2)) (first | assumption | exact ⟨⟨rfl, rfl, rfl, Nat.le_refl _, fun _ _ => rfl⟩, Z1, Z2⟩ | exact kpa _ (by assumption) | exact kpb _ (by assumption) | exact kpg (by assumption) hB5 hlt7 (Nat.le_refl _) | exact kpg (by assumption) hB6 hlt7 (Nat.le_refl _) | exact kp (by assumption) hB9)
      ((first
        | (refine Own.step_app (o := ⟨some 43, _, _, _, _, _⟩) S24 (by rfl) (.tmp 41) (.tmp 42) (by rfl) (base := w7.heap.size) (by rfl) (Own.own_at (by (repeat (first | (with_reducible exact Own.heap_at (by simp; done)) | (with_reducible refine Own.heap_drew ?_) | (with_reducible refine Own.heap_up ?_))); done) (by simp)) (by rfl) (src_rd (R7.out.below (And.left (by assumption))) HA1.out) (by unfold maxLen; omega) (by omega) (by simp <;> omega) ?_; intro v5 w5 ho5 hB5 hg5
           replace ho5 : w5.ownsRow w7.heap.size 34 2 v5 m.length (encs m) := (by simpa using ho5))
        | (refine Own.step_app (o := ⟨some 46, _, _, _, _, _⟩) (w := w5.alloc (.cells #[.int .i64 s.1, .int .i64 s.2] 34)) S24 (by rfl) (.tmp 43) (.tmp 45) (by rfl) (base := w7.heap.size) (by rfl) (ho5.alloc _) (by rfl) (Own.Src.at (T := 34) (cs := #[.int .i64 s.1, .int .i64 s.2]) (by (repeat (first | (with_reducible exact Own.heap_at (by simp; done)) | (with_reducible refine Own.heap_drew ?_) | (with_reducible refine Own.heap_up ?_))); done) 2 1 1 (by simp) (one_two s)) (by unfold maxLen; omega) (by omega) (by have h9 := hB5.size; simp at h9 ⊢ <;> omega) ?_; intro v6 w6 ho6 hB6 hg6; obtain ⟨A6, c6, rfl, r6⟩ := own_more ho6 rfl)
        | (refine Own.step_app (o := ⟨some 46, _, _, _, _, _⟩) (w := w5) S24 (by rfl) (.tmp 43) (.tmp 45) (by rfl) (base := w7.heap.size) (by rfl) ho5 (by rfl) (Own.Src.at (T := 34) (cs := #[.int .i64 s.1, .int .i64 s.2]) (Own.heap_kept (by (repeat (first | (with_reducible exact Own.heap_at (by simp; done)) | (with_reducible refine Own.heap_drew ?_) | (with_reducible refine Own.heap_up ?_))); done) hg5 (by simp [Value.ownBlock])) 2 1 1 (by simp) (one_two s)) (by unfold maxLen; omega) (by omega) (by have h9 := hB5.size; simp at h9 ⊢ <;> omega) ?_; intro v6 w6 ho6 hB6 hg6; obtain ⟨A6, c6, rfl, r6⟩ := own_more ho6 rfl)
        | (go_at_call 16; refine (HALL2.out _ _ _ r6).mono ?_; rintro e w9 ⟨⟨v9, rfl, ho9⟩, hB9⟩; obtain ⟨A9, c9, rfl, r9⟩ := own_rd ho9)))
    all_goals
      have hK9 : Below w7.heap.size w7 w9 := And.left (by assumption : Below w7.heap.size w7 w9 ∧ _)
      have hB9w : Below w.heap.size w w9 := Own.bgo (Own.bgo (below_after hB1) (Nat.le_refl _) HK7.out) (Nat.le_refl _) hK9
      have q7 := HO7.out.below hK9
      have q9 := r9
      clear HO7 hK9 hB5 hB6 ho5 ho6 hg5 hg6 r6 ho9 r9
      go_wp2_with (first
        | (go_at_call 14; go_must (refine (awake_calls _).mono ?_); rintro e w10 ⟨rfl, hB10⟩)
        | (go_at_call 12; go_must (refine (same_yes m7 _ _ _ _ _ (q9.below hB10) (q7.below hB10) (by simp at hml7; omega)).mono ?_); rintro e w11 ⟨rfl, hB11⟩))
      go_ret
      exact ⟨rfl, bgo (bgo hB9w (Nat.le_refl _) hB10) (Nat.le_refl _) hB11⟩
theorem More_huge (A : Option Addr) (cap : Nat) (d : List Sp) (s : Sp) (w : World) (h : 300 < d.length) (hm : d.length ≤ 9223372036854775807) : Calls Try.prog 7 #[.slice A d.length cap, spv s] w (Yes w) := by
  have hd : decide (300 < d.length) = true := decide_eq_true h
  go_enter Try.func7, Try.ntmps7
  go_wp2
  go_ret
  exact ⟨rfl, (Below.refl _ _).alloc (Nat.le_refl _) _⟩
theorem WindowMore_calls (A : Option Addr) (cap : Nat) (d : List Sp) (s : Sp) (w : World) (hr : RdSp w A d) (hA : A = none → cap = 0) (hm : d.length ≤ 9223372036854775807) : Calls Try.prog 7 #[.slice A d.length cap, spv s] w (Yes w) := by
  by_cases h5 : 300 < d.length
  · exact More_huge _ cap d s w h5 hm
  by_cases hb : (d ++ [s]).any (fun x => decide (x.2 ≤ x.1)) = true
  · exact More_bad A cap d s w hr hA (by omega) hb
  · exact More_good A cap d s w hr hA (by omega) (by simpa using hb)
end Go.Proofs.Ytdmflbdcfnpikaa.Hand
