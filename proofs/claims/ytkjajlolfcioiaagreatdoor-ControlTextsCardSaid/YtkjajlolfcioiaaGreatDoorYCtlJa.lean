/- control.Job: maps.Keys at Part: its iterator, for every loop body. -/
import Derived.Test.YtkjajlolfcioiaaGreatDoorYCtlAc
import Derived.RangeFuncNested
import Derived.RangeFuncBound
import Derived.RangeFuncCalls
import Derived.RangeFuncLeaves
import Derived.Shelf.Abstract
import Derived.Shelf.AbstractIn
import Derived.Shelf.RegionOpen
import Derived.WalkKit
import Derived.OwnWalkIn
import Derived.TacticsInMore
import Derived.LoopNIn
import Derived.LoopIn
import Derived.Maps.AppendAt
import Derived.Test.YtkjajlolfcioiaaGreatDoorYShelfI
import Derived.Test.YtkjajlolfcioiaaGreatDoorYTail
namespace Go.Proofs.YtkjajlolfcioiaaGreatDoor.Control
open Go Go.RowKit Go.MapKept Go.Maps Go.Shelf Go.Proofs Go.Proofs.YtkjajlolfcioiaaGreatDoor Go.Proofs.YtkjajlolfcioiaaGreatDoor.Own Go.Proofs.YtkjajlolfcioiaaGreatDoor.Mp Go.Proofs.YtkjajlolfcioiaaGreatDoor.Rng Go.Proofs.YtkjajlolfcioiaaGreatDoor.Mk Go.Proofs.YtkjajlolfcioiaaGreatDoor.Plan Go.Proofs.YtkjajlolfcioiaaGreatDoor.Check Go.Proofs.YtkjajlolfcioiaaGreatDoor.Ctl
attribute [local go_sem] Oper.semAt_some

theorem nodup_sub : ∀ (a b : List (Int × Int)), a.Nodup → (∀ x ∈ a, x ∈ b) → a.length ≤ b.length
  | [], b, _, _ => Nat.zero_le _
  | x :: r, b, hn, hs => by
    obtain ⟨h1, h2⟩ := List.nodup_cons.1 hn
    have hx := hs x List.mem_cons_self
    have h3 := nodup_sub r (b.erase x) h2 (fun y hy => (List.mem_erase_of_ne (fun e => h1 (by rw [← e]; exact hy))).2 (hs y (List.mem_cons_of_mem _ hy)))
    rw [List.length_erase_of_mem hx] at h3
    have := List.length_pos_of_mem hx
    simp only [List.length_cons]
    omega
/-- what has come: the parts of the entries seen. -/
structure Come (es : Array MapEntry) (seen : Array Nat) (L ss : List (Int × Int)) : Prop where
  nodup : ss.Nodup
  sub : ∀ p ∈ ss, p ∈ L
  seen : ∀ x ∈ es.toList, seen.contains x.born = true ↔ ∃ p ∈ ss, x.key = partV p
theorem Come.start (es : Array MapEntry) (L : List (Int × Int)) : Come es #[] L [] := ⟨List.nodup_nil, by simp, by simp⟩
theorem Come.new {es : Array MapEntry} {seen : Array Nat} {L ss : List (Int × Int)} (h : Come es seen L ss) {x : MapEntry} (hx : x ∈ es.toList) (hn : seen.contains x.born = false) {p : Int × Int} (hk : x.key = partV p) : p ∉ ss := fun hp => by
  have := (h.seen x hx).2 ⟨p, hp, hk⟩
  rw [hn] at this
  cases this
theorem Come.step {es : Array MapEntry} {seen : Array Nat} {L ss : List (Int × Int)} {clock : Nat} (h : Come es seen L ss) (hs : Stamped es clock) {x : MapEntry} (hx : x ∈ es.toList) (hn : seen.contains x.born = false) {p : Int × Int} (hk : x.key = partV p) (hp : p ∈ L) : Come es (seen.push x.born) L (ss ++ [p]) := by
  obtain ⟨s1, s2, s3⟩ := (stamped_iff es clock).1 hs
  have hnp := h.new hx hn hk
  refine ⟨?_, ?_, ?_⟩
  · rw [List.nodup_append]
    refine ⟨h.nodup, by simp, ?_⟩
    intro a ha b hb e
    rw [List.mem_singleton] at hb
    subst hb
    subst e
    exact hnp ha
  · intro q hq
    rcases List.mem_append.1 hq with hq | hq
    · exact h.sub q hq
    · rw [List.mem_singleton] at hq
      subst hq
      exact hp
  · intro y hy
    have hy' := h.seen y hy
    simp only [Array.contains_push, Bool.or_eq_true, beq_iff_eq, List.mem_append, List.mem_singleton]
    rw [hy']
    constructor
    · rintro (⟨q, hq, hq2⟩ | e)
      · exact ⟨q, .inl hq, hq2⟩
      · have : y = x := born_inj s2 hy hx (by omega)
        subst this
        exact ⟨p, .inr rfl, hk⟩
    · rintro ⟨q, hq | rfl, hq2⟩
      · exact .inl ⟨q, hq, hq2⟩
      · have : y = x := entry_eq_of_key s3 hy hx (hq2.trans hk.symm)
        subst this
        exact .inr rfl
theorem Come.lt {es : Array MapEntry} {seen : Array Nat} {L ss : List (Int × Int)} (h : Come es seen L ss) {p : Int × Int} (hp : p ∈ L) (hn : p ∉ ss) : ss.length < L.length := by
  have := nodup_sub (p :: ss) L (List.nodup_cons.2 ⟨hn, h.nodup⟩) (fun x hx => by
    rcases List.mem_cons.1 hx with rfl | hx
    · exact hp
    · exact h.sub x hx)
  simp only [List.length_cons] at this
  omega
theorem Come.all {es : Array MapEntry} {seen : Array Nat} {L ss : List (Int × Int)} (h : Come es seen L ss) (h0 : (leftOf es seen).size = 0) (hall : ∀ p ∈ L, ∃ x ∈ es.toList, x.key = partV p) (p : Int × Int) : p ∈ ss ↔ p ∈ L := by
  refine ⟨h.sub p, fun hp => ?_⟩
  obtain ⟨x, hx, hk⟩ := hall p hp
  have hs : seen.contains x.born = true := by
    cases hc : seen.contains x.born with
    | true => rfl
    | false =>
      have : x ∈ leftOf es seen := by
        unfold leftOf
        rw [Array.mem_filter]
        exact ⟨by simpa using hx, by rw [hc]; rfl⟩
      have := Array.size_pos_of_mem this
      omega
  obtain ⟨q, hq, hq2⟩ := (h.seen x hx).1 hs
  rw [partV_inj (hk.symm.trans hq2)]
  exact hq

set_option maxRecDepth 100000 in
set_option maxHeartbeats 1000000 in
theorem keysP1_in (F : Fence) (n : Nat) (h108 : F.fn 108) (hro : F.round = none) (hn : 1 ≤ n) (l Bm m : Nat) (L : List (Int × Int)) (J Jx : List (Int × Int) → World → Prop) (W : World) (hJ : AbidesFrom W.heap.size J)
    (hY : ∀ pre x W1, J pre W1 → pre.length < L.length → YieldAt F (n - 1) Tryz.prog l #[partV x] W1 fun e W' => (e = .returned (.bool true) ∧ J (pre ++ [x]) W' ∧ KeepsWalks W1 W') ∨ (e = .returned (.bool false) ∧ Jx (pre ++ [x]) W'))
    (hm : W.cell? ⟨Bm, 0, none⟩ = some (.map (some m))) (hmap : PartMap W m L) (h0 : J [] W) :
    CallsIn F n Tryz.prog 108 #[.func (.yield l) #[] #[], .pointer (some ⟨Bm, 0, none⟩)] W fun e W' => (∃ v, e = .returned v) ∧ ((∃ ss : List (Int × Int), (ss.Nodup ∧ ∀ p, p ∈ ss ↔ p ∈ L) ∧ J ss W') ∨ (∃ pre : List (Int × Int), True ∧ Jx pre W')) := by
  obtain ⟨f, hf, hf1, hf2⟩ := hmap
  refine callsIn_of_wp Tryz.func108 rfl h108 ?_ hro
  simp only [Tryz.ntmps108, List.size_toArray, List.length_cons, List.length_nil, Nat.reduceAdd, Nat.reduceSub, Array.replicate_succ, Array.replicate_zero, List.push_toArray, List.append_toArray, List.nil_append, List.cons_append]
  gi_wp2_with (first
    | (gi_at_range; refine listIn_rangeK _ rfl _ 120 rfl hf Tryz.underlying120 rfl ?_; intro w0 es hrg0 hes hall0 hg0 hs0)
    | gi_in)
  have hall : ∀ p ∈ L, ∃ x ∈ es.toList, x.key = partV p := fun p hp => by
    obtain ⟨k, hk⟩ := hf1 p hp
    exact hall0 _ _ hk
  have hpart : ∀ x ∈ es.toList, ∃ p ∈ L, x.key = partV p := fun x hx => hf2 x.key (by rw [hes x hx]; rfl)
  clear hall0 hes hf1 hf2 hf
  go_frame
  gi_loopw [3] (fun _ wr => ∃ (seen : Array Nat) (ss : List (Int × Int)), RngF wr m W.heap.size es seen ∧ Come es seen L ss ∧ J ss wr)
    (fun _ wr => rngLeft wr m W.heap.size)
  case atStart =>
    exact ⟨#[], [], hrg0, Come.start es L, hJ [] W w0 none h0 hg0 (fun r e => by cases e)⟩
  case round =>
    obtain ⟨seen, ss, hrg, hC, hJs⟩ := hrel
    gi_wp2_with (first
      | (gi_at_next; refine listIn_next _ rfl _ rfl hrg rfl ?_ ?_)
      | gi_in)
    · intro hl0
      gi_wp2
      go_end0
      exact ⟨⟨_, rfl⟩, .inl ⟨ss, ⟨hC.nodup, hC.all (by rw [hl0]; rfl) hall⟩, hJs⟩⟩
    · intro x w2 hx hnew hrg2 hlt hg2 hs2 hen
      replace hx : x ∈ es.toList := by simpa using hx
      replace hnew : seen.contains x.born = false := by simpa using hnew
      obtain ⟨p, hp, hk⟩ := hpart x hx
      have hst : ∃ clock, Stamped es clock := by
        obtain ⟨clock, since, c0, hb, hs, _⟩ := hrg
        exact ⟨clock, hs⟩
      obtain ⟨clock, hst⟩ := hst
      have hJ2 : J ss w2 := hJ ss wr w2 (some W.heap.size) hJs hg2 (fun r e => by cases e; exact ⟨Nat.le_refl _, hrg.iter_walk⟩)
      have hJ4 : J ss (w2.alloc (.cells #[.int .i64 p.1, .int .i64 p.2] 75)) := hJ ss w2 _ none hJ2 (World.grownBy_alloc _ _ _) (fun r e => by cases e)
      obtain ⟨fn, tmps, assign, body, hy, hR⟩ := hY ss p _ hJ4 (hC.lt hp (hC.new hx hnew hk))
      have hrg4 : RngF (w2.alloc (.cells #[.int .i64 p.1, .int .i64 p.2] 75)) m W.heap.size es (seen.push x.born) := hrg2.of_walks (KeepsWalks.alloc _ _)
      have hC2 := hC.step hst hx hnew hk hp
      clear hs2 hst
      rw [hk] at hen ⊢
      gi_wp2
      refine hR.mono ?_
      rintro e W3 (⟨rfl, hJ3, hk3⟩ | ⟨rfl, hJx3⟩)
      · gi_wp2
        have hrg3 := hrg4.of_walks hk3
        go_roundw
        case rel => exact ⟨_, ss ++ [p], hrg3, hC2, hJ3⟩
        case measure => rw [hrg3.left_eq, hrg.left_eq]; exact hlt
      · gi_wp2
        refine bodyPost_ret (results_none rfl _ _ _) rfl ?_
        exact ⟨⟨_, rfl⟩, .inr ⟨ss ++ [p], trivial, hJx3⟩⟩
/-- maps.Keys(m) at a map of parts. -/
theorem keysP_stops (F : Fence) (n : Nat) (h108 : F.fn 108) (hro : F.round = none) (hn : 1 ≤ n) (Bm m : Nat) (L : List (Int × Int)) (w : World) (hBm : Bm < w.heap.size) (hm : w.cell? ⟨Bm, 0, none⟩ = some (.map (some m))) (hmap : PartMap w m L) :
    SeqStopsK F n Tryz.prog 108 #[.pointer (some ⟨Bm, 0, none⟩)] (fun p : Int × Int => #[partV p]) KeepsWalks (fun ss => ss.Nodup ∧ ∀ p, p ∈ ss ↔ p ∈ L) (fun _ => True) L.length w := fun l J Jx W hW hJ _ hY h0 => by
  have hml : m < w.heap.size := by
    obtain ⟨f, hf, _⟩ := hmap
    exact hf.lt
  exact keysP1_in F n h108 hro hn l Bm m L J Jx W hJ hY ((hW.cell (p := ⟨Bm, 0, none⟩) hBm).trans hm) (hmap.block (hW.block m hml)) h0
set_option maxRecDepth 100000 in
set_option maxHeartbeats 1000000 in
theorem keysP1_nil (F : Fence) (n : Nat) (h108 : F.fn 108) (hro : F.round = none) (l Bm : Nat) (J : List (Int × Int) → World → Prop) (W : World) (hJ : AbidesFrom W.heap.size J) (hm : W.cell? ⟨Bm, 0, none⟩ = some (.map none)) (h0 : J [] W) :
    CallsIn F n Tryz.prog 108 #[.func (.yield l) #[] #[], .pointer (some ⟨Bm, 0, none⟩)] W fun e W' => (∃ v, e = .returned v) ∧ J [] W' := by
  refine callsIn_of_wp Tryz.func108 rfl h108 ?_ hro
  simp only [Tryz.ntmps108, List.size_toArray, List.length_cons, List.length_nil, Nat.reduceAdd, Nat.reduceSub, Array.replicate_succ, Array.replicate_zero, List.push_toArray, List.append_toArray, List.nil_append, List.cons_append]
  have hrg := run_range_nilMap (P := Tryz.prog) W 120 75 3 Tryz.underlying120
  have hnx : ∀ ty, (Instr.next (.pointer (some ⟨W.heap.size, 0, none⟩)) false ty).run Tryz.prog (W.alloc (.mapIter none 0 #[] 0)) = _ := fun ty => run_next_nilMap _ ty 0 0 #[]
  gi_wp2
  refine wpIn_loop_rounds 1 ?_
  rw [roundsIn_succ]
  gi_wp2
  go_end0
  exact ⟨⟨_, rfl⟩, hJ [] W _ none h0 (World.grownBy_alloc W _ none) (fun r e => by cases e)⟩
/-- .. at no map. -/
theorem keysP_stops_nil (F : Fence) (n : Nat) (h108 : F.fn 108) (hro : F.round = none) (Bm : Nat) (w : World) (hBm : Bm < w.heap.size) (hm : w.cell? ⟨Bm, 0, none⟩ = some (.map none)) :
    SeqStopsK F n Tryz.prog 108 #[.pointer (some ⟨Bm, 0, none⟩)] (fun p : Int × Int => #[partV p]) KeepsWalks (fun ss => ss = []) (fun _ => True) 0 w := fun l J _ W hW hJ _ _ h0 =>
  (keysP1_nil F n h108 hro l Bm J W hJ ((hW.cell (p := ⟨Bm, 0, none⟩) hBm).trans hm) h0).mono fun _ _ ⟨he, hj⟩ => ⟨he, .inl ⟨[], rfl, hj⟩⟩
end Go.Proofs.YtkjajlolfcioiaaGreatDoor.Control

/- control.Job: slices.Collect at Part, of whatever iterator. -/
namespace Go.Proofs.YtkjajlolfcioiaaGreatDoor.Control
open Go Go.RowKit Go.MapKept Go.Maps Go.Shelf Go.Proofs Go.Proofs.YtkjajlolfcioiaaGreatDoor Go.Proofs.YtkjajlolfcioiaaGreatDoor.Own Go.Proofs.YtkjajlolfcioiaaGreatDoor.Mp Go.Proofs.YtkjajlolfcioiaaGreatDoor.Rng Go.Proofs.YtkjajlolfcioiaaGreatDoor.Mk Go.Proofs.YtkjajlolfcioiaaGreatDoor.Plan Go.Proofs.YtkjajlolfcioiaaGreatDoor.Check Go.Proofs.YtkjajlolfcioiaaGreatDoor.Ctl
attribute [local go_sem] Oper.semAt_some

theorem cells_two_new (w : World) (a b : Value) (t : TypeId) : ∀ j u, [a, b][j]? = some u → (w.alloc (.cells #[a, b] t)).cell? ((⟨w.heap.size, 0, none⟩ : Addr).add j) = some u := fun j u hj => by
  have := RowAt.new w #[a, b] t j u
  exact this hj
theorem infoP : (Tryz.prog.info? 75).map (fun i => (i.zero, i.size, i.bytes)) = some (some (.agg #[.int .i64 0, .int .i64 0]), 2, 16) := by kernel_rfl
def AppP (w : World) (pre : List (Int × Int)) (W : World) : Prop :=
  (∃ v, Boxed W w.heap.size 53 v ∧ W.ownsRow w.heap.size 75 2 v pre.length (pre.flatMap partCells) ∧ (v = .slice none 0 0 ↔ pre = [])) ∧ Below w.heap.size w W
set_option maxRecDepth 100000 in
set_option maxHeartbeats 2000000 in
theorem appendSeqP_in (F : Fence) (n : Nat) (h128 : F.fn 128) (hro : F.round = none) (hn : 2 ≤ n) (g : Nat) (lb : Array Value) (hFg : F.fn g) (eg : ∀ args w, (callFunc g args).run Tryz.prog w = .ok (.enter g args) w) (S Sp : List (Int × Int) → Prop) (N : Nat) (hN : N ≤ 1000) (w : World) (hseq : SeqStopsK F (n - 1) Tryz.prog g lb (fun p : Int × Int => #[partV p]) KeepsWalks S Sp N w) :
    CallsIn F n Tryz.prog 128 #[.slice none 0 0, .func (.func g) #[] lb] w fun e w' => ∃ (v : Value) (ss : List (Int × Int)), e = .returned v ∧ S ss ∧ w'.ownsRow w.heap.size 75 2 v ss.length (ss.flatMap partCells) ∧ (v = .slice none 0 0 ↔ ss = []) ∧ Below w.heap.size w w' := by
  have h1 : 1 ≤ n := by omega
  obtain ⟨i0, hi, hz0, hz1, hz2⟩ := info_parts infoP
  refine callsIn_of_wp_marks Tryz.func128 rfl h128 ?_ hro
  simp only [Tryz.ntmps128, List.size_toArray, List.length_cons, List.length_nil, Nat.reduceAdd, Nat.reduceSub, Array.replicate_succ, Array.replicate_zero, List.push_toArray, List.append_toArray, List.nil_append, List.cons_append]
  gi_wp2
  have bS := Boxed.new w 53 (.slice none 0 0)
  have hB0 : Below w.heap.size w (w.alloc (.cells #[.slice none 0 0] 53)) := (Below.refl _ w).alloc (Nat.le_refl _) _
  have hsz : (w.alloc (.cells #[.slice none 0 0] 53)).heap.size = w.heap.size + 1 := by simp
  obtain ⟨W0, hW0⟩ : ∃ W0, w.alloc (.cells #[.slice none 0 0] 53) = W0 := ⟨_, rfl⟩
  rw [hW0] at bS hB0 hsz ⊢
  clear hW0
  refine wpIn_rangeFunc_ownH hro h1 (gf := g) (lb := lb) rfl hFg eg hseq walksK_t walksK_b hB0 (fun _ => rfl)
    (AppP w) (fun _ _ _ => False)
    (OwnFrom.and (Own.from (holdsRow_own w.heap.size w.heap.size 53 75 2 (fun pre : List (Int × Int) => pre.length) (fun pre => pre.flatMap partCells) (fun pre v => (v = .slice none 0 0 ↔ pre = []))) _) (ownFrom_below (Nat.le_refl _) (by omega)))
    (fun _ _ _ _ _ hs _ _ => hs)
    ⟨⟨_, bS, World.ownsRow_nil _ _ _ _, by simp⟩, hB0⟩
    (fun x a' W => ∃ Bx, w.heap.size < Bx ∧ W.heap[Bx]? = some (.cells #[.int .i64 x.1, .int .i64 x.2] 75 (0, 0)) ∧ a' = { tmps := #[.slice none 0 0, .func (.func g) #[] lb, .pointer (some ⟨w.heap.size, 0, none⟩), undef, .slice none 0 0, .pointer (some ⟨Bx, 0, none⟩), .func (.func g) #[] lb, partV x, undef, undef, undef, undef, undef], defers := [] })
    (fun x a' _ X Y row hs hg hr => by
      obtain ⟨Bx, h1, h2, h3⟩ := hs
      refine ⟨Bx, h1, (hg.block Bx (Array.getElem?_eq_some_iff.1 h2).1 (fun e => ?_)).trans h2, h3⟩
      obtain ⟨o, ho, hc⟩ := (hr Bx e.symm).2
      rw [h2] at ho
      cases ho
      cases hc)
    ?assign ?body ?done ?stop
  case assign =>
    rintro l pre x W K ⟨⟨v, bv, hv, hn⟩, hB1⟩ hK
    gi_wp2
    exact hK _ _ ((KeepsOthers.alloc _ _).from _) (KeepsWalks.alloc _ _) ⟨⟨v, bv.alloc _, hv.alloc _, hn⟩, hB1.alloc hB1.size _⟩ ⟨W.heap.size, bv.lt, World.alloc_heap_new W _, rfl⟩
  case body =>
    rintro l pre x a' W hl ⟨r, hr⟩ ⟨⟨v, bv, hv, hnil⟩, hB1⟩ ⟨Bx, hBx, bX, rfl⟩ hlt
    have cv := bv.cell
    have fv := bv.frozen
    have c0 : W.cell? ⟨Bx, 0, none⟩ = some (.int .i64 x.1) := by rw [cell_of_row _ _ _ _ _ _ bX]; rfl
    have c1 : W.cell? ⟨Bx, 1, none⟩ = some (.int .i64 x.2) := by rw [cell_of_row _ _ _ _ _ _ bX]; rfl
    have hsW := hB1.size
    clear hr hl bX
    gi_wp2_with (gi_at_builtin; refine wpListIn_append_own _ rfl _ _ 53 rfl w.heap.size 75 i0 (.agg #[.int .i64 0, .int .i64 0]) 2 16 Tryz.underlying53 hi hz0 hz1 hz2 rfl (by decide) _ _ _ rfl (hv.alloc _) ⟨W.heap.size, 0, none⟩ 1 1 [.int .i64 x.1, .int .i64 x.2] rfl rfl (cells_two_new _ _ _ _) (by simp [Value.oneCell']) (by unfold maxLen; omega) (by omega) (by simp; omega) ?_; intro v' w1 hown' hgrow _; obtain ⟨g', cap', rfl⟩ := ownsRow_succ hown'; obtain ⟨hv1, hv2, hr2, hk2, hb2⟩ := bv.appended (by decide) hv hsW (Nat.le_refl _) hown' hgrow; have hc1 := hv1.cell; have hf1 := hv1.frozen)
    exact ⟨hk2.from _, ⟨hk2.size, fun k o hk ho => hk2.same k o hk (Obj.not_cells_of_walk ho)⟩, ⟨⟨_, hv2, by simpa [List.flatMap_append, partCells] using hr2, by simp⟩, hB1.trans hb2⟩⟩
  case done =>
    rintro D zs W hD hS ⟨⟨v, bv, hv, hnil⟩, hB1⟩ hK
    have cv := bv.cell
    gi_wp2
    refine ⟨by simp, .inl ⟨_, _, rfl, run_takeDeferred hK, ?_⟩⟩
    exact ⟨_, results_tmp rfl _ _ _, v, zs, rfl, hS, ownsRow_putObj hv _ hK rfl, hnil, hB1.trans (belowK_b (w := w) (Nat.le_refl _) W D _ _ (by omega) hK rfl rfl)⟩
  case stop =>
    rintro D c pre W _ _ h _
    exact h.elim
set_option maxRecDepth 100000 in
set_option maxHeartbeats 1000000 in
theorem collectP_in (F : Fence) (n : Nat) (h106 : F.fn 106) (h128 : F.fn 128) (hro : F.round = none) (hn : 3 ≤ n) (g : Nat) (lb : Array Value) (hFg : F.fn g) (eg : ∀ args w, (callFunc g args).run Tryz.prog w = .ok (.enter g args) w) (S Sp : List (Int × Int) → Prop) (N : Nat) (hN : N ≤ 1000) (w : World) (hseq : SeqStopsK F (n - 1 - 1) Tryz.prog g lb (fun p : Int × Int => #[partV p]) KeepsWalks S Sp N w) :
    CallsIn F n Tryz.prog 106 #[.func (.func g) #[] lb] w fun e w' => ∃ (v : Value) (ss : List (Int × Int)), e = .returned v ∧ S ss ∧ w'.ownsRow w.heap.size 75 2 v ss.length (ss.flatMap partCells) ∧ (v = .slice none 0 0 ↔ ss = []) ∧ Below w.heap.size w w' := by
  have h1 : 1 ≤ n := by omega
  have hap := appendSeqP_in F (n - 1) h128 hro (by omega) g lb hFg eg S Sp N hN w hseq
  refine callsIn_of_wp Tryz.func106 rfl h106 ?_ hro
  simp only [Tryz.ntmps106, List.size_toArray, List.length_cons, List.length_nil, Nat.reduceAdd, Nat.reduceSub, Array.replicate_succ, Array.replicate_zero, List.push_toArray, List.append_toArray, List.nil_append, List.cons_append]
  gi_wp2_with (gi_at_call 128; refine hap.mono ?_; rintro e w1 ⟨v, ss, rfl, hS, hrow, hnil, hB⟩)
  go_ret
  exact ⟨v, ss, rfl, hS, hrow, hnil, hB⟩
end Go.Proofs.YtkjajlolfcioiaaGreatDoor.Control

/- control.Job: the order of parts; slices.SortFunc by it. -/
namespace Go.Proofs.YtkjajlolfcioiaaGreatDoor.Control
open Go Go.RowKit Go.MapKept Go.Maps Go.Shelf Go.Proofs Go.Proofs.YtkjajlolfcioiaaGreatDoor Go.Proofs.YtkjajlolfcioiaaGreatDoor.Own Go.Proofs.YtkjajlolfcioiaaGreatDoor.Tail Go.Proofs.YtkjajlolfcioiaaGreatDoor.Mp Go.Proofs.YtkjajlolfcioiaaGreatDoor.Rng Go.Proofs.YtkjajlolfcioiaaGreatDoor.Mk Go.Proofs.YtkjajlolfcioiaaGreatDoor.Plan Go.Proofs.YtkjajlolfcioiaaGreatDoor.Check Go.Proofs.YtkjajlolfcioiaaGreatDoor.Ctl

def orI (x y : Int) : Int := if x ≠ 0 then x else y
set_option maxRecDepth 100000 in
set_option maxHeartbeats 1000000 in
/-- cmp.Or of two. -/
theorem or_calls (b c : Nat) (x y : Int) (w : World) (h0 : w.cell? ⟨b, 0, none⟩ = some (.int .i64 x)) (h1 : w.cell? ⟨b, 1, none⟩ = some (.int .i64 y)) :
    Calls Tryz.prog 72 #[.slice (some ⟨b, 0, none⟩) 2 c] w fun e w' => e = .returned (.int .i64 (orI x y)) ∧ w' = w := by
  have HA : x ≠ 0 → orI x y = x := fun h => by unfold orI; rw [if_pos h]
  have HB : x = 0 → orI x y = y := fun h => by unfold orI; rw [if_neg (by simpa using h)]
  generalize orI x y = r at HA HB ⊢
  have HA := Lib.hid HA
  have HB := Lib.hid HB
  go_enter Tryz.func72, Tryz.ntmps72
  go_wp2
  go_loopw [8] (fun iv wr => wr = w ∧ ∃ k : Nat, k ≤ 2 ∧ iv = .int .i64 (k : Int) ∧ (0 < k → x = 0) ∧ (1 < k → y = 0)) (fun iv _ => 2 - (RowKit.intOf iv).toNat)
  case atStart => exact ⟨rfl, 0, by omega, rfl, by omega, by omega⟩
  case round =>
    obtain ⟨rfl, k, hk, rfl, hx, hy⟩ := hrel
    have hk3 : k = 0 ∨ k = 1 ∨ k = 2 := by omega
    rcases hk3 with rfl | rfl | rfl
    · clear hx hy
      by_cases hz : x = 0
      · subst hz
        go_wp2
        go_roundw
        case rel => refine ⟨?_, 1, by omega, ?_, ?_, by omega⟩ <;> simp
        case measure => decide
      · have hzb : (x == 0) = false := by simpa using hz
        have hzn : (x != 0) = true := by simpa using hz
        obtain rfl := HA.out hz
        go_wp2
        go_ret
        exact ⟨rfl, rfl⟩
    · have hx := hx (by omega)
      subst hx
      clear hy
      by_cases hz : y = 0
      · subst hz
        go_wp2
        go_roundw
        case rel => refine ⟨?_, 2, by omega, ?_, ?_, ?_⟩ <;> simp
        case measure => decide
      · have hzb : (y == 0) = false := by simpa using hz
        have hzn : (y != 0) = true := by simpa using hz
        obtain rfl := HB.out rfl
        go_wp2
        go_ret
        exact ⟨rfl, rfl⟩
    · have hx := hx (by omega)
      have hy := hy (by omega)
      subst hx
      subst hy
      obtain rfl := HB.out rfl
      go_wp2
      go_ret
      exact ⟨rfl, rfl⟩
def cfP (a b : Int × Int) : Int := orI (Lib.compareInt a.1 b.1) (Lib.compareInt a.2 b.2)
theorem ltP (x y : Int × Int) : ltOf cfP x y = decide (PLt x y) := by
  unfold ltOf cfP orI Lib.compareInt PLt
  rw [Bool.eq_iff_iff]
  simp only [decide_eq_true_eq]
  by_cases h1 : x.1 < y.1
  · simp [h1]
  · by_cases h2 : y.1 < x.1
    · simp [h1, h2]
      omega
    · have e : x.1 = y.1 := by omega
      by_cases h3 : x.2 < y.2
      · simp [e, h3]
      · by_cases h4 : y.2 < x.2 <;> simp [e, h3, h4]
theorem swoP : Sort.SWO (ltOf cfP) where
  irrefl x := by rw [ltP]; simpa using PLt.irrefl x
  trans x y z h1 h2 := by rw [ltP] at *; simp only [decide_eq_true_eq] at *; exact h1.trans h2
  ntrans x y z h1 h2 := by rw [ltP] at *; simp only [decide_eq_false_iff_not] at *; unfold PLt at *; omega
theorem partsP (x y : Int × Int) (h1 : ltOf cfP x y = false) (h2 : ltOf cfP y x = false) : x = y := by
  rw [ltP] at h1 h2
  simp only [decide_eq_false_iff_not] at h1 h2
  rcases PLt.tri x y with h | h | h
  · exact absurd h h1
  · exact h
  · exact absurd h h2
theorem drew_alloc (w : World) (n : Nat) (o : Obj) : (w.alloc o).drewN n = (w.drewN n).alloc o := rfl
set_option maxRecDepth 100000 in
set_option maxHeartbeats 2000000 in
theorem cmpP (x y : Int × Int) (w : World) : Calls Tryz.prog 71 #[.agg #[.int .i64 x.1, .int .i64 x.2], .agg #[.int .i64 y.1, .int .i64 y.2]] w fun e w' => e = .returned (.int .i64 (cfP x y)) ∧ ∃ q os', w' = Sort.grow (w.drewN q) os' := by
  have hc := fun (a b : Int) W' => Any.cmp_Compare_int Tryz.lays122 a b W'
  change ∀ a b W', Calls Tryz.prog 73 _ _ _ at hc
  unfold cfP
  generalize Lib.compareInt = C at hc ⊢
  have HC := Lib.hid hc
  clear hc
  go_enter Tryz.func71, Tryz.ntmps71
  go_wp2
  refine draws_tail 10 (by kernel_rfl) (by kernel_rfl) ?_
  simp only [List.take_succ_cons, List.take_zero, List.drop_succ_cons, List.drop_zero]
  repeat (go_big_quiet_step ((go_at_call 73; exact Calls.quiet_of ((HC.out _ _ _).mono fun _ _ ⟨h1, h2⟩ => ⟨h1, 0, h2⟩))))
  refine wpQuiet_nil ?_
  rintro X ⟨nx, rfl⟩
  go_wp2_with (go_at_call 72; (with_reducible refine (or_calls _ _ _ _ _ (cell_new (by simp) rfl) (cell_new (by simp) rfl)).mono ?_); rintro e w1 ⟨rfl, rfl⟩)
  go_ret
  exact ⟨rfl, nx, _, by rw [drew_alloc, drew_alloc, Sort.alloc_eq_grow, Sort.alloc_eq_grow, Sort.alloc_eq_grow, Sort.grow_grow, Sort.grow_grow]⟩
end Go.Proofs.YtkjajlolfcioiaaGreatDoor.Control

/- control.Job: slices.SortedFunc(maps.Keys(m), ..) of a map of parts. -/
namespace Go.Proofs.YtkjajlolfcioiaaGreatDoor.Control
open Go Go.RowKit Go.MapKept Go.Maps Go.Shelf Go.Lib Go.Proofs Go.Proofs.YtkjajlolfcioiaaGreatDoor Go.Proofs.YtkjajlolfcioiaaGreatDoor.Own Go.Proofs.YtkjajlolfcioiaaGreatDoor.Tail Go.Proofs.YtkjajlolfcioiaaGreatDoor.Mp Go.Proofs.YtkjajlolfcioiaaGreatDoor.Rng Go.Proofs.YtkjajlolfcioiaaGreatDoor.Mk Go.Proofs.YtkjajlolfcioiaaGreatDoor.Plan Go.Proofs.YtkjajlolfcioiaaGreatDoor.Check Go.Proofs.YtkjajlolfcioiaaGreatDoor.Ctl
open Go.Sort (flatK get_flatK HoldsK putRow putCells mapBlock onCells grow heap_grow_old putRowK)

theorem partsLen (d : List (Int × Int)) : (d.flatMap partCells).length = d.length * 2 := by
  induction d with
  | nil => rfl
  | cons x r ih => rw [List.flatMap_cons, List.length_append, ih, List.length_cons]; simp [partCells]; omega
theorem flatP (d : List (Int × Int)) : flatK partCells 2 d.toArray = (d.flatMap partCells).toArray := by
  have hg : ∀ (k j : Nat) (x : Int × Int), d[k]? = some x → j < 2 → (d.flatMap partCells)[k * 2 + j]? = (partCells x)[j]? := flat_get partCells 2 (fun _ => rfl) d
  obtain ⟨E, hE, hl⟩ : ∃ E, d.flatMap partCells = E ∧ E.length = d.length * 2 := ⟨_, rfl, partsLen d⟩
  rw [hE] at hg ⊢
  apply Array.ext
  · simp [hl]
  · intro i h1 h2
    have hj : i < d.length * 2 := by simpa [hl] using h2
    have hi : i / 2 < d.length := by omega
    have e1 := get_flatK partCells 2 d.toArray i (by simpa using hj)
    have e2 := hg (i / 2) (i % 2) d[i / 2] (List.getElem?_eq_getElem hi) (Nat.mod_lt _ (by decide))
    rw [show i / 2 * 2 + i % 2 = i by omega] at e2
    have hl2 : i % 2 < (partCells d[i / 2]).length := Nat.mod_lt _ (by decide)
    rw [List.getElem?_eq_getElem (by rw [hl]; exact hj), List.getElem?_eq_getElem hl2] at e2
    rw [getElem!_pos (flatK partCells 2 d.toArray) i h1] at e1
    rw [e1]
    have e3 : d.toArray[i / 2]! = d[i / 2] := by simp [getElem!_pos, hi]
    rw [e3]
    rw [getElem!_pos (partCells d[i / 2]) (i % 2) hl2]
    have := Option.some.inj e2
    simpa using this.symm
theorem holdsP {w : World} {base g cap : Nat} {d : List (Int × Int)} (h : w.ownsRow base 75 2 (.slice (some ⟨g, 0, none⟩) d.length cap) d.length (d.flatMap partCells)) : HoldsK partCells 2 w g 0 d.toArray := by
  unfold HoldsK
  rw [flatP]
  have hl := partsLen d
  generalize d.flatMap partCells = E at h hl ⊢
  intro j hj
  simp only [List.size_toArray, hl] at hj
  have hlt : j < E.length := by rw [hl]; exact hj
  obtain ⟨h1, h2⟩ := own_cell h (List.getElem?_eq_getElem hlt)
  rw [Nat.zero_add]
  exact ⟨by rw [h1]; simp [hlt], h2⟩
theorem grown_sortedP {w : World} {g n : Nat} {os : Array Obj} (d : Array Value) : w.grownBy (grow (putRow id (Sort.ahead w n) g 0 d) os) (some g) := by
  refine ⟨rfl, rfl, rfl, by simp, fun k hk hne => ?_⟩
  rw [heap_grow_old _ _ (by simpa using hk)]
  have : g ≠ k := fun e => hne (by rw [e])
  simp [putRow, mapBlock, Sort.ahead, Array.getElem?_modify, this]
theorem owns_sortedP {w : World} {base g cap n : Nat} {os : Array Obj} {d d' : List (Int × Int)} (hl : d'.length = d.length) (h : w.ownsRow base 75 2 (.slice (some ⟨g, 0, none⟩) d.length cap) d.length (d.flatMap partCells)) :
    (grow (putRow id (Sort.ahead w n) g 0 (d'.flatMap partCells).toArray) os).ownsRow base 75 2 (.slice (some ⟨g, 0, none⟩) d.length cap) d.length (d'.flatMap partCells) := by
  have hlen : (d'.flatMap partCells).length = d.length * 2 := by rw [partsLen, hl]
  generalize d'.flatMap partCells = E at hlen ⊢
  rcases h.2 with ⟨e0, _⟩ | ⟨g', cap', cur, e0, hb, hg, hn, hm, hs, ht⟩
  · cases e0
  · obtain ⟨rfl, rfl⟩ : g = g' ∧ cap = cap' := by simpa using e0
    have hgl : g < w.heap.size := (Array.getElem?_eq_some_iff.1 hg).1
    refine ⟨hlen, .inr ⟨g, cap, putCells id 0 E.toArray cur, rfl, hb, ?_, hn, hm, by simpa [putCells] using hs, ?_⟩⟩
    · rw [heap_grow_old _ _ (by simpa using hgl)]
      simp [putRow, mapBlock, Sort.ahead, Array.getElem?_modify, hg, onCells]
    · apply List.ext_getElem?
      intro j
      by_cases hj : j < d.length * 2
      · have hjc : j < cur.size := by omega
        rw [List.getElem?_take_of_lt hj, Array.getElem?_toList]
        simp [putCells, hjc, hlen, hj]
      · rw [List.getElem?_take_eq_none (by omega), List.getElem?_eq_none (by omega)]
def sortP (d : List (Int × Int)) : List (Int × Int) := d.mergeSort fun x y => !(ltOf cfP y x)
theorem sortP_len (d : List (Int × Int)) : (sortP d).length = d.length := List.length_mergeSort _
set_option maxHeartbeats 1000000 in
theorem sortFuncP_calls (base g cap : Nat) (d : List (Int × Int)) (w : World) (hl : d.length ≤ 1000) (h : w.ownsRow base 75 2 (.slice (some ⟨g, 0, none⟩) d.length cap) d.length (d.flatMap partCells)) :
    Calls Tryz.prog 107 #[.slice (some ⟨g, 0, none⟩) d.length cap, .func (.func 71) #[] #[]] w fun e w' => e = .returned (.tuple #[]) ∧
      w'.ownsRow base 75 2 (.slice (some ⟨g, 0, none⟩) d.length cap) d.length ((sortP d).flatMap partCells) ∧ w.grownBy w' (some g) := by
  have hgl : g < w.heap.size := (h.lt g rfl).2
  have eg : ∀ args w, (callFunc 71 args).run Tryz.prog w = .ok (.enter 71 args) w := enters_of Tryz.func71 (by kernel_rfl) rfl
  have hcon := AnyQ.slices_SortFunc_total Tryz.sortP 2 Tryz.isAgg75 Tryz.sizeOf75 partCells (fun _ => rfl) (fun x v hv => by simp [partCells] at hv; rcases hv with rfl | rfl <;> rfl) cfP swoP 71 #[] g 0 cap d.toArray w eg (fun _ _ _ _ x y => cmpP x y _) (holdsP h) hgl (by simp; omega) partsP
  change Calls Tryz.prog 107 _ _ _ at hcon
  simp only [List.size_toArray] at hcon
  refine hcon.mono ?_
  rintro e w' ⟨rfl, n, os, rfl⟩
  refine ⟨rfl, ?_, ?_⟩
  · unfold sortWorldK putRowK
    rw [flatP]
    exact owns_sortedP (sortP_len d) h
  · unfold sortWorldK putRowK
    exact grown_sortedP _
theorem sortNoneP_calls (w : World) : Calls Tryz.prog 107 #[.slice none 0 0, .func (.func 71) #[] #[]] w fun e w' => e = .returned (.tuple #[]) ∧ w' = w :=
  AnyF.slices_SortFunc_none Tryz.sortP none 0 _ w
/-- what is sorted is the parts' rising list. -/
theorem sortP_is {ss L : List (Int × Int)} (hn : ss.Nodup) (hm : ∀ p, p ∈ ss ↔ p ∈ L) (hs : L.Pairwise PLt) : sortP ss = L := by
  refine sorted_same _ _ ?_ hs fun q => by unfold sortP; rw [(List.mergeSort_perm ss _).mem_iff, hm]
  have h1 : (sortP ss).Pairwise (fun x y => (!(ltOf cfP y x)) = true) := List.pairwise_mergeSort (fun a b c h1 h2 => by
    rw [ltP] at *
    simp only [Bool.not_eq_true', decide_eq_false_iff_not] at *
    unfold PLt at *
    omega) (fun a b => by
    rw [ltP, ltP]
    simp only [Bool.or_eq_true, Bool.not_eq_true', decide_eq_false_iff_not]
    unfold PLt
    omega) ss
  have h2 : (sortP ss).Nodup := (List.mergeSort_perm ss _).nodup_iff.2 hn
  exact (h1.and h2).imp (fun {x y} ⟨q1, q2⟩ => by
    rw [ltP] at q1
    simp only [Bool.not_eq_true', decide_eq_false_iff_not] at q1
    rcases PLt.tri x y with h | h | h
    · exact h
    · exact absurd h q2
    · exact absurd h q1)
set_option maxRecDepth 100000 in
set_option maxHeartbeats 2000000 in
theorem sortedFuncP_in (F : Fence) (n : Nat) (hF : ∀ f, F.fn f) (hro : F.round = none) (hn : 4 ≤ n) (hsn : ∀ W, CallsIn F (n - 1) Tryz.prog 107 #[.slice none 0 0, .func (.func 71) #[] #[]] W fun e w' => e = .returned (.tuple #[]) ∧ w' = W)
    (hss : ∀ (base g cap : Nat) (d : List (Int × Int)) (w : World), d.length ≤ 1000 → w.ownsRow base 75 2 (.slice (some ⟨g, 0, none⟩) d.length cap) d.length (d.flatMap partCells) →
      CallsIn F (n - 1) Tryz.prog 107 #[.slice (some ⟨g, 0, none⟩) d.length cap, .func (.func 71) #[] #[]] w fun e w' => e = .returned (.tuple #[]) ∧
      w'.ownsRow base 75 2 (.slice (some ⟨g, 0, none⟩) d.length cap) d.length ((sortP d).flatMap partCells) ∧ w.grownBy w' (some g))
    (g : Nat) (lb : Array Value) (eg : ∀ args w, (callFunc g args).run Tryz.prog w = .ok (.enter g args) w) (S Sp : List (Int × Int) → Prop) (N : Nat) (hN : N ≤ 1000) (hSN : ∀ ss, S ss → ss.length ≤ N) (w : World) (hseq : SeqStopsK F (n - 1 - 1 - 1) Tryz.prog g lb (fun p : Int × Int => #[partV p]) KeepsWalks S Sp N w) :
    CallsIn F n Tryz.prog 69 #[.func (.func g) #[] lb, .func (.func 71) #[] #[]] w fun e w' => ∃ (v : Value) (ss : List (Int × Int)), e = .returned v ∧ S ss ∧ w'.ownsRow w.heap.size 75 2 v ss.length ((sortP ss).flatMap partCells) ∧ Below w.heap.size w w' := by
  have h1 : 1 ≤ n := by omega
  have hco := collectP_in F (n - 1) (hF _) (hF _) hro (by omega) g lb (hF _) eg S Sp N hN w hseq
  have hfn := hF 107
  have hfc := hF 106
  refine callsIn_of_wp Tryz.func69 rfl (hF _) ?_ hro
  simp only [Tryz.ntmps69, List.size_toArray, List.length_cons, List.length_nil, Nat.reduceAdd, Nat.reduceSub, Array.replicate_succ, Array.replicate_zero, List.push_toArray, List.append_toArray, List.nil_append, List.cons_append]
  gi_wp2_with (gi_at_call 106; refine hco.mono ?_; rintro e w1 ⟨v, ss, rfl, hS, hrow, hnil, hB⟩)
  have hlen := hSN ss hS
  rcases id hrow.2 with ⟨rfl, hz⟩ | ⟨gb, cap, cur, rfl, hbase, hgb, r1, r2, r3, r4⟩
  · have hss0 : ss = [] := List.eq_nil_of_length_eq_zero hz
    subst hss0
    gi_wp2_with (gi_at_call 107; refine (hsn _).mono ?_; rintro e w2 ⟨rfl, rfl⟩)
    go_ret
    exact ⟨.slice none 0 0, [], rfl, hS, by simpa [sortP] using hrow, hB⟩
  · have hso := hss _ gb cap ss w1 (by omega) hrow
    gi_wp2_with (gi_at_call 107; refine hso.mono ?_; rintro e w2 ⟨rfl, hrow2, hg2⟩)
    go_ret
    exact ⟨_, ss, rfl, hS, hrow2, hB.grown hg2 hB.size (fun j hj => by cases hj; exact hbase)⟩
/-- slices.SortedFunc(maps.Keys(m), ..): the parts, rising. -/
theorem sortedP_calls (mo : Option Nat) (L : List (Int × Int)) (w : World) (Bm : Nat) (hBm : Bm < w.heap.size) (hm : w.cell? ⟨Bm, 0, none⟩ = some (.map mo)) (hA : AckAt w mo L) (hL : L.Pairwise PLt) (hlen : L.length ≤ 1000) :
    Calls Tryz.prog 69 #[.func (.func 108) #[] #[.pointer (some ⟨Bm, 0, none⟩)], .func (.func 71) #[] #[]] w fun e w' => ∃ v, e = .returned v ∧ w'.ownsRow w.heap.size 75 2 v L.length (L.flatMap partCells) ∧ Below w.heap.size w w' := by
  have eg : ∀ args w, (callFunc 108 args).run Tryz.prog w = .ok (.enter 108 args) w := enters_of Tryz.func108 (by kernel_rfl) rfl
  refine (callsIn_wide (n := 5)).1 ?_
  cases mo with
  | none =>
    obtain rfl : L = [] := hA
    refine (sortedFuncP_in Fence.wide 5 (fun _ => trivial) rfl (by omega) (fun W => callsIn_wide.2 (sortNoneP_calls W)) (fun base g cap d w h1 h2 => callsIn_wide.2 (sortFuncP_calls base g cap d w h1 h2)) _ _ eg _ _ 0 (by omega) (fun ss h => by rw [h]; exact Nat.le_refl _) w (keysP_stops_nil Fence.wide 2 trivial rfl Bm w hBm hm)).mono ?_
    rintro e w' ⟨v, ss, rfl, rfl, hrow, hB⟩
    exact ⟨v, rfl, by simpa [sortP] using hrow, hB⟩
  | some m =>
    refine (sortedFuncP_in Fence.wide 5 (fun _ => trivial) rfl (by omega) (fun W => callsIn_wide.2 (sortNoneP_calls W)) (fun base g cap d w h1 h2 => callsIn_wide.2 (sortFuncP_calls base g cap d w h1 h2)) _ _ eg _ _ L.length hlen (fun ss h => nodup_sub ss L h.1 (fun x hx => (h.2 x).1 hx)) w (keysP_stops Fence.wide 2 trivial rfl (by omega) Bm m L w hBm hm hA)).mono ?_
    rintro e w' ⟨v, ss, rfl, ⟨h1, h2⟩, hrow, hB⟩
    rw [sortP_is h1 h2 hL] at hrow
    have hl2 : ss.length = L.length := by
      have := congrArg List.length (sortP_is h1 h2 hL)
      rw [sortP_len] at this
      exact this
    rw [hl2] at hrow
    exact ⟨v, rfl, hrow, hB⟩
end Go.Proofs.YtkjajlolfcioiaaGreatDoor.Control
