/- slices.CompactFunc at spans: the same spans, in their order, fewer times. -/
import Derived.Test.YtdmflbdcfnpikaaHandSort
import Derived.Deep.RegionHeld
import Derived.Laws.OwnMore
import Derived.Lib.SliceRun
import Derived.Lib.BufferOwn
import Derived.Outline
namespace Go.Proofs.Ytdmflbdcfnpikaa.Hand
open Go.RowKit Go.Proofs.Ytdmflbdcfnpikaa Go.Proofs.Ytdmflbdcfnpikaa.Spans Go.Proofs.YtdmflbdcfnpikaaW Go.Proofs.YtdmflbdcfnpikaaW.PrintWords Go.Lib

theorem clo28 (x y : Sp) (w : World) : Calls Try.prog 28 #[.agg #[.int .i64 x.1, .int .i64 x.2], .agg #[.int .i64 y.1, .int .i64 y.2]] w fun e w' => e = .returned (.bool (decide (x = y))) ∧ Below w.heap.size w w' := by
  by_cases h1 : x.1 = y.1
  · by_cases h2 : x.2 = y.2
    · go_enter Try.func28, Try.ntmps28
      go_wp2
      go_ret
      exact ⟨ret_bool (by simp [Prod.ext_iff, h1, h2]), ((Below.refl _ _).alloc (Nat.le_refl _) _).alloc (by simp) _⟩
    · go_enter Try.func28, Try.ntmps28
      go_wp2
      go_ret
      exact ⟨ret_bool (by simp [Prod.ext_iff, h1, h2]), ((Below.refl _ _).alloc (Nat.le_refl _) _).alloc (by simp) _⟩
  · go_enter Try.func28, Try.ntmps28
    go_wp2
    go_ret
    exact ⟨ret_bool (by simp [Prod.ext_iff, h1]), ((Below.refl _ _).alloc (Nat.le_refl _) _).alloc (by simp) _⟩

theorem own_cell {base g n cap : Nat} {d : List Sp} {w : World} (h : w.ownsRow base 34 2 (.slice (some ⟨g, 0, none⟩) n cap) n (encs d)) {j : Nat} {x : Sp} (hj : d[j]? = some x) :
    w.cell? ⟨g, j * 2, none⟩ = some (.int .i64 x.1) ∧ w.cell? ⟨g, j * 2 + 1, none⟩ = some (.int .i64 x.2) := by
  have hlt := (List.getElem?_eq_some_iff.1 hj).1
  have hl : (encs d).length = n * 2 := h.1
  rw [encs_length] at hl
  obtain ⟨h1, h2⟩ := encs_get d j x hj
  exact ⟨(h.cellAt _ (by omega)).trans h1, (h.cellAt _ (by omega)).trans h2⟩
theorem own_below {base g n cap : Nat} {xs : List Value} {w w' : World} (h : w.ownsRow base 34 2 (.slice (some ⟨g, 0, none⟩) n cap) n xs) (hb : Below w.heap.size w w') : w'.ownsRow base 34 2 (.slice (some ⟨g, 0, none⟩) n cap) n xs :=
  h.kept (grownBy_below (World.grownBy.refl w none) hb) (.inr (by simp [Value.ownBlock]))

theorem grown_drew {w w' : World} {row : Option Nat} (h : w.grownBy w' row) : w.grownBy w'.drew row := ⟨h.os, h.tape, h.output, h.size, h.block⟩
structure CI (d : List Sp) (m : Nat) (L C : List Sp) : Prop where
  size : L.length = d.length
  le : C.length ≤ m
  head : L.take C.length = C
  rest : ∀ i, m ≤ i → L[i]? = d[i]?
  sub : C.Sublist (d.take (m + 1))
  all : ∀ x ∈ d.take (m + 1), x ∈ C
theorem CI.start {d : List Sp} {k : Nat} {x : Sp} (hx : d[k + 1]? = some x) (hy : d[k]? = some x) : CI d (k + 1) d (d.take (k + 1)) := by
  have hlt := (List.getElem?_eq_some_iff.1 hx).1
  have hlen : (d.take (k + 1)).length = k + 1 := by rw [List.length_take]; omega
  refine ⟨rfl, by omega, by rw [hlen], fun _ _ => rfl, ?_, fun z hz => ?_⟩
  · rw [take_snoc d (k + 1) x hx]; exact List.sublist_append_left _ _
  · rw [take_snoc d (k + 1) x hx, List.mem_append, List.mem_singleton] at hz
    rcases hz with hz | rfl
    · exact hz
    · exact List.mem_of_getElem? (i := k) (by rw [List.getElem?_take, if_pos (by omega), hy])
theorem CI.skip {d : List Sp} {m : Nat} {L C : List Sp} (h : CI d m L C) {x : Sp} (hx : d[m + 1]? = some x) (hy : d[m]? = some x) : CI d (m + 1) L C := by
  refine ⟨h.size, by have := h.le; omega, h.head, fun i hi => h.rest i (by omega), ?_, fun z hz => ?_⟩
  · rw [take_snoc d (m + 1) x hx]; exact h.sub.trans (List.sublist_append_left _ _)
  · rw [take_snoc d (m + 1) x hx, List.mem_append, List.mem_singleton] at hz
    rcases hz with hz | rfl
    · exact h.all z hz
    · exact h.all z (List.mem_of_getElem? (i := m) (by rw [List.getElem?_take, if_pos (by omega), hy]))
theorem CI.push {d : List Sp} {m : Nat} {L C : List Sp} (h : CI d m L C) {x : Sp} (hx : d[m + 1]? = some x) : CI d (m + 1) (L.set C.length x) (C ++ [x]) := by
  have hlt := (List.getElem?_eq_some_iff.1 hx).1
  have hle := h.le
  have hsz := h.size
  refine ⟨by simpa using h.size, by simp; omega, ?_, fun i hi => ?_, ?_, fun z hz => ?_⟩
  · have h1 : (L.set C.length x)[C.length]? = some x := by rw [List.getElem?_set_self (by omega)]
    rw [List.length_append, List.length_singleton, take_snoc _ _ x h1, List.take_set_of_le (Nat.le_refl _), h.head]
  · rw [List.getElem?_set_ne (by omega)]; exact h.rest i (by omega)
  · rw [take_snoc d (m + 1) x hx]; exact h.sub.append (List.Sublist.refl _)
  · rw [take_snoc d (m + 1) x hx, List.mem_append] at hz
    rw [List.mem_append]
    exact hz.imp (h.all z) id
theorem encs_set (L : List Sp) : ∀ (c : Nat) (x : Sp), ((encs L).set (c * 2) (.int .i64 x.1)).set (c * 2 + 1) (.int .i64 x.2) = encs (L.set c x) := by
  induction L with
  | nil => intro c x; rfl
  | cons y L ih =>
    intro c x
    have e : ∀ (y : Sp) (L : List Sp), encs (y :: L) = .int .i64 y.1 :: .int .i64 y.2 :: encs L := by intro y L; simp [encs, enc]
    rcases c with _ | c
    · simp [e]
    · rw [List.set_cons_succ, e, e, ← ih, show (c + 1) * 2 = c * 2 + 1 + 1 by omega]
      rfl
theorem own_set {base g n cap : Nat} {L : List Sp} {w : World} (h : w.ownsRow base 34 2 (.slice (some ⟨g, 0, none⟩) n cap) n (encs L)) (c : Nat) (x : Sp) :
    ((w.setCell ⟨g, c * 2, none⟩ (.int .i64 x.1)).setCell ⟨g, c * 2 + 1, none⟩ (.int .i64 x.2)).ownsRow base 34 2 (.slice (some ⟨g, 0, none⟩) n cap) n (encs (L.set c x)) ∧
      w.grownBy ((w.setCell ⟨g, c * 2, none⟩ (.int .i64 x.1)).setCell ⟨g, c * 2 + 1, none⟩ (.int .i64 x.2)) (some g) := by
  obtain ⟨h1, g1⟩ := h.stored (c * 2) (.int .i64 x.1)
  obtain ⟨h2, g2⟩ := h1.stored (c * 2 + 1) (.int .i64 x.2)
  rw [encs_set] at h2
  exact ⟨h2, grownBy_trans g1 g2⟩

theorem own_cap {base g n cap : Nat} {xs : List Value} {w : World} (h : w.ownsRow base 34 2 (.slice (some ⟨g, 0, none⟩) n cap) n xs) : n ≤ cap := by
  rcases h.2 with ⟨h', _⟩ | ⟨g', cap', cur, h', _, _, hnc, _⟩
  · simp at h'
  · simp only [Value.slice.injEq, Option.some.injEq, Addr.mk.injEq, and_true, true_and] at h'
    omega

/-- 'clear' on a row's tail: what stands ahead of it stays. -/
theorem run_clear_tail {P : Program} (w : World) (t ty : TypeId)
    (base : Nat) (e : TypeId) (z : Value) (size : Nat) (h1 : P.underlying t = some (.slice e)) (hv : ∀ w, (zeroValue e).run P w = .ok z w) (hz : z.cells.size = size) (h1c : z.cells.all (·.oneCell') = true)
    (g k n m c cap : Nat) (xs : List Value) (hm : 0 < m) (hkm : k + m = n) (hown : w.ownsRow base e size (.slice (some ⟨g, 0, none⟩) n cap) n xs) :
    ∃ w', (Builtin.clear_ #[t] ty #[.slice (some ⟨g, k * size, none⟩) m c]).run P w = .ok (.tuple #[]) w' ∧ w'.ownsRow base e size (.slice (some ⟨g, 0, none⟩) k cap) k (xs.take (k * size)) ∧ w.grownBy w' (some g) := by
  have hxs := hown.1
  have hfz := hown.frozenAt
  have hca := hown.cellAt
  rcases hown.2 with ⟨h', _⟩ | ⟨g', cap', cur, h', hb, hgg, hnc, hcm, hcs, htake⟩
  · simp at h'
  simp only [Value.slice.injEq, Option.some.injEq, Addr.mk.injEq, and_true, true_and] at h'
  obtain ⟨rfl, rfl⟩ := h'
  have hsz : (Builtin.zeroCells z.cells m).size = m * size := by rw [size_zeroCells, hz]
  have hmul : k * size + m * size = n * size := by rw [← Nat.add_mul, hkm]
  have hone : ∀ v ∈ (Builtin.zeroCells z.cells m).toList, v.oneCell' = true := by
    intro v hv'
    simp only [Builtin.zeroCells, Array.toList_map, List.mem_map] at hv'
    obtain ⟨i, hi, rfl⟩ := hv'
    have hi' : i < m * z.cells.size := by simpa using hi
    have hpos : 0 < z.cells.size := by rcases Nat.eq_zero_or_pos z.cells.size with h0 | h0; · rw [h0] at hi'; simp at hi'
                                       · exact h0
    have hlt := Nat.mod_lt i hpos
    rw [getElem!_pos z.cells _ hlt]
    exact (Array.all_eq_true.1 h1c) _ hlt
  have hst := run_storeCells_cells (P := P) g (k * size) (Builtin.zeroCells z.cells m).toList 0 w
    (fun j hj => by
      rw [Array.length_toList, hsz] at hj
      rw [Nat.add_zero, hca (k * size + j) (by omega)]
      rw [List.getElem?_eq_getElem (by omega)]; rfl)
    (fun j hj => hfz _) hone
  simp only [Nat.add_zero] at hst
  obtain ⟨cur', c1, c2, c3⟩ := setCells_row (Builtin.zeroCells z.cells m).toList (k * size) w cur hgg (by
    rw [Array.length_toList, hsz, hcs, hmul]; exact Nat.mul_le_mul_right _ hnc)
  obtain ⟨s1, s2, s3, s4⟩ := setCells_same g (Builtin.zeroCells z.cells m).toList (k * size) w
  have hown' : (w.setCells g (k * size) (Builtin.zeroCells z.cells m).toList).ownsRow base e size (.slice (some ⟨g, 0, none⟩) k cap) k (xs.take (k * size)) := by
    refine ⟨by rw [List.length_take, hxs]; omega, .inr ⟨g, cap, cur', rfl, hb, c1, by omega, hcm, by rw [c2, hcs], ?_⟩⟩
    have hl : (cur.toList.take (k * size)).length = k * size := by
      rw [List.length_take, Array.length_toList, hcs]
      have := Nat.mul_le_mul_right size hnc
      omega
    rw [c3, List.append_assoc, List.take_append_of_le_length (by omega), List.take_of_length_le (by omega), ← htake, List.take_take, Nat.min_eq_left (by omega)]
  have hgr : w.grownBy (w.setCells g (k * size) (Builtin.zeroCells z.cells m).toList) (some g) := ⟨s1, s2, s3, by omega, fun j _ hj => setCells_far _ _ j (fun e => hj (by rw [e]))⟩
  obtain ⟨m', rfl⟩ : ∃ m', m = m' + 1 := ⟨m - 1, by omega⟩
  exact ⟨_, by simp [Builtin.clear_, run_underlying h1, hv, hst], hown', hgr⟩
theorem zero34 (w : World) : (zeroValue 34).run Try.prog w = .ok (.agg #[.int .i64 0, .int .i64 0]) w := by
  obtain ⟨i0, hi, hz0, hz1, hz2⟩ := info_parts info34
  simp [zeroValue, typeInfo, hi, hz0]

end Go.Proofs.Ytdmflbdcfnpikaa.Hand
