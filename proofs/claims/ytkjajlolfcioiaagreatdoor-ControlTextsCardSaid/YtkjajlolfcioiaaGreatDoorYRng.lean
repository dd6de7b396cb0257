/- Ranges over maps with keys of whatever kind (structs too), in and out of a fence; deletion; length. Laws over any program. -/
import Derived.Test.YtkjajlolfcioiaaGreatDoorYMp
import Derived.Maps.RangeRun
import Derived.Maps.Range
import Derived.Laws.IdiomRangeMap
import Derived.Sort.MapsRangeIn
import Derived.RangeFuncGives
import Derived.OwnWalkIn
import Derived.Maps.OwnSet
import Derived.DeepKeys5
namespace Go.Proofs.YtkjajlolfcioiaaGreatDoor.Rng
open Go Go.RowKit Go.MapKept Go.Maps Go.Proofs.YtkjajlolfcioiaaGreatDoor.Own Go.Proofs.YtkjajlolfcioiaaGreatDoor.Mp

/-- a range over the map b is under way, its iterator in block r: the entries es, the stamps seen. -/
def RngF (w : World) (b r : Nat) (es : Array MapEntry) (seen : Array Nat) : Prop :=
  ∃ clock since c0, w.heap[b]? = some (.map es clock) ∧ Stamped es clock ∧ w.heap[r]? = some (.mapIter (some b) since seen c0) ∧ (∀ x ∈ es.toList, x.born < since) ∧ since ≤ c0 ∧ since ≤ clock
theorem RngF.ne {w : World} {b r : Nat} {es : Array MapEntry} {seen : Array Nat} (h : RngF w b r es seen) : r ≠ b := by
  obtain ⟨clock, since, c0, hb, _, hr, _⟩ := h
  rintro rfl
  rw [hb] at hr
  cases hr
theorem RngF.lt {w : World} {b r : Nat} {es : Array MapEntry} {seen : Array Nat} (h : RngF w b r es seen) : b < w.heap.size ∧ r < w.heap.size := by
  obtain ⟨clock, since, c0, hb, _, hr, _⟩ := h
  exact ⟨(Array.getElem?_eq_some_iff.1 hb).1, (Array.getElem?_eq_some_iff.1 hr).1⟩
theorem RngF.iter_walk {w : World} {b r : Nat} {es : Array MapEntry} {seen : Array Nat} (h : RngF w b r es seen) : ∃ o : Obj, w.heap[r]? = some o ∧ o.isWalk = true := by
  obtain ⟨clock, since, c0, hb, _, hr, _⟩ := h
  exact ⟨_, hr, rfl⟩
theorem RngF.of_walks {w w' : World} {b r : Nat} {es : Array MapEntry} {seen : Array Nat} (h : RngF w b r es seen) (k : KeepsWalks w w') : RngF w' b r es seen := by
  obtain ⟨clock, since, c0, hb, hs, hr, rest⟩ := h
  exact ⟨clock, since, c0, k.same b _ hb rfl, hs, k.same r _ hr rfl, rest⟩
def rngLeft (w : World) (b r : Nat) : Nat := w.rangeLeft b r
theorem RngF.left_eq {w : World} {b r : Nat} {es : Array MapEntry} {seen : Array Nat} (h : RngF w b r es seen) : rngLeft w b r = (leftOf es seen).size := by
  obtain ⟨clock, since, c0, hb, _, hr, _⟩ := h
  unfold rngLeft World.rangeLeft
  rw [hb, hr]

section
variable {P : Program} {w : World} {d : TypeDesc} {b r : Nat} {f : Value → Option Value} {t k e : TypeId}
/-- 'range m'. -/
theorem MapF.range (h : MapF w d b f) (ht : P.underlying t = some (.map k e)) :
    ∃ w' es, (Instr.range t (.map (some b))).run P w = .ok (.pointer (some ⟨w.heap.size, 0, none⟩)) w' ∧ RngF w' b w.heap.size es #[] ∧ (∀ x ∈ es.toList, IsKey d x.key) ∧ (∀ x ∈ es.toList, f x.key = some x.val) ∧ (∀ k v, f k = some v → ∃ x ∈ es.toList, x.key = k) ∧ w.grownBy w' none ∧ w'.heap.size = w.heap.size + 1 := by
  have hlt := h.lt
  obtain ⟨es, clock, hb, hs, hk, h1, h2⟩ := h
  exact ⟨_, es, run_range_map w t k e b es clock ht hb, ⟨clock, clock, clock, ((MapKept.heap_alloc w _).2 b hlt).trans hb, hs, (MapKept.heap_alloc w _).1, ((stamped_iff es clock).1 hs).1, Nat.le_refl _, Nat.le_refl _⟩, hk, h1, h2, World.grownBy_alloc w _ none, by simp⟩
/-- the step. -/
theorem RngF.next {es : Array MapEntry} {seen : Array Nat} (h : RngF w b r es seen) (ty : TypeId) :
    ((leftOf es seen).size = 0 ∧ (Instr.next (.pointer (some ⟨r, 0, none⟩)) false ty).run P w = .ok (.tuple #[.bool false]) w) ∨
    ∃ x w', x ∈ es.toList ∧ seen.contains x.born = false ∧ (Instr.next (.pointer (some ⟨r, 0, none⟩)) false ty).run P w = .ok (.tuple #[.bool true, x.key, x.val]) w' ∧
      RngF w' b r es (seen.push x.born) ∧ (leftOf es (seen.push x.born)).size < (leftOf es seen).size ∧ w.grownBy w' (some r) ∧ w'.heap.size = w.heap.size ∧ (Instr.entry (.pointer (some ⟨r, 0, none⟩))).run P w' = .ok (.tuple #[x.key, x.val]) w' := by
  have hne := h.ne
  obtain ⟨clock, since, c0, hb, hs, hr, hold, hsc, hsk⟩ := h
  rcases run_next_at (P := P) w ty r b since c0 seen es clock hr hb hold hsc with ⟨h0, hrun⟩ | ⟨x, hx, w1, hal, hrun⟩
  · exact .inl ⟨h0, hrun⟩
  · obtain ⟨hem, hes⟩ := mem_left hx
    have hr1 : w1.heap[r]? = some (.mapIter (some b) since seen c0) := by rcases hal with rfl | rfl <;> exact hr
    have hb1 : w1.heap[b]? = some (.map es clock) := by rcases hal with rfl | rfl <;> exact hb
    have hset := heap_set (o' := .mapIter (some b) since (seen.push x.born) clock) hr1
    have hb' : (ChangeMaps.setBlock w1 r (.mapIter (some b) since (seen.push x.born) clock)).heap[b]? = some (.map es clock) := (hset.2 b (fun e1 => hne e1.symm)).trans hb1
    refine .inr ⟨x, _, hem, hes, hrun, ⟨clock, since, clock, hb', hs, hset.1, hold, hsk, hsk⟩, left_shrinks es seen x hx, ?_, ?_, run_entry_at _ r b since seen es clock x hset.1 hb' hem ((stamped_iff es clock).1 hs).2.1⟩
    · rcases hal with rfl | rfl <;> exact ⟨rfl, rfl, rfl, by simp [ChangeMaps.setBlock], fun i _ hi => hset.2 i (fun e1 => hi (by rw [e1]))⟩
    · rcases hal with rfl | rfl <;> simp [ChangeMaps.setBlock]
end
section
variable {F : Fence} {n : Nat} {P : Program} (w : World) {ops : Array Oper} {rest : List Oper} {o : Oper} {a : Act} {Q : Exit → Act → World → Prop}
theorem listIn_range (hg : o.guard = none) (m : Operand) (t : TypeId) (hop : o.op = Op.range t m) {k e : TypeId} {d : TypeDesc} {b : Nat} {f : Value → Option Value} (h : MapF w d b f) (ht : P.underlying t = some (.map k e)) (hm : a.eval m = .map (some b))
    (hK : ∀ w' es, RngF w' b w.heap.size es #[] → (∀ x ∈ es.toList, IsKey d x.key) → (∀ x ∈ es.toList, f x.key = some x.val) → (∀ k v, f k = some v → ∃ x ∈ es.toList, x.key = k) → w.grownBy w' none → w'.heap.size = w.heap.size + 1 → wpListIn F n P ops Q rest (a.put o.dst (.pointer (some ⟨w.heap.size, 0, none⟩))) w') :
    wpListIn F n P ops Q (o :: rest) a w := by
  refine wpListIn_plain hg fun K' hK' => ?_
  obtain ⟨w', es, hrun, r1, r2, r3, r4, r5, r6⟩ := MapF.range (P := P) h ht
  unfold Oper.wpIn
  refine ⟨by simp [Oper.about, hop], ?_⟩
  rw [Oper.semAt_plain F _ _ (by rw [hop]; intro c hc'; cases hc')]
  simp [execOp, hop, hm, hrun, Result.andThen]
  exact hK' _ _ (hK w' es r1 r2 r3 r4 r5 r6)
theorem listIn_next (hg : o.guard = none) (it : Operand) (hop : o.op = Op.next it false) {b r : Nat} {es : Array MapEntry} {seen : Array Nat} (h : RngF w b r es seen) (hit : a.eval it = .pointer (some ⟨r, 0, none⟩))
    (hDone : (leftOf es seen).size = 0 → wpListIn F n P ops Q rest (a.put o.dst (.tuple #[.bool false])) w)
    (hMore : ∀ (x : MapEntry) (w' : World), x ∈ es.toList → seen.contains x.born = false → RngF w' b r es (seen.push x.born) → (leftOf es (seen.push x.born)).size < (leftOf es seen).size → w.grownBy w' (some r) → w'.heap.size = w.heap.size →
      (Instr.entry (.pointer (some ⟨r, 0, none⟩))).run P w' = .ok (.tuple #[x.key, x.val]) w' → wpListIn F n P ops Q rest (a.put o.dst (.tuple #[.bool true, x.key, x.val])) w') :
    wpListIn F n P ops Q (o :: rest) a w := by
  refine wpListIn_plain hg fun K' hK' => ?_
  unfold Oper.wpIn
  refine ⟨by simp [Oper.about, hop], ?_⟩
  rw [Oper.semAt_plain F _ _ (by rw [hop]; intro c hc'; cases hc')]
  rcases h.next (P := P) o.type with ⟨h0, hrun⟩ | ⟨x, w', h1, h2, hrun, h3, h4, h5, h6, h7⟩
  · simp [execOp, hop, hit, hrun, Result.andThen]
    exact hK' _ _ (hDone h0)
  · simp [execOp, hop, hit, hrun, Result.andThen]
    exact hK' _ _ (hMore x w' h1 h2 h3 h4 h5 h6 h7)
end
end Go.Proofs.YtkjajlolfcioiaaGreatDoor.Rng

/- Maps with keys of whatever kind that the kit reads (structs too): look-ups, entries, lengths, ranges. Laws over any program. -/
namespace Go.Proofs.YtkjajlolfcioiaaGreatDoor.Mk
open Go Go.RowKit Go.MapKept Go.Maps Go.Proofs.YtkjajlolfcioiaaGreatDoor.Own Go.Proofs.YtkjajlolfcioiaaGreatDoor.Mp Go.Proofs.YtkjajlolfcioiaaGreatDoor.Rng

/-- block b is a map, keyed by the type k, that holds just what f says. -/
def MapK (P : Program) (k : TypeId) (w : World) (b : Nat) (f : Value → Option Value) : Prop :=
  ∃ es clock, w.heap[b]? = some (.map es clock) ∧ Stamped es clock ∧ (∀ x ∈ es.toList, ∃ l, keyOf P k x.key = some l) ∧ (∀ x ∈ es.toList, f x.key = some x.val) ∧ ∀ y v, f y = some v → ∃ x ∈ es.toList, x.key = y
/-- .. of which an entry waits for its value. -/
def EntK (P : Program) (k : TypeId) (w : World) (b : Nat) (f : Value → Option Value) (key : Value) (born : Nat) (v0 : Value) : Prop :=
  ∃ es clock, w.heap[b]? = some (.map es clock) ∧ Stamped es clock ∧ (∀ x ∈ es.toList, ∃ l, keyOf P k x.key = some l) ∧ (∃ e ∈ es.toList, e.key = key ∧ e.born = born ∧ e.val = v0) ∧ (∀ x ∈ es.toList, x.key ≠ key → f x.key = some x.val) ∧ (∀ y v, y ≠ key → f y = some v → ∃ x ∈ es.toList, x.key = y)

section
variable {P : Program} {k e t : TypeId} {w : World} {b : Nat} {f : Value → Option Value}
theorem MapK.lt (h : MapK P k w b f) : b < w.heap.size := by
  obtain ⟨es, clock, hb, _⟩ := h
  exact (Array.getElem?_eq_some_iff.1 hb).1
theorem MapK.block {w' : World} (h : MapK P k w b f) (e : w'.heap[b]? = w.heap[b]?) : MapK P k w' b f := by
  obtain ⟨es, clock, hb, r⟩ := h
  exact ⟨es, clock, e.trans hb, r⟩
theorem EntK.block {w' : World} {key v0 : Value} {born : Nat} (h : EntK P k w b f key born v0) (e : w'.heap[b]? = w.heap[b]?) : EntK P k w' b f key born v0 := by
  obtain ⟨es, clock, hb, r⟩ := h
  exact ⟨es, clock, e.trans hb, r⟩
theorem EntK.lt {key v0 : Value} {born : Nat} (h : EntK P k w b f key born v0) : b < w.heap.size := by
  obtain ⟨es, clock, hb, _⟩ := h
  exact (Array.getElem?_eq_some_iff.1 hb).1
theorem MapK.made (P : Program) (k : TypeId) (w : World) : MapK P k (w.alloc (.map #[] 0)) w.heap.size (fun _ => none) :=
  ⟨#[], 0, heap_new w _, stamped_empty 0, by simp, by simp, by simp⟩
theorem MapK.find (h : MapK P k w b f) (K : Keyed P k) {key : Value} {l : Lit} (hk : keyOf P k key = some l) :
    ∃ es clock, w.heap[b]? = some (.map es clock) ∧ ((Instr.findKey k key es.toList).run P w = .ok none w ∧ f key = none ∧ (∀ x ∈ es.toList, x.key ≠ key) ∨ ∃ j e0, (Instr.findKey k key es.toList).run P w = .ok (some (j, e0.val)) w ∧ es[j]? = some e0 ∧ e0.key = key ∧ f key = some e0.val) := by
  obtain ⟨es, clock, hb, hs, hks, h1, h2⟩ := h
  refine ⟨es, clock, hb, ?_⟩
  rcases K.find w hk es.toList hks with ⟨q1, q2⟩ | ⟨j, e0, q1, q2, q3⟩
  · refine .inl ⟨q1, ?_, q2⟩
    rcases hf : f key with _ | v
    · rfl
    · obtain ⟨x, hx, hxk⟩ := h2 key v hf
      exact absurd hxk (q2 x hx)
  · refine .inr ⟨j, e0, q1, by simpa using q2, q3, ?_⟩
    rw [← q3]
    exact h1 e0 (List.mem_of_getElem? q2)
theorem MapK.lookup (h : MapK P k w b f) (K : Keyed P k) (ht : P.underlying t = some (.map k e)) {z : Value} (hz : (zeroValue e).run P w = .ok z w) {key : Value} {l : Lit} (hk : keyOf P k key = some l) (c : Bool) :
    (Instr.lookup t (.map (some b)) key c).run P w = .ok (if c then .tuple #[(f key).getD z, .bool (f key).isSome] else (f key).getD z) w := by
  obtain ⟨es, clock, hb, hq⟩ := h.find K hk
  rcases hq with ⟨q1, q2, _⟩ | ⟨j, e0, q1, q2, q3, q4⟩
  · rw [q2]
    cases c <;> simp [Instr.lookup, run_underlying ht, MapKept.run_getObj_map hb, K.check w _ hk, q1, hz, Result.andThen]
  · rw [q4]
    cases c <;> simp [Instr.lookup, run_underlying ht, MapKept.run_getObj_map hb, K.check w _ hk, q1, Result.andThen]
/-- an entry that waits is found. -/
theorem EntK.lookup {key v0 : Value} {born : Nat} (h : EntK P k w b f key born v0) (K : Keyed P k) (ht : P.underlying t = some (.map k e)) {l : Lit} (hk : keyOf P k key = some l) :
    (Instr.lookup t (.map (some b)) key false).run P w = .ok v0 w := by
  obtain ⟨es, clock, hb, hs, hks, ⟨e0, he0, hk0, hb0, hv0⟩, _⟩ := h
  obtain ⟨s1, s2, s3⟩ := (stamped_iff es clock).1 hs
  rcases K.find w hk es.toList hks with ⟨q1, q2⟩ | ⟨j, e1, q1, q2, q3⟩
  · exact absurd hk0 (q2 e0 he0)
  · have he : e1 = e0 := entry_eq_of_key s3 (List.mem_of_getElem? q2) he0 (q3.trans hk0.symm)
    simp [Instr.lookup, run_underlying ht, MapKept.run_getObj_map hb, K.check w _ hk, q1, Result.andThen, he, hv0]
theorem MapK.len (h : MapK P k w b f) (ht : P.underlying t = some (.map k e)) {keys : List Value} (hn : keys.Nodup) (hkeys : ∀ y, y ∈ keys ↔ (f y).isSome = true) (ty : TypeId) :
    (Builtin.len_ #[t] ty #[.map (some b)]).run P w = .ok (.int .i64 keys.length) w := by
  obtain ⟨es, clock, hb, hs, hks, h1, h2⟩ := h
  have hlen : es.size = keys.length := by
    have hp : (es.toList.map (·.key)).Perm keys := by
      refine (List.perm_ext_iff_of_nodup ?_ hn).2 fun y => ?_
      · rw [List.nodup_iff_pairwise_ne, List.pairwise_map]
        exact ((stamped_iff es clock).1 hs).2.2
      · rw [hkeys, List.mem_map]
        constructor
        · rintro ⟨x, hx, rfl⟩
          rw [h1 x hx]
          rfl
        · intro hy
          obtain ⟨v, hv⟩ := Option.isSome_iff_exists.1 hy
          exact h2 y v hv
    have := hp.length_eq
    simpa using this
  simp [Builtin.len_, run_underlying ht, MapKept.run_getObj_map hb, Result.andThen, goInt, hlen]
theorem MapK.range (h : MapK P k w b f) (ht : P.underlying t = some (.map k e)) :
    ∃ w' es, (Instr.range t (.map (some b))).run P w = .ok (.pointer (some ⟨w.heap.size, 0, none⟩)) w' ∧ RngF w' b w.heap.size es #[] ∧ (∀ x ∈ es.toList, f x.key = some x.val) ∧ (∀ k v, f k = some v → ∃ x ∈ es.toList, x.key = k) ∧ w.grownBy w' none ∧ w'.heap.size = w.heap.size + 1 := by
  have hlt := h.lt
  obtain ⟨es, clock, hb, hs, hk, h1, h2⟩ := h
  exact ⟨_, es, run_range_map w t k e b es clock ht hb, ⟨clock, clock, clock, ((MapKept.heap_alloc w _).2 b hlt).trans hb, hs, (MapKept.heap_alloc w _).1, ((stamped_iff es clock).1 hs).1, Nat.le_refl _, Nat.le_refl _⟩, h1, h2, World.grownBy_alloc w _ none, by simp⟩
/-- the entry of a key is laid, or found. -/
theorem MapK.entry (h : MapK P k w b f) (K : Keyed P k) (ht : P.underlying t = some (.map k e)) {z : Value} (hz : (zeroValue e).run P w = .ok z w) {key : Value} {l : Lit} (hk : keyOf P k key = some l) :
    ∃ v born w', (Instr.mapEntry t (.map (some b)) key).run P w = .ok (.tuple #[v, .int .i64 (born : Nat)]) w' ∧ EntK P k w' b f key born v ∧ v = (f key).getD z ∧ But b w w' := by
  obtain ⟨es0, clock0, hb0, hs, hks, h1, h2⟩ := id h
  obtain ⟨es, clock, hb, hq⟩ := h.find K hk
  rw [hb0] at hb
  cases hb
  have hlt := h.lt
  have hset : ∀ o, (ChangeMaps.setBlock w b o).heap[b]? = some o := fun o => by simp [ChangeMaps.setBlock, hlt]
  rcases hq with ⟨q1, q2, q3⟩ | ⟨j, e0, q1, q2, q3, q4⟩
  · refine ⟨z, clock0, ChangeMaps.setBlock w b (.map (es0.push { key, val := z, born := clock0 }) (clock0 + 1)), ?_, ⟨_, _, hset _, stamped_push hs q3, ?_, ⟨⟨key, z, clock0⟩, by simp, rfl, rfl, rfl⟩, ?_, ?_⟩, by rw [q2]; rfl, but_setBlock _ _ _⟩
    · simp [Instr.mapEntry, run_underlying ht, MapKept.run_getObj_map hb0, K.check w _ hk, q1, hz, MapKept.run_setObj_map _ hb0, Result.andThen, ChangeMaps.setBlock, goInt]
    · intro x hx
      simp only [Array.toList_push, List.mem_append, List.mem_singleton] at hx
      rcases hx with hx | rfl
      · exact hks x hx
      · exact ⟨l, hk⟩
    · intro x hx hne
      simp only [Array.toList_push, List.mem_append, List.mem_singleton] at hx
      rcases hx with hx | rfl
      · exact h1 x hx
      · exact absurd rfl hne
    · intro y v _ hv
      obtain ⟨x, hx, hxk⟩ := h2 y v hv
      exact ⟨x, by simp [hx], hxk⟩
  · have hmod : es0.modify j (fun e' => { e' with key := key }) = es0 := by
      apply Array.ext
      · simp
      · intro i h1' h2'
        rw [Array.getElem_modify]
        split
        · rename_i hij
          subst hij
          have : es0[j]'h2' = e0 := by
            have := q2
            rw [Array.getElem?_eq_getElem h2'] at this
            exact Option.some.inj this
          rw [this, ← q3]
        · rfl
    have hge : es0[j]? = some e0 := q2
    refine ⟨e0.val, e0.born, ChangeMaps.setBlock w b (.map es0 clock0), ?_, ⟨_, _, hset _, hs, hks, ⟨e0, List.mem_of_getElem? (by simpa using q2), q3, rfl, rfl⟩, fun x hx _ => h1 x hx, fun y v _ hv => h2 y v hv⟩, by rw [q4]; rfl, but_setBlock _ _ _⟩
    simp [Instr.mapEntry, run_underlying ht, MapKept.run_getObj_map hb0, K.check w _ hk, q1, hge, q3, K.stays w hk, MapKept.run_setObj_map _ hb0, Result.andThen, ChangeMaps.setBlock, goInt, hmod]
/-- the value comes. -/
theorem EntK.store {key v0 : Value} {born : Nat} (h : EntK P k w b f key born v0) (val : Value) (g : Value → Option Value) (hg1 : g key = some val) (hg2 : ∀ x, x ≠ key → g x = f x) :
    ∃ w', (Instr.entryStore t (.map (some b)) (.int .i64 (born : Nat)) val).run P w = .ok () w' ∧ MapK P k w' b g ∧ But b w w' := by
  have hlt := h.lt
  obtain ⟨es, clock, hb, hs, hks, ⟨e0, he0, hk0, hb0, -⟩, h1, h2⟩ := h
  obtain ⟨s1, s2, s3⟩ := (stamped_iff es clock).1 hs
  have hset : ∀ o, (ChangeMaps.setBlock w b o).heap[b]? = some o := fun o => by simp [ChangeMaps.setBlock, hlt]
  obtain ⟨i, hi⟩ : ∃ i, es.findIdx? (fun e => (e.born : Int) == (born : Nat)) = some i := by
    cases hf : es.findIdx? (fun e => (e.born : Int) == (born : Nat)) with
    | some i => exact ⟨i, rfl⟩
    | none =>
      rw [Array.findIdx?_eq_none_iff] at hf
      have := hf e0 (by simpa using he0)
      rw [hb0] at this
      simp at this
  obtain ⟨hil, hib, -⟩ := Array.findIdx?_eq_some_iff_getElem.1 hi
  have heq : es[i] = e0 := by
    have hb1 : es[i].born = born := by
      simp at hib
      omega
    exact born_inj s2 (by simp) he0 (by rw [hb1, hb0])
  have hkey : ∀ e', es[i]? = some e' → ({ e' with val := val } : MapEntry).key = e'.key := fun _ _ => rfl
  have hmem : ∀ x, x ∈ (es.modify i fun e => { e with val := val }).toList → (x = { e0 with val := val }) ∨ (x ∈ es.toList ∧ x.key ≠ key) := by
    intro x hx
    obtain ⟨j, hj, hxj⟩ := List.mem_iff_getElem.1 hx
    have hj' : j < es.size := by simpa using hj
    rw [Array.getElem_toList, Array.getElem_modify] at hxj
    by_cases hij : i = j
    · subst hij
      left
      rw [if_pos rfl, heq] at hxj
      exact hxj.symm
    · right
      rw [if_neg hij] at hxj
      refine ⟨by rw [← hxj]; simp, fun hk => ?_⟩
      have hne : ∀ {p q : Nat} (hp : p < es.size) (hq : q < es.size), p < q → es[p].key ≠ es[q].key := fun hp hq hpq => by
        have := List.pairwise_iff_getElem.1 s3 _ _ (by simpa using hp) (by simpa using hq) hpq
        simpa using this
      rcases Nat.lt_or_gt_of_ne hij with hl | hl
      · exact hne hil hj' hl (by rw [heq, hk0, hxj, hk])
      · exact hne hj' hil hl (by rw [heq, hk0, hxj, hk])
  refine ⟨ChangeMaps.setBlock w b (.map (es.modify i fun e => { e with val := val }) clock), ?_, ⟨_, _, hset _, stamped_modify hs _ _ (fun _ _ => rfl) (fun e' _ he' => hkey e' he'), ?_, ?_, ?_⟩, but_setBlock _ _ _⟩
  · simp [Instr.entryStore, MapKept.run_getObj_map hb, hi, MapKept.run_setObj_map _ hb, Result.andThen, ChangeMaps.setBlock, asInt, asIntOf]
  · intro x hx
    rcases hmem x hx with rfl | hx
    · exact hks e0 he0
    · exact hks x hx.1
  · intro x hx
    rcases hmem x hx with rfl | hx
    · show g e0.key = some val
      rw [hk0]
      exact hg1
    · rw [hg2 _ hx.2]
      exact h1 x hx.1 hx.2
  · intro y v hy
    by_cases e : y = key
    · refine ⟨{ e0 with val := val }, List.mem_iff_getElem.2 ⟨i, by simpa using hil, ?_⟩, hk0.trans e.symm⟩
      rw [Array.getElem_toList, Array.getElem_modify, if_pos rfl, heq]
    · rw [hg2 _ e] at hy
      obtain ⟨x, hx, hxk⟩ := h2 y v e hy
      obtain ⟨j, hj, hxj⟩ := List.mem_iff_getElem.1 hx
      have hj' : j < es.size := by simpa using hj
      have hij : i ≠ j := fun hij => by
        subst hij
        rw [Array.getElem_toList, heq] at hxj
        exact e (by rw [← hxk, ← hxj, hk0])
      refine ⟨x, List.mem_iff_getElem.2 ⟨j, by simpa using hj', ?_⟩, hxk⟩
      rw [Array.getElem_toList, Array.getElem_modify, if_neg hij]
      simpa using hxj
end
section
variable {P : Program} {k e t : TypeId} {w : World} {b : Nat} {f : Value → Option Value} {ops : Array Oper} {o : Oper} {a : Act} {K' : Act → World → Prop} {Q : Exit → Act → World → Prop} {E : Prop}
theorem step_wp (hgd : o.guard = none) (h : o.wp P a w K' Q) : if Region.wanted o (yielded ops a.tmps) = true then Oper.wp P o a w K' Q else E := by
  have hw : Region.wanted o (yielded ops a.tmps) = true := by simp [Region.wanted, hgd]
  rw [if_pos hw]
  exact h
theorem wp_lookK (h : MapK P k w b f) (K : Keyed P k) (ht : P.underlying t = some (.map k e)) {z : Value} (hz : (zeroValue e).run P w = .ok z w) (m x : Operand) (hop : o.op = Op.lookup t m x false) (hm : a.eval m = .map (some b)) {key : Value} {l : Lit} (hx : a.eval x = key) (hk : keyOf P k key = some l)
    (hK : K' (a.put o.dst ((f key).getD z)) w) : o.wp P a w K' Q := by
  have hr := h.lookup K ht hz hk false
  unfold Oper.wp
  simp [execOp, hop, hm, hx, hr, Result.andThen]
  exact hK
theorem wp_lookE {key v0 : Value} {born : Nat} (h : EntK P k w b f key born v0) (K : Keyed P k) (ht : P.underlying t = some (.map k e)) (m x : Operand) (hop : o.op = Op.lookup t m x false) (hm : a.eval m = .map (some b)) {l : Lit} (hx : a.eval x = key) (hk : keyOf P k key = some l)
    (hK : K' (a.put o.dst v0) w) : o.wp P a w K' Q := by
  have hr := h.lookup K ht hk
  unfold Oper.wp
  simp [execOp, hop, hm, hx, hr, Result.andThen]
  exact hK
theorem wp_entryK (h : MapK P k w b f) (K : Keyed P k) (ht : P.underlying t = some (.map k e)) {z : Value} (hz : (zeroValue e).run P w = .ok z w) (m x : Operand) (hop : o.op = Op.mapEntry t m x) (hm : a.eval m = .map (some b)) {key : Value} {l : Lit} (hx : a.eval x = key) (hk : keyOf P k key = some l)
    (hK : ∀ born w', EntK P k w' b f key born ((f key).getD z) → But b w w' → K' (a.put o.dst (.tuple #[(f key).getD z, .int .i64 (born : Nat)])) w') : o.wp P a w K' Q := by
  obtain ⟨v, born, w', hr, h1, rfl, h3⟩ := h.entry K ht hz hk
  unfold Oper.wp
  simp [execOp, hop, hm, hx, hr, Result.andThen]
  exact hK born w' h1 h3
theorem wp_storeE {key v0 : Value} {born : Nat} (h : EntK P k w b f key born v0) (m s x : Operand) (hop : o.op = Op.entryStore t m s x) (hm : a.eval m = .map (some b)) (hs : a.eval s = .int .i64 (born : Nat)) {val : Value} (hx : a.eval x = val) (g : Value → Option Value) (hg1 : g key = some val) (hg2 : ∀ x, x ≠ key → g x = f x)
    (hK : ∀ w', MapK P k w' b g → But b w w' → K' (a.put o.dst undef) w') : o.wp P a w K' Q := by
  obtain ⟨w', hr, h1, h2⟩ := h.store (t := t) val g hg1 hg2
  unfold Oper.wp
  simp [execOp, hop, hm, hs, hx, hr, Result.andThen]
  exact hK w' h1 h2
end
section
variable {F : Fence} {n : Nat} {P : Program} (w : World) {ops : Array Oper} {rest : List Oper} {o : Oper} {a : Act} {Q : Exit → Act → World → Prop}
theorem listIn_rangeK (hg : o.guard = none) (m : Operand) (t : TypeId) (hop : o.op = Op.range t m) {k e : TypeId} {b : Nat} {f : Value → Option Value} (h : MapK P k w b f) (ht : P.underlying t = some (.map k e)) (hm : a.eval m = .map (some b))
    (hK : ∀ w' es, RngF w' b w.heap.size es #[] → (∀ x ∈ es.toList, f x.key = some x.val) → (∀ k v, f k = some v → ∃ x ∈ es.toList, x.key = k) → w.grownBy w' none → w'.heap.size = w.heap.size + 1 → wpListIn F n P ops Q rest (a.put o.dst (.pointer (some ⟨w.heap.size, 0, none⟩))) w') :
    wpListIn F n P ops Q (o :: rest) a w := by
  refine wpListIn_plain hg fun K' hK' => ?_
  obtain ⟨w', es, hrun, r1, r3, r4, r5, r6⟩ := h.range ht
  unfold Oper.wpIn
  refine ⟨by simp [Oper.about, hop], ?_⟩
  rw [Oper.semAt_plain F _ _ (by rw [hop]; intro c hc'; cases hc')]
  simp [execOp, hop, hm, hrun, Result.andThen]
  exact hK' _ _ (hK w' es r1 r3 r4 r5 r6)
end
end Go.Proofs.YtkjajlolfcioiaaGreatDoor.Mk
