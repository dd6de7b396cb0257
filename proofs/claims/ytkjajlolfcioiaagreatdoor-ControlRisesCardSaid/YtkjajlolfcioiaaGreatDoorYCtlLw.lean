/- what ControlSpreads uses: which attempt was looked at, how often each worker is taken. -/
import Derived.Test.YtkjajlolfcioiaaGreatDoorYCtlLq
import Derived.Test.YtkjajlolfcioiaaGreatDoorYGraphPlain
import Derived.Test.YtkjajlolfcioiaaGreatDoorYCtlLb
namespace Go.Proofs.YtkjajlolfcioiaaGreatDoor.Control
open Go Go.RowKit Go.MapKept Go.Maps Go.Proofs Go.Proofs.YtkjajlolfcioiaaGreatDoor Go.Proofs.YtkjajlolfcioiaaGreatDoor.Expr Go.Proofs.YtkjajlolfcioiaaGreatDoor.Own Go.Proofs.YtkjajlolfcioiaaGreatDoor.Tail Go.Proofs.YtkjajlolfcioiaaGreatDoor.Mp Go.Proofs.YtkjajlolfcioiaaGreatDoor.Ints Go.Proofs.YtkjajlolfcioiaaGreatDoor.Plan Go.Proofs.YtkjajlolfcioiaaGreatDoor.Check Go.Proofs.YtkjajlolfcioiaaGreatDoor.Graph Go.Proofs.YtkjajlolfcioiaaGreatDoor.Ctl Go.Proofs.YtkjajlolfcioiaaGreatDoor.Rw
theorem aw_liveO {w X : World} {cb : Nat} {c : Ct} (h : Aw w X cb c) {n : Int} (hok : CtOk n c) : Calls Tryz.prog 35 #[.pointer (some ⟨cb, 0, none⟩)] X (LivePost (liveL c.lives) X) := by
  obtain ⟨U, ⟨tv, fv, lm, jv, fl, xs, hi⟩, h2, h3⟩ := h
  exact live_calls hi hok.out
/-- a row of numbers in a block of its own. -/
def NumsAt (X : World) (sb : Nat) (T : TypeId) (l : List Int) : Prop := X.heap[sb]? = some (.cells (l.map (Value.int .i64)).toArray T)
theorem NumsAt.cell {X : World} {sb : Nat} {T : TypeId} {l : List Int} (h : NumsAt X sb T l) {i : Nat} {x : Int} (hx : l[i]? = some x) : X.cell? ⟨sb, i, none⟩ = some (.int .i64 x) := by
  rw [cell_of_row _ _ _ _ _ _ h]
  simp [hx]
theorem NumsAt.frozen {X : World} {sb : Nat} {T : TypeId} {l : List Int} (h : NumsAt X sb T l) (i : Nat) : X.frozen? ⟨sb, i, none⟩ = false := by
  unfold NumsAt at h
  simp [World.frozen?, h]
theorem NumsAt.lt {X : World} {sb : Nat} {T : TypeId} {l : List Int} (h : NumsAt X sb T l) : sb < X.heap.size := (Array.getElem?_eq_some_iff.1 h).1
theorem NumsAt.block {X Y : World} {sb : Nat} {T : TypeId} {l : List Int} (h : NumsAt X sb T l) (e : Y.heap[sb]? = X.heap[sb]?) : NumsAt Y sb T l := e.trans h
theorem NumsAt.below {X Y : World} {sb : Nat} {T : TypeId} {l : List Int} (h : NumsAt X sb T l) (k : Below X.heap.size X Y) : NumsAt Y sb T l := h.block (k.block _ h.lt)
theorem NumsAt.set {X : World} {sb : Nat} {T : TypeId} {l : List Int} (h : NumsAt X sb T l) (p : Nat) (x : Int) : NumsAt (X.setCell ⟨sb, p, none⟩ (.int .i64 x)) sb T (l.set p x) := by
  have := set_cell_heap (i := p) (.int .i64 x) h
  unfold NumsAt
  rw [this, List.map_set]
  simp
/-! ### which attempt was looked at -/
structure WasMix (c R : Ct) (k : Nat) (l : List Int) : Prop where
  len : l.length = R.jobs.length
  done : ∀ (q : Nat) (x : Int) (j : Jb), q < k → l[q]? = some x → R.jobs[q]? = some j → x = j.att ∨ j.places = []
  todo : ∀ (q : Nat) (x : Int) (a : Jb), k ≤ q → l[q]? = some x → c.jobs[q]? = some a → x = a.att ∨ a.places = []
def WasOk (c : Ct) (l : List Int) : Prop := l.length = c.jobs.length ∧ ∀ (q : Nat) (x : Int) (a : Jb), l[q]? = some x → c.jobs[q]? = some a → x = a.att ∨ a.places = []
theorem WasOk.mix {c R : Ct} {l : List Int} (h : WasOk c l) (e : R.jobs.length = c.jobs.length) : WasMix c R 0 l := ⟨h.1.trans e.symm, fun q _ _ hq => absurd hq (Nat.not_lt_zero q), fun q x a _ => h.2 q x a⟩
theorem WasMix.end {c R : Ct} {k : Nat} {l : List Int} (h : WasMix c R k l) (e : R.jobs.length ≤ k) : WasOk R l := ⟨h.len, fun q x j hx hj => h.done q x j (by have := (List.getElem?_eq_some_iff.1 hj).1; omega) hx hj⟩
theorem WasMix.keep {c R : Ct} {k : Nat} {l : List Int} (h : WasMix c R k l) {x : Int} {j : Jb} (hx : l[k]? = some x) (hj : R.jobs[k]? = some j) (e : x = j.att ∨ j.places = []) : WasMix c R (k + 1) l := by
  refine ⟨h.len, fun q y j' hq hy hj' => ?_, fun q y a hq hy ha => h.todo q y a (by omega) hy ha⟩
  rcases Nat.lt_or_ge q k with hl | hl
  · exact h.done q y j' hl hy hj'
  · obtain rfl : q = k := by omega
    rw [hx] at hy
    rw [hj] at hj'
    cases hy
    cases hj'
    exact e
theorem WasMix.set {c R : Ct} {k : Nat} {l : List Int} (h : WasMix c R k l) {j : Jb} (hj : R.jobs[k]? = some j) : WasMix c R (k + 1) (l.set k j.att) := by
  refine ⟨by rw [List.length_set]; exact h.len, fun q y j' hq hy hj' => ?_, fun q y a hq hy ha => ?_⟩
  · rcases Nat.lt_or_ge q k with hl | hl
    · rw [List.getElem?_set_ne (by omega)] at hy
      exact h.done q y j' hl hy hj'
    · obtain rfl : q = k := by omega
      rw [hj] at hj'
      cases hj'
      have hlt : q < l.length := by have := (List.getElem?_eq_some_iff.1 hy).1; simpa using this
      rw [List.getElem?_set_self hlt] at hy
      cases hy
      exact .inl rfl
  · rw [List.getElem?_set_ne (by omega)] at hy
    exact h.todo q y a (by omega) hy ha
/-- a new attempt that runs. -/
theorem WasMix.begun {n : Int} {c : Ct} {cmd : Cmd} {k : Nat} {l : List Int} (h : WasMix c (doC c cmd).1 k l) (hok : CtOk n c) {x : Int} {j : Jb} (hx : l[k]? = some x) (hj : (doC c cmd).1.jobs[k]? = some j) (h1 : ¬ j.att = x) (h2 : j.places ≠ []) :
    0 ≤ j.att ∧ j.places = placesOf (liveL (doC c cmd).1.lives) j.att (j.rd + j.kp) := by
  have hd := doC_ok cmd hok
  obtain ⟨a, ha⟩ : ∃ a, c.jobs[k]? = some a := ⟨_, List.getElem?_eq_getElem (by have := (List.getElem?_eq_some_iff.1 hj).1; rw [hd.len] at this; exact this)⟩
  obtain ⟨j', hj', hs, -⟩ := hd.step k a ha
  rw [hj] at hj'
  cases hj'
  refine ⟨hs.ok.att.1, ?_⟩
  rcases hs.places with ⟨e1, e2⟩ | ⟨-, e2⟩
  · rcases h.todo k x a (Nat.le_refl _) hx ha with e | e
    · exact absurd (e2.trans e.symm) h1
    · exact absurd (e1.trans e) h2
  · exact e2
/-! ### how often each worker is taken -/
def cnt7 (ps : List Int) : List Int := (List.range 7).map fun u : Nat => ((ps.count (u : Int) : Nat) : Int)
theorem cnt7_at (ps : List Int) {p : Int} (h0 : 0 ≤ p) (h6 : p ≤ 6) : (cnt7 ps)[p.toNat]? = some ((ps.count p : Nat) : Int) := by
  unfold cnt7
  rw [List.getElem?_map, List.getElem?_range (by omega)]
  simp only [Option.map_some, Option.some.injEq]
  rw [show ((p.toNat : Nat) : Int) = p by omega]
theorem cnt7_step (ps : List Int) {p : Int} (h0 : 0 ≤ p) (h6 : p ≤ 6) : (cnt7 ps).set p.toNat (((ps.count p : Nat) : Int) + 1) = cnt7 (ps ++ [p]) := by
  refine List.ext_getElem (by simp [cnt7]) fun i h1 h2 => ?_
  simp only [cnt7, List.getElem_set, List.getElem_map, List.getElem_range]
  rw [List.count_append]
  split
  · rename_i e
    subst e
    rw [show ((p.toNat : Nat) : Int) = p by omega]
    simp
  · rename_i e
    have : ¬ p = (i : Int) := fun h => e (by omega)
    rw [List.count_singleton]
    simp [this]
theorem cnt7_nil : cnt7 [] = [0, 0, 0, 0, 0, 0, 0] := by decide
/-- the least and the most, of the first m. -/
structure MinMax (L : List Int) (f : Int → Nat) (m : Nat) (lo hi : Int) : Prop where
  all : ∀ u ∈ L.take m, lo ≤ (f u : Int) ∧ (f u : Int) ≤ hi
  lo : lo = 99 ∨ ∃ u ∈ L, lo = (f u : Int)
  hi : hi = 0 ∨ ∃ u ∈ L, hi = (f u : Int)
theorem MinMax.start (L : List Int) (f : Int → Nat) : MinMax L f 0 99 0 := ⟨by simp, .inl rfl, .inl rfl⟩
theorem MinMax.step {L : List Int} {f : Int → Nat} {m : Nat} {lo hi : Int} (h : MinMax L f m lo hi) {u : Int} (hu : L[m]? = some u) : MinMax L f (m + 1) (min lo (f u)) (max hi (f u)) := by
  have hm := List.mem_of_getElem? hu
  refine ⟨fun v hv => ?_, ?_, ?_⟩
  · rw [List.take_add_one, hu] at hv
    rcases List.mem_append.1 hv with hv | hv
    · have := h.all v hv
      omega
    · simp only [Option.toList_some, List.mem_singleton] at hv
      subst hv
      omega
  · rcases Int.le_total lo (f u) with e | e
    · rw [Int.min_eq_left e]
      exact h.lo
    · rw [Int.min_eq_right e]
      exact .inr ⟨u, hm, rfl⟩
  · rcases Int.le_total hi (f u) with e | e
    · rw [Int.max_eq_right e]
      exact .inr ⟨u, hm, rfl⟩
    · rw [Int.max_eq_left e]
      exact h.hi
theorem MinMax.even {L : List Int} {f : Int → Nat} {lo hi : Int} (h : MinMax L f L.length lo hi) (hL : L ≠ []) (hf : ∀ u ∈ L, f u ≤ 16) (hs : ∀ u ∈ L, ∀ v ∈ L, f u ≤ f v + 1) : hi - lo ≤ 1 ∧ 0 ≤ lo ∧ lo ≤ 99 ∧ 0 ≤ hi ∧ hi ≤ 16 := by
  obtain ⟨u0, hu0⟩ := List.exists_mem_of_ne_nil L hL
  have h0 := h.all u0 (by rw [List.take_length]; exact hu0)
  have h1 := hf u0 hu0
  rcases h.lo with e | ⟨u, hu, e⟩
  · omega
  · rcases h.hi with e' | ⟨v, hv, e'⟩
    · omega
    · have := hs v hv u hu
      have := hf v hv
      have := hf u hu
      omega
theorem live_nodup (lv : Int → Int) : (liveL lv).Nodup := List.Nodup.sublist List.filter_sublist (by decide)
end Go.Proofs.YtkjajlolfcioiaaGreatDoor.Control

/- a control beside jobs that were told: what ControlRises keeps. -/
namespace Go.Proofs.YtkjajlolfcioiaaGreatDoor.Control
open Go Go.RowKit Go.MapKept Go.Maps Go.Proofs Go.Proofs.YtkjajlolfcioiaaGreatDoor Go.Proofs.YtkjajlolfcioiaaGreatDoor.Expr Go.Proofs.YtkjajlolfcioiaaGreatDoor.Own Go.Proofs.YtkjajlolfcioiaaGreatDoor.Tail Go.Proofs.YtkjajlolfcioiaaGreatDoor.Mp Go.Proofs.YtkjajlolfcioiaaGreatDoor.Ints Go.Proofs.YtkjajlolfcioiaaGreatDoor.Plan Go.Proofs.YtkjajlolfcioiaaGreatDoor.Check Go.Proofs.YtkjajlolfcioiaaGreatDoor.Graph Go.Proofs.YtkjajlolfcioiaaGreatDoor.Ctl Go.Proofs.YtkjajlolfcioiaaGreatDoor.Rw
theorem own_off {U : Nat → Prop} {w W : World} {base E size n : Nat} {v : Value} {xs : List Value} (h : w.ownsRow base E size v n xs) (k : Kp U w W) (ho : ∀ g, v.ownBlock = some g → ¬ U g) : W.ownsRow base E size v n xs := by
  refine ⟨h.1, ?_⟩
  rcases h.2 with hn | ⟨g, cap, cur, hv, hg, hh, rest⟩
  · exact .inl hn
  · exact .inr ⟨g, cap, cur, hv, hg, (k.block g (Array.getElem?_eq_some_iff.1 hh).1 (ho g (by rw [hv]; rfl))).trans hh, rest⟩
structure WasOff (U : Nat → Prop) (v : Value) (L : List JobW) : Prop where
  row : ∀ g, v.ownBlock = some g → ¬ U g
  places : ∀ x ∈ L, ∀ g, x.pv.ownBlock = some g → ¬ U g
  acked : ∀ x ∈ L, ∀ g, x.av.ownBlock = some g → ¬ U g
def AwW (w X : World) (cb : Nat) (c : Ct) (B : Nat) (v : Value) (L : List JobW) (js : List Jb) : Prop :=
  ∃ U, CtlAt X cb c U ∧ (∀ i, U i → w.heap.size ≤ i) ∧ Below w.heap.size w X ∧ WasAt B X v L js ∧ WasOff U v L
section
variable {w X Y : World} {cb : Nat} {c : Ct} {B : Nat} {v : Value} {L : List JobW} {js : List Jb}
theorem AwW.aw (h : AwW w X cb c B v L js) : Aw w X cb c := by
  obtain ⟨U, h1, h2, h3, -⟩ := h
  exact ⟨U, h1, h2, h3⟩
theorem AwW.was (h : AwW w X cb c B v L js) : WasAt B X v L js := by
  obtain ⟨U, -, -, -, h4, -⟩ := h
  exact h4
theorem AwW.below (h : AwW w X cb c B v L js) (k : Below X.heap.size X Y) : AwW w Y cb c B v L js := by
  obtain ⟨U, h1, h2, h3, h4, h5⟩ := h
  exact ⟨U, h1.below k, h2, go h3 k, h4.below k, h5⟩
/-- jobs that were told since. -/
theorem Aw.told (h : Aw w X cb c) (k : Below X.heap.size X Y) (hB : X.heap.size ≤ B) (hw : WasAt B Y v L js) : AwW w Y cb c B v L js := by
  obtain ⟨U, h1, h2, h3⟩ := h
  have hn : ∀ g, B ≤ g → ¬ U g := fun g hg hu => by have := h1.lt g hu; omega
  exact ⟨U, h1.below k, h2, go h3 k, hw, ⟨fun g e => hn g (own_blk hw.rows g e), fun x hx g e => hn g (own_blk (hw.places x hx) g e), fun x hx g e => hn g (own_blk (hw.acked x hx) g e)⟩⟩
def AwDoneW (w : World) (cb B : Nat) (v : Value) (L : List JobW) (js : List Jb) (r : Ct × Int) (e : Ending) (X' : World) : Prop := e = .returned (.int .i64 r.2) ∧ AwW w X' cb r.1 B v L js
theorem aw_doneW (h : AwW w X cb c B v L js) {n : Int} (hok : CtOk n c) (hn : n ≤ 1000) (cmd : Cmd) (pv : Value) (hv : PartsAt w pv cmd.parts) (hl : cmd.parts.length ≤ 1000) :
    Calls Tryz.prog 34 #[.pointer (some ⟨cb, 0, none⟩), .agg (cmdCells cmd pv)] X (AwDoneW w cb B v L js (doC c cmd)) := by
  obtain ⟨U, h1, h2, h3, h4, h5⟩ := h
  obtain ⟨tv, fv, lm, jv, fl, xs, hi⟩ := h1
  refine (do_calls hi hok hn cmd pv (fun Y hY => SliceAt.below hv (h3.trans (hY.below (B := w.heap.size) h3.size h2))) hl).mono ?_
  rintro e X' ⟨e1, e2, e3⟩
  have hm : ∀ g, g < X.heap.size → ¬ U g → ¬ more U X X' g := fun g hg hu hm => by
    rcases hm with hm | hm
    · exact hu hm
    · omega
  refine ⟨e1, more U X X', e3, ?_, h3.trans (e2.below (B := w.heap.size) h3.size h2), ⟨own_off h4.rows e2 h5.row, h4.js, fun x hx => own_off (h4.places x hx) e2 (h5.places x hx), fun x hx => own_off (h4.acked x hx) e2 (h5.acked x hx)⟩, ⟨fun g e => hm g (h4.rows.lt g e).2 (h5.row g e), fun x hx g e => hm g ((h4.places x hx).lt g e).2 (h5.places x hx g e), fun x hx g e => hm g ((h4.acked x hx).lt g e).2 (h5.acked x hx g e)⟩⟩
  rintro i (e | e)
  · exact h2 i e
  · have := h3.size
    omega
end
theorem flat_set8 : ∀ (l : List JobW) (i : Nat) (x : JobW), i < l.length →
    ((((((((l.flatMap jobwCells).set (i * 8) (.int .i64 x.j.att)).set (i * 8 + 1) (.int .i64 x.j.rd)).set (i * 8 + 2) (.int .i64 x.j.kp)).set (i * 8 + 3) (.int .i64 x.j.done)).set (i * 8 + 4) (.int .i64 x.j.num)).set (i * 8 + 5) (.int .i64 x.j.next)).set (i * 8 + 6) x.pv).set (i * 8 + 7) x.av = (l.set i x).flatMap jobwCells
  | [], _, _, h => by simp at h
  | y :: r, 0, x, _ => by
    rw [List.flatMap_cons, List.set_cons_zero, List.flatMap_cons]
    simp [jobwCells]
  | y :: r, i + 1, x, h => by
    have ih := flat_set8 r i x (by simpa using h)
    have hy : (jobwCells y).length = 8 := rfl
    rw [List.flatMap_cons, List.set_cons_succ, List.flatMap_cons, ← ih]
    have e : ∀ q, (i + 1) * 8 + q = 8 + (i * 8 + q) := fun q => by omega
    have e0 : (i + 1) * 8 = 8 + i * 8 := by omega
    have s : ∀ (t : List Value) (q : Nat) (u : Value), (jobwCells y ++ t).set (8 + q) u = jobwCells y ++ t.set q u := fun t q u => by
      rw [List.set_append_right _ _ (by omega), hy, Nat.add_sub_cancel_left]
    rw [e0, s]
    simp only [Nat.add_assoc, s]
end Go.Proofs.YtkjajlolfcioiaaGreatDoor.Control

/- a job that was told takes another's place. -/
namespace Go.Proofs.YtkjajlolfcioiaaGreatDoor.Control
open Go Go.RowKit Go.MapKept Go.Maps Go.Proofs Go.Proofs.YtkjajlolfcioiaaGreatDoor Go.Proofs.YtkjajlolfcioiaaGreatDoor.Expr Go.Proofs.YtkjajlolfcioiaaGreatDoor.Own Go.Proofs.YtkjajlolfcioiaaGreatDoor.Tail Go.Proofs.YtkjajlolfcioiaaGreatDoor.Mp Go.Proofs.YtkjajlolfcioiaaGreatDoor.Ints Go.Proofs.YtkjajlolfcioiaaGreatDoor.Plan Go.Proofs.YtkjajlolfcioiaaGreatDoor.Check Go.Proofs.YtkjajlolfcioiaaGreatDoor.Graph Go.Proofs.YtkjajlolfcioiaaGreatDoor.Ctl Go.Proofs.YtkjajlolfcioiaaGreatDoor.Rw
/-- one cell of a row of one's own. -/
theorem own_put1 {w : World} {base E size n g cap : Nat} {xs : List Value} (h : w.ownsRow base E size (.slice (some ⟨g, 0, none⟩) n cap) n xs) (i : Nat) (u : Value) : (w.setCell ⟨g, i, none⟩ u).ownsRow base E size (.slice (some ⟨g, 0, none⟩) n cap) n (xs.set i u) := by
  refine ⟨by rw [List.length_set]; exact h.1, ?_⟩
  rcases h.2 with ⟨e, _⟩ | ⟨g', cap', cur, e, hb, hh, hle, hmax, hsz, htake⟩
  · cases e
  · obtain ⟨rfl, rfl⟩ : g = g' ∧ cap = cap' := by simpa using e
    refine .inr ⟨g, cap, cur.setIfInBounds i u, rfl, hb, set_cell_heap u hh, hle, hmax, by simpa using hsz, ?_⟩
    rw [Array.toList_setIfInBounds, List.take_set, htake]
def set8 (X : World) (g q : Nat) (x : JobW) : World :=
  (((((((X.setCell ⟨g, q, none⟩ (.int .i64 x.j.att)).setCell ⟨g, q + 1, none⟩ (.int .i64 x.j.rd)).setCell ⟨g, q + 2, none⟩ (.int .i64 x.j.kp)).setCell ⟨g, q + 3, none⟩ (.int .i64 x.j.done)).setCell ⟨g, q + 4, none⟩ (.int .i64 x.j.num)).setCell ⟨g, q + 5, none⟩ (.int .i64 x.j.next)).setCell ⟨g, q + 6, none⟩ x.pv).setCell ⟨g, q + 7, none⟩ x.av
theorem own_set8 {X : World} {base E n g cap : Nat} {L : List JobW} (h : X.ownsRow base E 8 (.slice (some ⟨g, 0, none⟩) n cap) n (L.flatMap jobwCells)) {i : Nat} (hi : i < L.length) (x : JobW) : (set8 X g (i * 8) x).ownsRow base E 8 (.slice (some ⟨g, 0, none⟩) n cap) n ((L.set i x).flatMap jobwCells) := by
  rw [← flat_set8 L i x hi]
  exact own_put1 (own_put1 (own_put1 (own_put1 (own_put1 (own_put1 (own_put1 (own_put1 h _ _) _ _) _ _) _ _) _ _) _ _) _ _) _ _
theorem kp_set8 (X : World) (g q : Nat) (x : JobW) : Kp (fun b => b = g) X (set8 X g q x) := by
  have s : ∀ (Y : World) (q : Nat) (v : Value), Kp (fun b => b = g) Y (Y.setCell ⟨g, q, none⟩ v) := fun Y q v => Kp.set Y v rfl
  unfold set8
  exact (((((((s _ _ _).then (s _ _ _)).then (s _ _ _)).then (s _ _ _)).then (s _ _ _)).then (s _ _ _)).then (s _ _ _)).then (s _ _ _)
theorem AwW.put {w X0 X : World} {cb : Nat} {c : Ct} {B g cap : Nat} {L : List JobW} {js : List Jb} (h : AwW w X0 cb c B (.slice (some ⟨g, 0, none⟩) L.length cap) L js) (k : Below X0.heap.size X0 X) (hB : B ≤ X0.heap.size) (hwB : w.heap.size ≤ B) (hg : 5 < w.heap.size)
    {x : JobW} (hp : X.ownsRow X0.heap.size 3 1 x.pv x.j.places.length (x.j.places.map (Value.int .i64))) (ha : X.ownsRow X0.heap.size 75 2 x.av x.j.acked.length (x.j.acked.flatMap partCells)) {i : Nat} (hi : i < L.length) :
    AwW w (set8 X g (i * 8) x) cb c B (.slice (some ⟨g, 0, none⟩) L.length cap) (L.set i x) (js.set i x.j) := by
  obtain ⟨U, h1, h2, h3, h4, h5⟩ := h
  have hr := own_kept h4.rows k
  have hgB : B ≤ g := own_blk h4.rows g rfl
  have hgl : g < X0.heap.size := (h4.rows.lt g rfl).2
  have kp := kp_set8 X g (i * 8) x
  have hU : ¬ U g := h5.row g rfl
  have hbX := go h3 k
  obtain ⟨cur, hcur⟩ := own_type hr (g := g) rfl
  have hne : ∀ (E' : Nat) (g' : Nat) (cur' : Array Value), 55 ≠ E' → X.heap[g']? = some (.cells cur' E') → ¬ g' = g := by
    intro E' g' cur' hE hc e
    subst e
    rw [hcur] at hc
    simp only [Option.some.injEq, Obj.cells.injEq] at hc
    exact hE hc.2.1
  refine ⟨U, (h1.below k).kp kp (fun i e hu => hU (by cases e; exact hu)) (fun e => by have e : 5 = g := e; omega), h2, hbX.trans (kp.below (B := w.heap.size) hbX.size (fun i e => by cases e; omega)), ⟨?_, by rw [List.map_set, h4.js], fun y hy => ?_, fun y hy => ?_⟩, ⟨fun g' e => h5.row g' e, fun y hy g' e => ?_, fun y hy g' e => ?_⟩⟩
  · rw [List.length_set]
    exact own_set8 hr hi x
  · rcases List.mem_or_eq_of_mem_set hy with hy | rfl
    · exact own_kp (own_kept (h4.places y hy) k) kp (fun g' cur' hh _ => hne _ g' cur' (by decide) hh)
    · exact own_base (own_off hp kp (fun g' e e' => by have := own_blk hp g' e; have e' : g' = g := e'; omega)) hB
  · rcases List.mem_or_eq_of_mem_set hy with hy | rfl
    · exact own_kp (own_kept (h4.acked y hy) k) kp (fun g' cur' hh _ => hne _ g' cur' (by decide) hh)
    · exact own_base (own_off ha kp (fun g' e e' => by have := own_blk ha g' e; have e' : g' = g := e'; omega)) hB
  · rcases List.mem_or_eq_of_mem_set hy with hy | rfl
    · exact h5.places y hy g' e
    · intro hu
      have := h1.lt g' hu
      have := own_blk hp g' e
      omega
  · rcases List.mem_or_eq_of_mem_set hy with hy | rfl
    · exact h5.acked y hy g' e
    · intro hu
      have := h1.lt g' hu
      have := own_blk ha g' e
      omega
/-- the jobs, some of them seen anew. -/
theorem take_put {α : Type} (R C : List α) {k : Nat} {j : α} (hj : R[k]? = some j) (hl : R.length = C.length) : (R.take k ++ C.drop k).set k j = R.take (k + 1) ++ C.drop (k + 1) := by
  have hk : k < R.length := (List.getElem?_eq_some_iff.1 hj).1
  have h1 : (R.take k).length = k := by rw [List.length_take]; omega
  rw [List.set_append_right _ _ (by omega), h1, Nat.sub_self, List.take_add_one, hj]
  have : C.drop k = C[k]'(by omega) :: C.drop (k + 1) := List.drop_eq_getElem_cons (by omega)
  rw [this, List.set_cons_zero]
  simp
theorem take_get {α : Type} (R C : List α) {k : Nat} (hl : R.length = C.length) (hk : k < R.length) : (R.take k ++ C.drop k)[k]? = C[k]? := by
  have h1 : (R.take k).length = k := by rw [List.length_take]; omega
  rw [List.getElem?_append_right (by omega), h1, Nat.sub_self, List.getElem?_drop]
  simp
theorem take_length {α : Type} (R C : List α) {k : Nat} (hl : R.length = C.length) (hk : k ≤ R.length) : (R.take k ++ C.drop k).length = R.length := by
  simp
  omega
end Go.Proofs.YtkjajlolfcioiaaGreatDoor.Control
