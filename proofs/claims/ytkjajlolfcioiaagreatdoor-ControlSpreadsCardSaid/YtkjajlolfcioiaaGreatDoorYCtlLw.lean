/- what ControlSpreads uses: which attempt was looked at, how often each worker is taken. -/
import Derived.Test.YtkjajlolfcioiaaGreatDoorYCtlLq
import Derived.Test.YtkjajlolfcioiaaGreatDoorYCtlSp
namespace Go.Proofs.YtkjajlolfcioiaaGreatDoor.Control
open Go Go.RowKit Go.MapKept Go.Maps Go.Proofs Go.Proofs.YtkjajlolfcioiaaGreatDoor Go.Proofs.YtkjajlolfcioiaaGreatDoor.Expr Go.Proofs.YtkjajlolfcioiaaGreatDoor.Own Go.Proofs.YtkjajlolfcioiaaGreatDoor.Tail Go.Proofs.YtkjajlolfcioiaaGreatDoor.Mp Go.Proofs.YtkjajlolfcioiaaGreatDoor.Ints Go.Proofs.YtkjajlolfcioiaaGreatDoor.Plan Go.Proofs.YtkjajlolfcioiaaGreatDoor.Check Go.Proofs.YtkjajlolfcioiaaGreatDoor.Graph Go.Proofs.YtkjajlolfcioiaaGreatDoor.Ctl Go.Proofs.YtkjajlolfcioiaaGreatDoor.Rw
theorem aw_liveO {w X : World} {cb : Nat} {c : Ct} (h : Aw w X cb c) {n : Int} (hok : CtOk n c) : Calls Tryz.prog 35 #[.pointer (some ⟨cb, 0, none⟩)] X (LivePost (liveL c.lives) X) := by
  obtain ⟨U, ⟨tv, fv, lm, jv, fl, xs, hi⟩, h2, h3⟩ := h
  exact live_calls hi hok.out
/-- a row of numbers in a block of its own. -/
def NumsAt (X : World) (sb : Nat) (T : TypeId) (l : List Int) : Prop := X.heap[sb]? = some (.cells (l.map (Value.int .i64)).toArray T)
theorem NumsAt.cell {X : World} {sb : Nat} {T : TypeId} {l : List Int} (h : NumsAt X sb T l) {i : Nat} {x : Int} (hx : l[i]? = some x) : X.cell? ⟨sb, i, none⟩ = some (.int .i64 x) := by
  rw [cell_of_row _ _ _ _ _ _ h]
  simp [hx]
theorem NumsAt.frozen {X : World} {sb : Nat} {T : TypeId} {l : List Int} (h : NumsAt X sb T l) (i : Nat) : X.frozen? ⟨sb, i, none⟩ = false := by
  unfold NumsAt at h
  simp [World.frozen?, h]
theorem NumsAt.lt {X : World} {sb : Nat} {T : TypeId} {l : List Int} (h : NumsAt X sb T l) : sb < X.heap.size := (Array.getElem?_eq_some_iff.1 h).1
theorem NumsAt.block {X Y : World} {sb : Nat} {T : TypeId} {l : List Int} (h : NumsAt X sb T l) (e : Y.heap[sb]? = X.heap[sb]?) : NumsAt Y sb T l := e.trans h
theorem NumsAt.below {X Y : World} {sb : Nat} {T : TypeId} {l : List Int} (h : NumsAt X sb T l) (k : Below X.heap.size X Y) : NumsAt Y sb T l := h.block (k.block _ h.lt)
theorem NumsAt.set {X : World} {sb : Nat} {T : TypeId} {l : List Int} (h : NumsAt X sb T l) (p : Nat) (x : Int) : NumsAt (X.setCell ⟨sb, p, none⟩ (.int .i64 x)) sb T (l.set p x) := by
  have := set_cell_heap (i := p) (.int .i64 x) h
  unfold NumsAt
  rw [this, List.map_set]
  simp
/-! ### which attempt was looked at -/
structure WasMix (c R : Ct) (k : Nat) (l : List Int) : Prop where
  len : l.length = R.jobs.length
  done : ∀ (q : Nat) (x : Int) (j : Jb), q < k → l[q]? = some x → R.jobs[q]? = some j → x = j.att ∨ j.places = []
  todo : ∀ (q : Nat) (x : Int) (a : Jb), k ≤ q → l[q]? = some x → c.jobs[q]? = some a → x = a.att ∨ a.places = []
def WasOk (c : Ct) (l : List Int) : Prop := l.length = c.jobs.length ∧ ∀ (q : Nat) (x : Int) (a : Jb), l[q]? = some x → c.jobs[q]? = some a → x = a.att ∨ a.places = []
theorem WasOk.mix {c R : Ct} {l : List Int} (h : WasOk c l) (e : R.jobs.length = c.jobs.length) : WasMix c R 0 l := ⟨h.1.trans e.symm, fun q _ _ hq => absurd hq (Nat.not_lt_zero q), fun q x a _ => h.2 q x a⟩
theorem WasMix.end {c R : Ct} {k : Nat} {l : List Int} (h : WasMix c R k l) (e : R.jobs.length ≤ k) : WasOk R l := ⟨h.len, fun q x j hx hj => h.done q x j (by have := (List.getElem?_eq_some_iff.1 hj).1; omega) hx hj⟩
theorem WasMix.keep {c R : Ct} {k : Nat} {l : List Int} (h : WasMix c R k l) {x : Int} {j : Jb} (hx : l[k]? = some x) (hj : R.jobs[k]? = some j) (e : x = j.att ∨ j.places = []) : WasMix c R (k + 1) l := by
  refine ⟨h.len, fun q y j' hq hy hj' => ?_, fun q y a hq hy ha => h.todo q y a (by omega) hy ha⟩
  rcases Nat.lt_or_ge q k with hl | hl
  · exact h.done q y j' hl hy hj'
  · obtain rfl : q = k := by omega
    rw [hx] at hy
    rw [hj] at hj'
    cases hy
    cases hj'
    exact e
theorem WasMix.set {c R : Ct} {k : Nat} {l : List Int} (h : WasMix c R k l) {j : Jb} (hj : R.jobs[k]? = some j) : WasMix c R (k + 1) (l.set k j.att) := by
  refine ⟨by rw [List.length_set]; exact h.len, fun q y j' hq hy hj' => ?_, fun q y a hq hy ha => ?_⟩
  · rcases Nat.lt_or_ge q k with hl | hl
    · rw [List.getElem?_set_ne (by omega)] at hy
      exact h.done q y j' hl hy hj'
    · obtain rfl : q = k := by omega
      rw [hj] at hj'
      cases hj'
      have hlt : q < l.length := by have := (List.getElem?_eq_some_iff.1 hy).1; simpa using this
      rw [List.getElem?_set_self hlt] at hy
      cases hy
      exact .inl rfl
  · rw [List.getElem?_set_ne (by omega)] at hy
    exact h.todo q y a (by omega) hy ha
/-- a new attempt that runs. -/
theorem WasMix.begun {n : Int} {c : Ct} {cmd : Cmd} {k : Nat} {l : List Int} (h : WasMix c (doC c cmd).1 k l) (hok : CtOk n c) {x : Int} {j : Jb} (hx : l[k]? = some x) (hj : (doC c cmd).1.jobs[k]? = some j) (h1 : ¬ j.att = x) (h2 : j.places ≠ []) :
    0 ≤ j.att ∧ j.places = placesOf (liveL (doC c cmd).1.lives) j.att (j.rd + j.kp) := by
  have hd := doC_ok cmd hok
  obtain ⟨a, ha⟩ : ∃ a, c.jobs[k]? = some a := ⟨_, List.getElem?_eq_getElem (by have := (List.getElem?_eq_some_iff.1 hj).1; rw [hd.len] at this; exact this)⟩
  obtain ⟨j', hj', hs, -⟩ := hd.step k a ha
  rw [hj] at hj'
  cases hj'
  refine ⟨hs.ok.att.1, ?_⟩
  rcases hs.places with ⟨e1, e2⟩ | ⟨-, e2⟩
  · rcases h.todo k x a (Nat.le_refl _) hx ha with e | e
    · exact absurd (e2.trans e.symm) h1
    · exact absurd (e1.trans e) h2
  · exact e2
/-! ### how often each worker is taken -/
def cnt7 (ps : List Int) : List Int := (List.range 7).map fun u : Nat => ((ps.count (u : Int) : Nat) : Int)
theorem cnt7_at (ps : List Int) {p : Int} (h0 : 0 ≤ p) (h6 : p ≤ 6) : (cnt7 ps)[p.toNat]? = some ((ps.count p : Nat) : Int) := by
  unfold cnt7
  rw [List.getElem?_map, List.getElem?_range (by omega)]
  simp only [Option.map_some, Option.some.injEq]
  rw [show ((p.toNat : Nat) : Int) = p by omega]
theorem cnt7_step (ps : List Int) {p : Int} (h0 : 0 ≤ p) (h6 : p ≤ 6) : (cnt7 ps).set p.toNat (((ps.count p : Nat) : Int) + 1) = cnt7 (ps ++ [p]) := by
  refine List.ext_getElem (by simp [cnt7]) fun i h1 h2 => ?_
  simp only [cnt7, List.getElem_set, List.getElem_map, List.getElem_range]
  rw [List.count_append]
  split
  · rename_i e
    subst e
    rw [show ((p.toNat : Nat) : Int) = p by omega]
    simp
  · rename_i e
    have : ¬ p = (i : Int) := fun h => e (by omega)
    rw [List.count_singleton]
    simp [this]
theorem cnt7_nil : cnt7 [] = [0, 0, 0, 0, 0, 0, 0] := by decide
/-- the least and the most, of the first m. -/
structure MinMax (L : List Int) (f : Int → Nat) (m : Nat) (lo hi : Int) : Prop where
  all : ∀ u ∈ L.take m, lo ≤ (f u : Int) ∧ (f u : Int) ≤ hi
  lo : lo = 99 ∨ ∃ u ∈ L, lo = (f u : Int)
  hi : hi = 0 ∨ ∃ u ∈ L, hi = (f u : Int)
theorem MinMax.start (L : List Int) (f : Int → Nat) : MinMax L f 0 99 0 := ⟨by simp, .inl rfl, .inl rfl⟩
theorem MinMax.step {L : List Int} {f : Int → Nat} {m : Nat} {lo hi : Int} (h : MinMax L f m lo hi) {u : Int} (hu : L[m]? = some u) : MinMax L f (m + 1) (min lo (f u)) (max hi (f u)) := by
  have hm := List.mem_of_getElem? hu
  refine ⟨fun v hv => ?_, ?_, ?_⟩
  · rw [List.take_add_one, hu] at hv
    rcases List.mem_append.1 hv with hv | hv
    · have := h.all v hv
      omega
    · simp only [Option.toList_some, List.mem_singleton] at hv
      subst hv
      omega
  · rcases Int.le_total lo (f u) with e | e
    · rw [Int.min_eq_left e]
      exact h.lo
    · rw [Int.min_eq_right e]
      exact .inr ⟨u, hm, rfl⟩
  · rcases Int.le_total hi (f u) with e | e
    · rw [Int.max_eq_right e]
      exact .inr ⟨u, hm, rfl⟩
    · rw [Int.max_eq_left e]
      exact h.hi
theorem MinMax.even {L : List Int} {f : Int → Nat} {lo hi : Int} (h : MinMax L f L.length lo hi) (hL : L ≠ []) (hf : ∀ u ∈ L, f u ≤ 16) (hs : ∀ u ∈ L, ∀ v ∈ L, f u ≤ f v + 1) : hi - lo ≤ 1 ∧ 0 ≤ lo ∧ lo ≤ 99 ∧ 0 ≤ hi ∧ hi ≤ 16 := by
  obtain ⟨u0, hu0⟩ := List.exists_mem_of_ne_nil L hL
  have h0 := h.all u0 (by rw [List.take_length]; exact hu0)
  have h1 := hf u0 hu0
  rcases h.lo with e | ⟨u, hu, e⟩
  · omega
  · rcases h.hi with e' | ⟨v, hv, e'⟩
    · omega
    · have := hs v hv u hu
      have := hf v hv
      have := hf u hu
      omega
theorem live_nodup (lv : Int → Int) : (liveL lv).Nodup := List.Nodup.sublist List.filter_sublist (by decide)
end Go.Proofs.YtkjajlolfcioiaaGreatDoor.Control
