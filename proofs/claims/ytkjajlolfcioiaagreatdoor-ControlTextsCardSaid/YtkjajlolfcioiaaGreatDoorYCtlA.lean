/- Layer 21 in memory: a control, its jobs, what is kept of it while other things turn. -/
import Derived.Test.YtkjajlolfcioiaaGreatDoorYRng
import Derived.Test.YtkjajlolfcioiaaGreatDoorYGraphPlain
import Derived.Test.YtkjajlolfcioiaaGreatDoorYGraphC
import Derived.Test.YtkjajlolfcioiaaGreatDoorYKeysI
import Derived.Test.YtkjajlolfcioiaaGreatDoorYShelfI
import Derived.WalkSpells
namespace Go.Proofs.YtkjajlolfcioiaaGreatDoor.Control
open Go Go.RowKit Go.MapKept Go.Maps Go.Proofs.YtkjajlolfcioiaaGreatDoor Go.Proofs.YtkjajlolfcioiaaGreatDoor.Own Go.Proofs.YtkjajlolfcioiaaGreatDoor.Mp Go.Proofs.YtkjajlolfcioiaaGreatDoor.Mk Go.Proofs.YtkjajlolfcioiaaGreatDoor.Plan Go.Proofs.YtkjajlolfcioiaaGreatDoor.Expr Go.Proofs.YtkjajlolfcioiaaGreatDoor.Check Go.Proofs.YtkjajlolfcioiaaGreatDoor.Graph Go.Proofs.YtkjajlolfcioiaaGreatDoor.Ctl

/-! ### frames -/
/-- only blocks of U that lay have turned. -/
structure Kp (U : Nat → Prop) (w w' : World) : Prop where
  os : w'.os = w.os
  tape : w'.tape = w.tape
  output : w'.output = w.output
  size : w.heap.size ≤ w'.heap.size
  block : ∀ k, k < w.heap.size → ¬ U k → w'.heap[k]? = w.heap[k]?
theorem Kp.refl (U : Nat → Prop) (w : World) : Kp U w w := ⟨rfl, rfl, rfl, Nat.le_refl _, fun _ _ _ => rfl⟩
theorem Kp.of_below {U : Nat → Prop} {w w' : World} (h : Below w.heap.size w w') : Kp U w w' := ⟨h.os, h.tape, h.output, h.size, fun k hk _ => h.block k hk⟩
theorem Kp.of_but {U : Nat → Prop} {w w' : World} {b : Nat} (h : But b w w') (hb : U b) : Kp U w w' := ⟨h.os, h.tape, h.output, h.size, fun k hk hu => h.block k hk (fun e => hu (by cases e; exact hb))⟩
theorem Kp.trans {U V : Nat → Prop} {a b c : World} (h : Kp U a b) (k : Kp V b c) (hUV : ∀ i, i < a.heap.size → V i → U i) : Kp U a c :=
  ⟨k.os.trans h.os, k.tape.trans h.tape, k.output.trans h.output, Nat.le_trans h.size k.size, fun i hi hu => (k.block i (Nat.lt_of_lt_of_le hi h.size) (fun e => hu (hUV i hi e))).trans (h.block i hi hu)⟩
theorem Kp.mono {U V : Nat → Prop} {a b : World} (h : Kp U a b) (hUV : ∀ i, U i → V i) : Kp V a b := ⟨h.os, h.tape, h.output, h.size, fun i hi hv => h.block i hi (fun e => hv (hUV i e))⟩
theorem Kp.below {U : Nat → Prop} {B : Nat} {w w' : World} (h : Kp U w w') (hB : B ≤ w.heap.size) (hU : ∀ i, U i → B ≤ i) : Below B w w' :=
  ⟨h.os, h.tape, h.output, h.size, fun i hi => h.block i (by omega) (fun e => by have := hU i e; omega)⟩
theorem Kp.cell {U : Nat → Prop} {w w' : World} (h : Kp U w w') {p : Addr} {v : Value} (hp : ¬ U p.block) (hc : w.cell? p = some v) : w'.cell? p = some v :=
  (World.cell?_of_block (h.block _ (lt_of_cell hc) hp)).trans hc
theorem Kp.frozen {U : Nat → Prop} {w w' : World} (h : Kp U w w') {p : Addr} {v : Value} {f : Bool} (hp : ¬ U p.block) (hc : w.cell? p = some v) (hf : w.frozen? p = f) : w'.frozen? p = f :=
  (World.frozen?_of_block (h.block _ (lt_of_cell hc) hp)).trans hf
/-- what is made between two worlds. -/
def more (U : Nat → Prop) (w w' : World) : Nat → Prop := fun i => U i ∨ (w.heap.size ≤ i ∧ i < w'.heap.size)

/-! ### jobs -/
def jobCells (j : Jb) (pv : Value) (mo : Option Nat) : Array Value := #[.int .i64 j.att, .int .i64 j.rd, .int .i64 j.kp, .int .i64 j.done, .int .i64 j.num, .int .i64 j.next, pv, .map mo]
def JobBox (w : World) (b : Nat) (j : Jb) (pv : Value) (mo : Option Nat) : Prop := w.heap[b]? = some (.cells (jobCells j pv mo) 122)
theorem JobBox.lt {w : World} {b : Nat} {j : Jb} {pv : Value} {mo : Option Nat} (h : JobBox w b j pv mo) : b < w.heap.size := (Array.getElem?_eq_some_iff.1 h).1
theorem JobBox.cell {w : World} {b : Nat} {j : Jb} {pv : Value} {mo : Option Nat} (h : JobBox w b j pv mo) {i : Nat} {v : Value} (hv : (jobCells j pv mo)[i]? = some v) : w.cell? ⟨b, i, none⟩ = some v := by
  rw [cell_of_row _ _ _ _ _ _ h, hv]
theorem JobBox.frozen {w : World} {b : Nat} {j : Jb} {pv : Value} {mo : Option Nat} (h : JobBox w b j pv mo) (i : Nat) : w.frozen? ⟨b, i, none⟩ = false := by
  unfold JobBox at h
  simp [World.frozen?, h]
theorem JobBox.block {w w' : World} {b : Nat} {j : Jb} {pv : Value} {mo : Option Nat} (h : JobBox w b j pv mo) (e : w'.heap[b]? = w.heap[b]?) : JobBox w' b j pv mo := e.trans h
theorem set_cell_heap {w : World} {b i : Nat} {cs : Array Value} {T : TypeId} (v : Value) (h : w.heap[b]? = some (.cells cs T)) : (w.setCell ⟨b, i, none⟩ v).heap[b]? = some (.cells (cs.setIfInBounds i v) T) := by
  have hlt := (Array.getElem?_eq_some_iff.1 h).1
  have hx : w.heap[b]'hlt = .cells cs T := by
    rw [Array.getElem?_eq_getElem hlt] at h
    exact Option.some.inj h
  simp [World.setCell, hlt]
  rw [Array.getElem_modify]
  simp [hx]
def livF (lv : Int → Int) : Value → Option Value
  | .int .i64 k => if 0 < lv k then some (.int .i64 (lv k)) else none
  | _ => none
abbrev partV (p : Int × Int) : Value := .agg #[.int .i64 p.1, .int .i64 p.2]
/-- the map m holds just the parts L. -/
def PartMap (w : World) (m : Nat) (L : List (Int × Int)) : Prop :=
  ∃ f, MapK Tryz.prog 75 w m f ∧ (∀ p ∈ L, ∃ n : Int, f (partV p) = some (.int .i64 n)) ∧ ∀ v, (f v).isSome = true → ∃ p ∈ L, v = partV p
def AckAt (w : World) (mo : Option Nat) (L : List (Int × Int)) : Prop := match mo with | none => L = [] | some m => PartMap w m L
theorem PartMap.block {w w' : World} {m : Nat} {L : List (Int × Int)} (h : PartMap w m L) (e : w'.heap[m]? = w.heap[m]?) : PartMap w' m L := by
  obtain ⟨f, h1, h2⟩ := h
  exact ⟨f, h1.block e, h2⟩
theorem AckAt.block {w w' : World} {mo : Option Nat} {L : List (Int × Int)} (h : AckAt w mo L) (e : ∀ m, mo = some m → w'.heap[m]? = w.heap[m]?) : AckAt w' mo L := by
  cases mo with
  | none => exact h
  | some m => exact PartMap.block h (e m rfl)
structure JV where
  j : Jb
  pv : Value
  mo : Option Nat
  b : Nat
/-- what turns. -/
def Mut (lm : Nat) (xs : List JV) (i : Nat) : Prop := i = lm ∨ ∃ x ∈ xs, i = x.b ∨ x.mo = some i
/-- what stands. -/
structure Static (cb : Nat) (tops : List Top) (tv fv : Value) (lm : Nat) (jv : Value) (fl : List FlwV) (xs : List JV) (X : World) : Prop where
  plan : PlanAt X tv fv tops fl
  ptrs : SliceAt X jv xs.length (xs.map fun x => .pointer (some ⟨x.b, 0, none⟩))
  places : ∀ x ∈ xs, IntsAt X x.pv x.j.places
  ctl : X.heap[cb]? = some (.cells #[tv, fv, .map (some lm), jv] 115)
structure CtlIs (w : World) (cb : Nat) (c : Ct) (U : Nat → Prop) (tv fv : Value) (lm : Nat) (jv : Value) (fl : List FlwV) (xs : List JV) : Prop where
  flows : fl.map (·.f) = c.flows
  small : SmallFlows fl
  jobs : xs.map (·.j) = c.jobs
  live : MapF w (.int .i64) lm (livF c.lives)
  box : ∀ x ∈ xs, JobBox w x.b x.j x.pv x.mo
  ack : ∀ x ∈ xs, AckAt w x.mo x.j.acked
  stat : ∀ X : World, (∀ i, U i → ¬ Mut lm xs i → X.heap[i]? = w.heap[i]?) → Static cb c.tops tv fv lm jv fl xs X
  inU : ∀ i, Mut lm xs i → U i
  cbU : U cb
  lt : ∀ i, U i → i < w.heap.size
  apart : xs.Pairwise fun x y => x.b ≠ y.b ∧ ∀ m, x.mo = some m → y.mo ≠ some m
  lmA : ∀ x ∈ xs, x.mo ≠ some lm
  tab : Tab w
  gU : ¬ U 5
def CtlAt (w : World) (cb : Nat) (c : Ct) (U : Nat → Prop) : Prop := ∃ tv fv lm jv fl xs, CtlIs w cb c U tv fv lm jv fl xs

section
variable {w X : World} {cb : Nat} {c : Ct} {U : Nat → Prop} {tv fv : Value} {lm : Nat} {jv : Value} {fl : List FlwV} {xs : List JV}
theorem tab_block (h : Tab w) (e : X.heap[5]? = w.heap[5]?) : Tab X := by
  unfold Tab Lib.TabIs World.var? at h ⊢
  rw [tab_name] at h ⊢
  simp only [Option.bind_some] at h ⊢
  rw [e]
  exact h
theorem tab_lt (h : Tab w) : 5 < w.heap.size := Own.lt_of_cell (Lib.TabIs.cell h tab_name 0 (by decide))
theorem CtlIs.now (h : CtlIs w cb c U tv fv lm jv fl xs) : Static cb c.tops tv fv lm jv fl xs w := h.stat w fun _ _ _ => rfl
/-- nothing of it turns. -/
theorem CtlIs.same (h : CtlIs w cb c U tv fv lm jv fl xs) (hs : w.heap.size ≤ X.heap.size) (e : ∀ i, U i → X.heap[i]? = w.heap[i]?) (hg : X.heap[5]? = w.heap[5]?) : CtlIs X cb c U tv fv lm jv fl xs :=
  { h with
    live := h.live.block (e lm (h.inU lm (.inl rfl)))
    box := fun x hx => (h.box x hx).block (e x.b (h.inU _ (.inr ⟨x, hx, .inl rfl⟩)))
    ack := fun x hx => (h.ack x hx).block fun m hm => e m (h.inU _ (.inr ⟨x, hx, .inr hm⟩))
    stat := fun Y hY => h.stat Y fun i hi hm => (hY i hi hm).trans (e i hi)
    lt := fun i hi => Nat.lt_of_lt_of_le (h.lt i hi) hs
    tab := tab_block h.tab hg }
theorem CtlIs.below (h : CtlIs w cb c U tv fv lm jv fl xs) (k : Below w.heap.size w X) : CtlIs X cb c U tv fv lm jv fl xs :=
  h.same k.size (fun i hi => k.block i (h.lt i hi)) (k.block _ (tab_lt h.tab))
theorem CtlIs.kp {V : Nat → Prop} (h : CtlIs w cb c U tv fv lm jv fl xs) (k : Kp V w X) (hV : ∀ i, V i → ¬ U i) (hg : ¬ V 5) : CtlIs X cb c U tv fv lm jv fl xs :=
  h.same k.size (fun i hi => k.block i (h.lt i hi) (fun hv => hV i hv hi)) (k.block _ (tab_lt h.tab) hg)
theorem CtlAt.below (h : CtlAt w cb c U) (k : Below w.heap.size w X) : CtlAt X cb c U := by
  obtain ⟨tv, fv, lm, jv, fl, xs, h⟩ := h
  exact ⟨tv, fv, lm, jv, fl, xs, h.below k⟩
theorem CtlAt.kp {V : Nat → Prop} (h : CtlAt w cb c U) (k : Kp V w X) (hV : ∀ i, V i → ¬ U i) (hg : ¬ V 5) : CtlAt X cb c U := by
  obtain ⟨tv, fv, lm, jv, fl, xs, h⟩ := h
  exact ⟨tv, fv, lm, jv, fl, xs, h.kp k hV hg⟩
theorem CtlAt.lt (h : CtlAt w cb c U) : ∀ i, U i → i < w.heap.size := by
  obtain ⟨tv, fv, lm, jv, fl, xs, h⟩ := h
  exact h.lt
/-- a job turns. -/
theorem CtlIs.turn (h : CtlIs w cb c U tv fv lm jv fl xs) {i : Nat} {x : JV} (hi : xs[i]? = some x) (hs : w.heap.size ≤ X.heap.size) (hk : ∀ k, k < w.heap.size → k ≠ x.b → x.mo ≠ some k → X.heap[k]? = w.heap[k]?)
    {j : Jb} {pv : Value} {mo : Option Nat} (hbox : JobBox X x.b j pv mo)
    (hpv : (pv = x.pv ∧ j.places = x.j.places) ∨ ∀ Y : World, (∀ k, w.heap.size ≤ k → k < X.heap.size → mo ≠ some k → Y.heap[k]? = X.heap[k]?) → IntsAt Y pv j.places)
    (hmo : mo = x.mo ∨ mo = none ∨ ∃ m, mo = some m ∧ w.heap.size ≤ m ∧ m < X.heap.size) (hack : AckAt X mo j.acked) :
    CtlIs X cb { c with jobs := c.jobs.set i j } (more U w X) tv fv lm jv fl (xs.set i ⟨j, pv, mo, x.b⟩) := by
  have hxm := List.mem_of_getElem? hi
  have hil := (List.getElem?_eq_some_iff.1 hi).1
  have hmem : ∀ y, y ∈ xs.set i ⟨j, pv, mo, x.b⟩ → y = ⟨j, pv, mo, x.b⟩ ∨ (∃ k, xs[k]? = some y ∧ k ≠ i) := by
    intro y hy
    obtain ⟨k, hk1, hk2⟩ := List.mem_iff_getElem.1 hy
    rw [List.getElem_set] at hk2
    split at hk2
    · exact .inl hk2.symm
    · rename_i hne
      exact .inr ⟨k, by rw [List.getElem?_eq_getElem (by simpa using hk1), hk2], fun e => hne e.symm⟩
  have hap : ∀ {k : Nat} {y : JV}, xs[k]? = some y → k ≠ i → y.b ≠ x.b ∧ (∀ m, x.mo = some m → y.mo ≠ some m) := by
    intro k y hy hne
    obtain ⟨hkl, hy'⟩ := List.getElem?_eq_some_iff.1 hy
    obtain ⟨hxl, hx'⟩ := List.getElem?_eq_some_iff.1 hi
    have hp := List.pairwise_iff_getElem.1 h.apart
    rcases Nat.lt_or_gt_of_ne hne with hl | hl
    · have := hp k i hkl hil hl
      rw [hy', hx'] at this
      exact ⟨this.1, fun m hm e => this.2 m e hm⟩
    · have := hp i k hil hkl hl
      rw [hy', hx'] at this
      exact ⟨fun e => this.1 e.symm, this.2⟩
  have hltU : ∀ y ∈ xs, y.b < w.heap.size ∧ ∀ m, y.mo = some m → m < w.heap.size := fun y hy => ⟨h.lt _ (h.inU _ (.inr ⟨y, hy, .inl rfl⟩)), fun m hm => h.lt _ (h.inU _ (.inr ⟨y, hy, .inr hm⟩))⟩
  have hbm : ∀ y ∈ xs, ∀ z ∈ xs, z.mo ≠ some y.b := fun y hy z hz e => by
    have h1 := h.box y hy
    have h2 := h.ack z hz
    rw [e] at h2
    obtain ⟨f, ⟨es, ck, hh, _⟩, _⟩ := h2
    unfold JobBox at h1
    rw [h1] at hh
    cases hh
  have hlb : ∀ y ∈ xs, y.b ≠ lm := fun y hy e => by
    have h1 := h.box y hy
    obtain ⟨es, ck, hh, _⟩ := h.live
    unfold JobBox at h1
    rw [e, hh] at h1
    cases h1
  have hlml := h.lt _ (h.inU lm (.inl rfl))
  have hother : ∀ {k : Nat} {y : JV}, xs[k]? = some y → k ≠ i → X.heap[y.b]? = w.heap[y.b]? ∧ ∀ m, y.mo = some m → X.heap[m]? = w.heap[m]? := by
    intro k y hy hne
    have hym := List.mem_of_getElem? hy
    have ha := hap hy hne
    refine ⟨hk _ (hltU y hym).1 ha.1 (hbm y hym x hxm), fun m hm => hk _ ((hltU y hym).2 m hm) (fun e => hbm x hxm y hym (by rw [hm, e])) (fun e => ha.2 m e hm)⟩
  have hmut : ∀ q, q < w.heap.size → Mut lm (xs.set i ⟨j, pv, mo, x.b⟩) q → Mut lm xs q := by
    rintro q hq (rfl | ⟨y, hy, hy2⟩)
    · exact .inl rfl
    · rcases hmem y hy with rfl | ⟨k, hk1, _⟩
      · rcases hy2 with hy2 | hy2
        · exact .inr ⟨x, hxm, .inl hy2⟩
        · rcases hmo with e | e | ⟨m, e, hm1, _⟩
          · exact .inr ⟨x, hxm, .inr (by rw [← e]; exact hy2)⟩
          · have hy2 : mo = some q := hy2
            rw [e] at hy2; cases hy2
          · have hy2 : mo = some q := hy2
            rw [e] at hy2; cases hy2; omega
      · exact .inr ⟨y, List.mem_of_getElem? hk1, hy2⟩
  refine ⟨h.flows, h.small, ?_, h.live.block (hk lm hlml (fun e => hlb x hxm e.symm) (h.lmA x hxm)), ?_, ?_, ?_, ?_, .inl h.cbU, ?_, ?_, ?_, ?_, ?_⟩
  · rw [List.map_set, h.jobs]
  · intro y hy
    rcases hmem y hy with rfl | ⟨k, hk1, hk2⟩
    · exact hbox
    · exact (h.box y (List.mem_of_getElem? hk1)).block (hother hk1 hk2).1
  · intro y hy
    rcases hmem y hy with rfl | ⟨k, hk1, hk2⟩
    · exact hack
    · exact (h.ack y (List.mem_of_getElem? hk1)).block (hother hk1 hk2).2
  · intro Y hY
    have hst := h.stat Y fun q hq hm => by
      have hqlt := h.lt q hq
      refine (hY q (.inl hq) (fun e => hm (hmut q hqlt e))).trans (hk q hqlt (fun e => hm (.inr ⟨x, hxm, .inl e⟩)) (fun e => hm (.inr ⟨x, hxm, .inr e⟩)))
    refine ⟨hst.plan, ?_, ?_, hst.ctl⟩
    · have : (xs.set i ⟨j, pv, mo, x.b⟩).map (fun x => Value.pointer (some ⟨x.b, 0, none⟩)) = xs.map fun x => Value.pointer (some ⟨x.b, 0, none⟩) := by
        refine List.ext_getElem (by simp) fun k h1 h2 => ?_
        rw [List.getElem_map, List.getElem_map, List.getElem_set]
        split
        · rename_i e
          subst e
          rw [(List.getElem?_eq_some_iff.1 hi).2]
        · rfl
      rw [this, List.length_set]
      exact hst.ptrs
    · intro y hy
      rcases hmem y hy with rfl | ⟨k, hk1, hk2⟩
      · rcases hpv with ⟨e1, e2⟩ | hpv
        · show IntsAt Y pv j.places
          rw [e1, e2]
          exact hst.places x hxm
        · refine hpv Y fun k hk1 hk2 hk3 => hY k (.inr ⟨hk1, hk2⟩) ?_
          rintro (e | ⟨z, hz, hz2⟩)
          · omega
          · rcases hmem z hz with rfl | ⟨q, hq1, _⟩
            · rcases hz2 with hz2 | hz2
              · have := (hltU x hxm).1
                have hz2 : k = x.b := hz2
                omega
              · exact hk3 hz2
            · have := hltU z (List.mem_of_getElem? hq1)
              rcases hz2 with hz2 | hz2
              · omega
              · have := this.2 k hz2
                omega
      · exact hst.places y (List.mem_of_getElem? hk1)
  · intro q hq
    rcases Nat.lt_or_ge q w.heap.size with hlt | hge
    · exact .inl (h.inU q (hmut q hlt hq))
    · rcases hq with e | ⟨y, hy, hy2⟩
      · omega
      · rcases hmem y hy with rfl | ⟨k, hk1, _⟩
        · rcases hy2 with hy2 | hy2
          · have := (hltU x hxm).1
            have hy2 : q = x.b := hy2
            omega
          · have hy2 : mo = some q := hy2
            rcases hmo with e | e | ⟨m, e, hm1, hm2⟩
            · have := (hltU x hxm).2 q (by rw [← e]; exact hy2)
              omega
            · rw [e] at hy2; cases hy2
            · rw [e] at hy2; cases hy2
              exact .inr ⟨hm1, hm2⟩
        · have := hltU y (List.mem_of_getElem? hk1)
          rcases hy2 with hy2 | hy2
          · omega
          · have := this.2 q hy2
            omega
  · rintro q (hq | hq)
    · exact Nat.lt_of_lt_of_le (h.lt q hq) hs
    · exact hq.2
  · rw [List.pairwise_iff_getElem]
    intro p q hp hq hpq
    have hp' : p < xs.length := by simpa using hp
    have hq' : q < xs.length := by simpa using hq
    rw [List.getElem_set, List.getElem_set]
    have hold := List.pairwise_iff_getElem.1 h.apart p q hp' hq' hpq
    have hxi : xs[i] = x := (List.getElem?_eq_some_iff.1 hi).2
    have hnew : ∀ y ∈ xs, mo = x.mo ∨ ∀ m, mo = some m → y.mo ≠ some m := fun y hy => by
      rcases hmo with e | e | ⟨m, e, hm1, _⟩
      · exact .inl e
      · exact .inr fun m hm => by rw [e] at hm; cases hm
      · exact .inr fun m' hm he => by
          rw [e] at hm; cases hm
          have := (hltU y hy).2 m he
          omega
    split
    · rename_i hip
      subst hip
      rw [if_neg (by omega)]
      rw [hxi] at hold
      refine ⟨hold.1, fun m hm => ?_⟩
      have hm : mo = some m := hm
      rcases hnew xs[q] (List.getElem_mem hq') with e | e
      · exact hold.2 m (by rw [← e]; exact hm)
      · exact e m hm
    · split
      · rename_i hiq
        subst hiq
        rw [hxi] at hold
        refine ⟨hold.1, fun m hm he => ?_⟩
        have he : mo = some m := he
        rcases hnew xs[p] (List.getElem_mem hp') with e | e
        · exact hold.2 m hm (by rw [← e]; exact he)
        · exact e m he hm
      · exact hold
  · intro y hy
    rcases hmem y hy with rfl | ⟨k, hk1, _⟩
    · rcases hmo with e | e | ⟨m, e, hm1, _⟩
      · show mo ≠ some lm
        rw [e]
        exact h.lmA x hxm
      · show mo ≠ some lm
        rw [e]
        simp
      · show mo ≠ some lm
        rw [e]
        intro e2
        cases e2
        omega
    · exact h.lmA y (List.mem_of_getElem? hk1)
  · refine tab_block h.tab (hk _ (tab_lt h.tab) (fun e => h.gU (e ▸ h.inU _ (.inr ⟨x, hxm, .inl rfl⟩))) (fun e => h.gU (h.inU _ (.inr ⟨x, hxm, .inr e⟩))))
  · rintro (e | e)
    · exact h.gU e
    · have := tab_lt h.tab
      omega
end
end Go.Proofs.YtkjajlolfcioiaaGreatDoor.Control

/- control.Live: slices.Sorted(maps.Keys(m)) of the workers that are there. -/
namespace Go.Proofs.YtkjajlolfcioiaaGreatDoor.Control
open Go Go.RowKit Go.MapKept Go.Proofs Go.Proofs.YtkjajlolfcioiaaGreatDoor Go.Proofs.YtkjajlolfcioiaaGreatDoor.Own Go.Proofs.YtkjajlolfcioiaaGreatDoor.Mp Go.Proofs.YtkjajlolfcioiaaGreatDoor.Ints Go.Proofs.YtkjajlolfcioiaaGreatDoor.Plan Go.Proofs.YtkjajlolfcioiaaGreatDoor.Check Go.Proofs.YtkjajlolfcioiaaGreatDoor.Graph Go.Proofs.YtkjajlolfcioiaaGreatDoor.Ctl

theorem map_keys {X : World} {b n : Nat} {f0 : Value → Option Value} {S : List Int} (h : MapF X (.int .i64) b f0) (hf0 : ∀ k : Int, (f0 (.int .i64 k)).isSome = true ↔ k ∈ S) (hS : ∀ k ∈ S, 0 ≤ k ∧ k < n) (hn : n ≤ 1000) :
    ∃ D0 : DataW Unit, X.ownsMap Tryz.prog 3 unitR b n D0 ∧ Maps.size D0 ≤ n ∧ (∀ k, k ∈ Go.intKeys D0 ↔ k ∈ S) ∧ (Go.intKeys D0).Nodup := by
  obtain ⟨es, clock, hb, hs, hks, h1, h2⟩ := h
  -- every key is a number of S
  have hint : ∀ x ∈ es.toList, ∃ k : Int, x.key = .int .i64 k ∧ k ∈ S := fun x hx => by
    have hk := hks x hx
    have hv := h1 x hx
    obtain ⟨key, val, born⟩ := x
    cases key <;> try exact hk.elim
    rename_i q k
    obtain rfl : q = .i64 := hk
    exact ⟨k, rfl, (hf0 k).1 (by rw [hv]; rfl)⟩
  have hread : ∀ x ∈ es.toList, ∀ k : Int, x.key = .int .i64 k → WideElems.rd Tryz.prog 3 unitR x = some (.int .i64 k, .lit (.bool true)) := fun x hx k hk => by
    obtain ⟨k', hk', hm⟩ := hint x hx
    obtain rfl : k = k' := by rw [hk] at hk'; simpa using hk'
    obtain ⟨key, val, born⟩ := x
    have hk2 : key = .int .i64 k := hk
    subst hk2
    have hw := hS k hm
    exact WideElems.rd_mk (R := unitR) (yv := (.lit (.bool true), [])) (Go.Maps.keyOf_int_mk (a := k) Tryz.underlying3 (WalkArith.wf_i64 (n := k) (by omega))) rfl
  let f : MapEntry → Int := fun x => match x.key with | .int _ k => k | _ => 0
  have hf : ∀ x ∈ es.toList, x.key = .int .i64 (f x) ∧ f x ∈ S := fun x hx => by
    obtain ⟨k, hk, hm⟩ := hint x hx
    have : f x = k := by show (match x.key with | .int _ k => k | _ => 0) = k; rw [hk]
    rw [this]
    exact ⟨hk, hm⟩
  have hnod : (es.toList.map f).Nodup := by
    have hp := ((stamped_iff _ _).1 hs).2.2
    rw [List.nodup_iff_pairwise_ne, List.pairwise_map]
    refine List.Pairwise.imp_of_mem (fun {x y} hx hy hne e => hne ?_) hp
    rw [(hf x hx).1, (hf y hy).1, e]
  have hlen : es.size ≤ n := by
    have := nodup_len n (es.toList.map f) hnod (fun x hx => by
      obtain ⟨y, hy, rfl⟩ := List.mem_map.1 hx
      exact hS _ (hf y hy).2)
    simpa using this
  have hperm : (Go.intKeys (DataW.map ((es.toList.map (WideElems.rg Tryz.prog 3 unitR)).foldr DataW.insert []))).Perm (es.toList.map f) := by
    show (((es.toList.map (WideElems.rg Tryz.prog 3 unitR)).foldr DataW.insert []).map fun p => Go.intOf p.1).Perm _
    refine ((WideShapes.sorted_perm _).map _).trans ?_
    rw [List.map_map]
    have : es.toList.map ((fun p : Lit × DataW Unit => Go.intOf p.1) ∘ WideElems.rg Tryz.prog 3 unitR) = es.toList.map f := by
      refine List.map_congr_left (fun x hx => ?_)
      have e := WideElems.rg_of (hread x hx (f x) (hf x hx).1)
      simp only [Function.comp_apply, e, Go.intOf]
    rw [this]
  refine ⟨_, ⟨es, clock, hb, ⟨by unfold maxLen; omega, hs, fun x hx => ⟨_, hread x hx _ (hf x hx).1⟩⟩, hlen, rfl⟩, ?_, ?_, ?_⟩
  · show ((es.toList.map (WideElems.rg Tryz.prog 3 unitR)).foldr DataW.insert []).length ≤ n
    rw [(WideShapes.sorted_perm _).length_eq]
    simpa using hlen
  · intro k
    rw [hperm.mem_iff, List.mem_map]
    constructor
    · rintro ⟨x, hx, rfl⟩
      exact (hf x hx).2
    · intro hk
      obtain ⟨v0, hv0⟩ := Option.isSome_iff_exists.1 ((hf0 k).2 hk)
      obtain ⟨x, hx, hxk⟩ := h2 (.int .i64 k) v0 hv0
      refine ⟨x, hx, ?_⟩
      have := (hf x hx).1
      rw [hxk] at this
      simpa using this.symm
  · exact hperm.nodup_iff.2 hnod
/-- maps.Keys. -/
theorem keysL_calls (mb : Option Nat) (W : World) : Calls Tryz.prog 86 #[.map mb] W fun e w' => e = .returned (.func (.func 118) #[] #[.pointer (some ⟨W.heap.size, 0, none⟩)]) ∧ w' = W.alloc (.cells #[.map mb] 112) :=
  (callsIn_wide (n := 5)).1 (AnyZI.keys_in Tryz.keysL Fence.wide 5 trivial rfl mb W)
theorem own_le {base base' E size n : Nat} {v : Value} {xs : List Value} {w : World} (h : w.ownsRow base E size v n xs) (hB : base' ≤ base) : w.ownsRow base' E size v n xs := own_base h hB
theorem sortedL_calls (b n : Nat) (f0 : Value → Option Value) (S : List Int) (w : World) (h : MapF w (.int .i64) b f0) (hf0 : ∀ k : Int, (f0 (.int .i64 k)).isSome = true ↔ k ∈ S) (hS : ∀ k ∈ S, 0 ≤ k ∧ k < n) (hn : n ≤ 1000) :
    Calls Tryz.prog 85 #[.func (.func 118) #[] #[.pointer (some ⟨w.heap.size, 0, none⟩)]] (w.alloc (.cells #[.map (some b)] 112)) fun e w' =>
      ∃ v L, e = .returned v ∧ SortedOf L S ∧ w'.ownsRow w.heap.size 3 1 v L.length (L.map (Value.int .i64)) ∧ Below w.heap.size w w' := by
  obtain ⟨D0, hown, hsz, hmem, hnd⟩ := map_keys h hf0 hS hn
  have hbl := hown.lt
  have hseq : SeqGives Fence.wide 2 Tryz.prog 118 #[.pointer (some ⟨w.heap.size, 0, none⟩)] Go.encZ (fun ss => ss.Perm (Go.intKeys D0)) (Maps.size D0) (w.alloc (.cells #[.map (some b)] 112)) :=
    AnyZI.keys_gives (ρ := Tryz.keysL_ren) { Tryz.keysL with } Fence.wide _ trivial rfl (by omega) w.heap.size b n D0 _ (by simp) (by simp) (by
      obtain ⟨es, clock, hb, Ft, hs, hD⟩ := hown
      exact ⟨es, clock, (Below.heap_alloc _ _ b hbl).trans hb, Ft, hs, hD⟩)
  have cS := AnyZI.sorted_in Tryz.sortedI Fence.wide 5 trivial trivial trivial trivial rfl (by omega) (sortsI _) (enters_of Tryz.func117 (by kernel_rfl) rfl) 118 #[.pointer (some ⟨w.heap.size, 0, none⟩)] trivial (enters_of Tryz.func118 (by kernel_rfl) rfl) _ _ (by unfold maxLen; omega) (by omega) _ hseq
  refine ((callsIn_wide (n := 5)).1 cS).mono ?_
  rintro e w' ⟨v, ss, rfl, hp, hrow, -, hb⟩
  refine ⟨v, ss.mergeSort (fun x y => decide (x ≤ y)), rfl, ⟨?_, fun k => by rw [(List.mergeSort_perm ss _).mem_iff, hp.mem_iff, hmem]⟩, ?_, go (box_below _ _) hb⟩
  · have h1 : (ss.mergeSort (fun x y => decide (x ≤ y))).Pairwise (fun x y => decide (x ≤ y) = true) := List.pairwise_mergeSort (fun a b c h1 h2 => by simp at *; omega) (fun a b => by simp; omega) ss
    have h2 : (ss.mergeSort (fun x y => decide (x ≤ y))).Nodup := (List.mergeSort_perm ss _).nodup_iff.2 (hp.nodup_iff.2 hnd)
    exact (h1.and h2).imp (fun {x y} ⟨q1, q2⟩ => by simp at q1; omega)
  · have hl : ss.length = (ss.mergeSort (fun x y => decide (x ≤ y))).length := by simp
    rw [hl] at hrow
    exact own_le hrow (by simp)
theorem rising_same : ∀ (a b : List Int), a.Pairwise (· < ·) → b.Pairwise (· < ·) → (∀ q, q ∈ a ↔ q ∈ b) → a = b
  | [], [], _, _, _ => rfl
  | [], y :: s, _, _, h => by have := (h y).2 List.mem_cons_self; cases this
  | x :: r, [], _, _, h => by have := (h x).1 List.mem_cons_self; cases this
  | x :: r, y :: s, ha, hb, h => by
    obtain ⟨h1, h2⟩ := List.pairwise_cons.1 ha
    obtain ⟨k1, k2⟩ := List.pairwise_cons.1 hb
    have hxy : x = y := by
      rcases List.mem_cons.1 ((h x).1 List.mem_cons_self) with e | e
      · exact e
      · rcases List.mem_cons.1 ((h y).2 List.mem_cons_self) with f | f
        · exact f.symm
        · have := h1 y f
          have := k1 x e
          omega
    subst hxy
    rw [rising_same r s h2 k2 fun q => ?_]
    constructor
    · intro hq
      rcases List.mem_cons.1 ((h q).1 (List.mem_cons_of_mem _ hq)) with e | e
      · have := h1 q hq
        omega
      · exact e
    · intro hq
      rcases List.mem_cons.1 ((h q).2 (List.mem_cons_of_mem _ hq)) with e | e
      · have := k1 q hq
        omega
      · exact e
theorem liveL_rises (lv : Int → Int) : (liveL lv).Pairwise (· < ·) := by
  unfold liveL
  exact List.Pairwise.filter _ (by decide)
theorem livF_int (lv : Int → Int) (k : Int) : (livF lv (.int .i64 k)).isSome = true ↔ 0 < lv k := by
  show (if 0 < lv k then some (Value.int .i64 (lv k)) else none).isSome = true ↔ _
  by_cases h : 0 < lv k
  · simp [h]
  · simp [h]
/-- the workers that are there. -/
def LivePost (L : List Int) (w : World) (e : Ending) (w' : World) : Prop := ∃ v, e = .returned v ∧ w'.ownsRow w.heap.size 3 1 v L.length (L.map (Value.int .i64)) ∧ Below w.heap.size w w'
set_option maxRecDepth 100000 in
theorem live_calls {w : World} {cb : Nat} {c : Ct} {U : Nat → Prop} {tv fv : Value} {lm : Nat} {jv : Value} {fl : List FlwV} {xs : List JV} (h : CtlIs w cb c U tv fv lm jv fl xs) (hc : ∀ k, k < 1 ∨ 6 < k → c.lives k = 0) :
    Calls Tryz.prog 35 #[.pointer (some ⟨cb, 0, none⟩)] w (LivePost (liveL c.lives) w) := by
  have hl := h.live
  have hcell : w.cell? ⟨cb, 2, none⟩ = some (.map (some lm)) := by rw [cell_of_row _ _ _ _ _ _ h.now.ctl]; simp
  have hk := keysL_calls (some lm) w
  have hs := (sortedL_calls lm 7 (livF c.lives) (liveL c.lives) w hl (fun k => by
    rw [liveL_mem]
    rw [livF_int]
    exact ⟨fun h3 => ⟨by
      have : ¬ (k < 1 ∨ 6 < k) := fun e => by have := hc k e; omega
      omega, h3⟩, fun h2 => h2.2⟩) (fun k hk => by have := (liveL_mem.1 hk).1; omega) (by omega)).mono (R' := LivePost (liveL c.lives) w) (by
    rintro e w' ⟨v, L, rfl, hL, hrow, hb⟩
    obtain rfl : L = liveL c.lives := rising_same _ _ hL.rises (liveL_rises _) hL.mem
    exact ⟨v, rfl, hrow, hb⟩)
  have HS := Lib.hid hs
  have HK := Lib.hid hk
  clear hs hk hl h hc
  go_enter Tryz.func35, Tryz.ntmps35
  go_wp2_with (first
    | (go_at_call 86; go_must (refine (HK.out).mono ?_); rintro e w1 ⟨rfl, rfl⟩)
    | (go_at_call 85; go_must (refine (HS.out).mono ?_); rintro e w2 ⟨v, rfl, hrow, hb⟩; have HR := Lib.hid hrow; have HB := Lib.hid hb; clear hrow hb))
  go_ret
  exact ⟨_, rfl, HR.out, HB.out⟩
end Go.Proofs.YtkjajlolfcioiaaGreatDoor.Control
