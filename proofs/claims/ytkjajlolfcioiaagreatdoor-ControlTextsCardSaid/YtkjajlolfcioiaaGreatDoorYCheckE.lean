/- plan.Check, walked. -/
import Derived.Test.YtkjajlolfcioiaaGreatDoorYCheckD
import Derived.Test.YtkjajlolfcioiaaGreatDoorYMp
import Derived.WalkSpells
import Derived.WalkLawsBesides
namespace Go.Proofs.YtkjajlolfcioiaaGreatDoor.Check
open Go.RowKit Go.Proofs.YtkjajlolfcioiaaGreatDoor Go.Proofs.YtkjajlolfcioiaaGreatDoor.Own Go.Proofs.YtkjajlolfcioiaaGreatDoor.Tail Go.Proofs.YtkjajlolfcioiaaGreatDoor.Mp Go.Proofs.YtkjajlolfcioiaaGreatDoor.Scan Go.Proofs.YtkjajlolfcioiaaGreatDoor.Plan Go.Proofs.YtkjajlolfcioiaaGreatDoor.Expr Go.Lib

/-- a flow, and the slices of its steps. -/
structure FlwV where
  f : Flw
  pv : Value
  qv : Value
def topCells (t : Top) : List Value := [.string t.name, .int .i64 t.parts]
def flwvCells (x : FlwV) : List Value := (flwCells x.f x.pv x.qv).toList
/-- a plan in memory. -/
structure PlanAt (w : World) (tv fv : Value) (tops : List Top) (fl : List FlwV) : Prop where
  tops : SliceAt w tv tops.length (tops.flatMap topCells)
  flows : SliceAt w fv fl.length (fl.flatMap flwvCells)
  pre : ∀ x ∈ fl, StepsAt w x.pv x.f.pre
  post : ∀ x ∈ fl, StepsAt w x.qv x.f.post
theorem PlanAt.below {w w' : World} {tv fv : Value} {tops : List Top} {fl : List FlwV} (h : PlanAt w tv fv tops fl) (k : Below w.heap.size w w') : PlanAt w' tv fv tops fl :=
  ⟨h.tops.below k, h.flows.below k, fun x hx => (h.pre x hx).below k, fun x hx => (h.post x hx).below k⟩
def plnOf (tops : List Top) (fl : List FlwV) : Pln := ⟨tops, fl.map (·.f)⟩
def SmallFlows (fl : List FlwV) : Prop := ∀ x ∈ fl, SmallSteps x.f.pre ∧ SmallSteps x.f.post
/-- what plan.Check comes to. -/
def CheckPost (E : Int) (w : World) (e : Ending) (w' : World) : Prop := (∃ n : Int, e = .returned (.tuple #[.int .i64 n, .int .i64 E])) ∧ Below w.heap.size w w'

/-- what is deferred, in Check's frame. -/
abbrev dfr (B : Nat) : Deferred := { target := .fn (.func 99) #[.pointer (some ⟨B + 1, 0, none⟩), .pointer (some ⟨B + 1 + 1, 0, none⟩)], args := #[] }
/-- the cells of Check's results. -/
structure ResAt (X : World) (B : Nat) : Prop where
  c2 : X.cell? ⟨B + 1, 0, none⟩ = some (.int .i64 0)
  c3 : X.cell? ⟨B + 1 + 1, 0, none⟩ = some (.int .i64 0)
  f2 : X.frozen? ⟨B + 1, 0, none⟩ = false
  f3 : X.frozen? ⟨B + 1 + 1, 0, none⟩ = false
theorem ResAt.below {X Y : World} {B : Nat} (h : ResAt X B) (k : Below X.heap.size X Y) : ResAt Y B := ⟨kc k h.c2, kc k h.c3, kf k h.c2 h.f2, kf k h.c3 h.f3⟩
theorem door_panic {tmps : Array Value} {E n : Int} {w X : World} (h2 : tmps[2]? = some (.pointer (some ⟨w.heap.size + 1, 0, none⟩))) (h3 : tmps[3]? = some (.pointer (some ⟨w.heap.size + 1 + 1, 0, none⟩))) (hR : ResAt X w.heap.size) (hB : Below w.heap.size w X) :
    bodyPostD Tryz.prog Tryz.f52 (CheckPost E w) (Exit.panic [{ v := wrongV n E, recovered := false }]) { tmps, defers := [dfr w.heap.size] } X := by
  refine leaves_cons (f := 99) (args := #[.pointer (some ⟨w.heap.size + 1, 0, none⟩), .pointer (some ⟨w.heap.size + 1 + 1, 0, none⟩)]) (by simp) (by simp [go_sem]) ?_
  refine (catch_panics (w.heap.size + 1) (w.heap.size + 1 + 1) (by omega) n E 0 0 [] X hR.c2 hR.c3 hR.f2 hR.f3).mono ?_
  rintro e u' w'' ⟨rfl, rfl, k2, k3, hb⟩
  have hBB : Below w.heap.size w w'' := hB.trans (hb _ (by omega) (by omega) hB.size)
  have hfin : CheckPost E w (.returned (.tuple #[.int .i64 n, .int .i64 E])) w'' := ⟨⟨n, rfl⟩, hBB⟩
  simp [Leaves, settle, results, Tryz.results52, go_sem, h2, h3, k2, k3]
  exact hfin
theorem door_ret {tmps : Array Value} {w X : World} (h2 : tmps[2]? = some (.pointer (some ⟨w.heap.size + 1, 0, none⟩))) (h3 : tmps[3]? = some (.pointer (some ⟨w.heap.size + 1 + 1, 0, none⟩))) (hR : ResAt X w.heap.size) (hB : Below w.heap.size w X) :
    bodyPostD Tryz.prog Tryz.f52 (CheckPost 0 w) Exit.ret { tmps, defers := [dfr w.heap.size] } X := by
  refine leaves_cons (f := 99) (args := #[.pointer (some ⟨w.heap.size + 1, 0, none⟩), .pointer (some ⟨w.heap.size + 1 + 1, 0, none⟩)]) (by simp) (by simp [go_sem]) ?_
  refine (catch_idle (w.heap.size + 1) (w.heap.size + 1 + 1) X).mono ?_
  rintro e u' w'' ⟨rfl, rfl, hb⟩
  have k2 := kc hb hR.c2
  have k3 := kc hb hR.c3
  have hfin : CheckPost 0 w (.returned (.tuple #[.int .i64 0, .int .i64 0])) w'' := ⟨⟨0, rfl⟩, go hB hb⟩
  simp [Leaves, settle, results, Tryz.results52, go_sem, h2, h3, k2, k3]
  exact hfin
theorem ResAt.start (w : World) (o : Obj) (T U : TypeId) : ResAt (((w.alloc o).alloc (.cells #[.int .i64 0] T)).alloc (.cells #[.int .i64 0] U)) w.heap.size := by
  have e : w.heap.size + 1 = (w.alloc o).heap.size := by simp
  have e2 : w.heap.size + 1 + 1 = ((w.alloc o).alloc (.cells #[.int .i64 0] T)).heap.size := by simp
  have q2 : (((w.alloc o).alloc (.cells #[.int .i64 0] T)).alloc (.cells #[.int .i64 0] U)).heap[w.heap.size + 1]? = some (.cells #[.int .i64 0] T) := heap_up (heap_at e)
  have q3 : (((w.alloc o).alloc (.cells #[.int .i64 0] T)).alloc (.cells #[.int .i64 0] U)).heap[w.heap.size + 1 + 1]? = some (.cells #[.int .i64 0] U) := heap_at e2
  exact ⟨by rw [cell_of_row _ _ _ _ _ _ q2]; rfl, by rw [cell_of_row _ _ _ _ _ _ q3]; rfl, by simp only [World.frozen?, q2]; rfl, by simp only [World.frozen?, q3]; rfl⟩
theorem three_below (w : World) (o p q : Obj) : Below w.heap.size w (((w.alloc o).alloc p).alloc q) := balloc (balloc (box_below w o) p) q
set_option maxHeartbeats 2000000 in
set_option maxRecDepth 100000 in
theorem check_many (tops : List Top) (fl : List FlwV) (tv fv : Value) (w : World) (hP : PlanAt w tv fv tops fl) (h16 : 16 < tops.length) :
    Calls Tryz.prog 52 #[.agg #[tv, fv]] w (CheckPost (planE (plnOf tops fl)) w) := by
  have hE : planE (plnOf tops fl) = 5 := by unfold planE plnOf; rw [if_pos (.inl h16)]
  rw [hE]
  obtain ⟨⟨A1, c1, rfl, hc1, hr1⟩, ⟨A2, c2, rfl, hc2, hr2⟩, hpre, hpost⟩ := hP
  have hmf : ∀ (fn : Fn) (first cap : Array Value) (w : World), (Instr.makeFunc fn first cap).run Tryz.prog w = .ok (.func fn first cap) w := fun _ _ _ _ => rfl
  have t1 : decide ((tops.length : Int) ≤ 16) = false := decide_eq_false (by omega)
  clear hr1 hr2 hpre hpost hE
  go_enter_defers Tryz.func52, Tryz.ntmps52
  go_wp2_with (go_at_call 100; (with_reducible refine (need_no _ _ _).mono ?_); rintro e w4 ⟨rfl, rfl⟩)
  exact door_panic rfl rfl (ResAt.start _ _ _ _) (three_below _ _ _ _)
/-! ### the maps -/
section
variable {w : World} {b : Nat} {g : List UInt8 → Option Int} {ops : Array Oper} {rest : List Oper} {o : Oper} {a : Act} {Q : Exit → Act → World → Prop}
theorem look_str (h : StrMap w b g) (hw : Region.wanted o (yielded ops a.tmps) = true) (m x : Operand) (hop : o.op = Op.lookup 162 m x false) (hm : a.eval m = .map (some b)) {s : ByteArray} (hx : a.eval x = .string s) {n : Int} (hn : (g s.data.toList).getD 0 = n)
    (hK : wpList Tryz.prog ops Q rest (a.put o.dst (.int .i64 n)) w) : wpList Tryz.prog ops Q (o :: rest) a w :=
  list_look h Tryz.underlying162 Tryz.underlying9 (z := .int .i64 0) (by kernel_rfl) hw m x false hop hm hx trivial (v := .int .i64 n) (by rw [strF_get, hn]; rfl) hK
theorem look_ok (h : StrMap w b g) (hw : Region.wanted o (yielded ops a.tmps) = true) (m x : Operand) (hop : o.op = Op.lookup 162 m x true) (hm : a.eval m = .map (some b)) {s : ByteArray} (hx : a.eval x = .string s) {n : Int} (hn : (g s.data.toList).getD 0 = n) {t : Bool} (ht : (g s.data.toList).isSome = t)
    (hK : wpList Tryz.prog ops Q rest (a.put o.dst (.tuple #[.int .i64 n, .bool t])) w) : wpList Tryz.prog ops Q (o :: rest) a w :=
  list_look h Tryz.underlying162 Tryz.underlying9 (z := .int .i64 0) (by kernel_rfl) hw m x true hop hm hx trivial (v := .tuple #[.int .i64 n, .bool t]) (by rw [strF_get, strF_some, hn, ht]; rfl) hK
theorem put_str (h : StrMap w b g) (hw : Region.wanted o (yielded ops a.tmps) = true) (m x y : Operand) (hop : o.op = Op.mapUpdate 162 m x y) (hm : a.eval m = .map (some b)) {s : ByteArray} (hx : a.eval x = .string s) {n : Int} (hy : a.eval y = .int .i64 n)
    (hK : ∀ w', StrMap w' b (strPut g s.data.toList n) → But b w w' → wpList Tryz.prog ops Q rest (a.put o.dst undef) w') : wpList Tryz.prog ops Q (o :: rest) a w :=
  list_put h Tryz.underlying162 Tryz.underlying9 hw m x y hop hm hx trivial hy (strF (strPut g s.data.toList n)) (strF_put g s n) (fun x hx => strF_other g s n x hx) hK
end
/-! ### what lies in memory while a plan is checked -/
structure Mem (w : World) (tv fv : Value) (X : World) : Prop where
  below : Below w.heap.size w X
  res : ResAt X w.heap.size
  b0 : X.cell? ⟨w.heap.size, 0, none⟩ = some tv
  b1 : X.cell? ⟨w.heap.size, 1, none⟩ = some fv
  big : w.heap.size + 1 + 1 < X.heap.size
theorem Mem.belowX {w X Y : World} {tv fv : Value} (h : Mem w tv fv X) (k : Below X.heap.size X Y) : Mem w tv fv Y := ⟨go h.below k, h.res.below k, kc k h.b0, kc k h.b1, by have := k.size; have := h.big; omega⟩
theorem Mem.but {w X Y : World} {tv fv : Value} {b : Nat} (h : Mem w tv fv X) (k : But b X Y) (hb : w.heap.size + 1 + 1 < b) : Mem w tv fv Y :=
  ⟨h.below.grown k h.below.size (fun _ e => by cases e; omega), ⟨k.cell (by simp; omega) h.res.c2, k.cell (by simp; omega) h.res.c3, k.frozen (by simp; omega) h.res.c2 h.res.f2, k.frozen (by simp; omega) h.res.c3 h.res.f3⟩, k.cell (by simp; omega) h.b0, k.cell (by simp; omega) h.b1, by have := k.size; have := h.big; omega⟩
theorem Mem.alloc {w X : World} {tv fv : Value} (h : Mem w tv fv X) (o : Obj) : Mem w tv fv (X.alloc o) := h.belowX (box_below X o)
theorem Mem.start (w : World) (tv fv : Value) (S T U : TypeId) : Mem w tv fv (((w.alloc (.cells #[tv, fv] S)).alloc (.cells #[.int .i64 0] T)).alloc (.cells #[.int .i64 0] U)) := by
  have q : (((w.alloc (.cells #[tv, fv] S)).alloc (.cells #[.int .i64 0] T)).alloc (.cells #[.int .i64 0] U)).heap[w.heap.size]? = some (.cells #[tv, fv] S) := heap_up (heap_up (heap_new _ _))
  exact ⟨three_below _ _ _ _, ResAt.start _ _ _ _, by rw [cell_of_row _ _ _ _ _ _ q]; rfl, by rw [cell_of_row _ _ _ _ _ _ q]; rfl, by simp⟩
theorem named_is {s : ByteArray} {t : Bool} (h : nameOk s = t) (w : World) : Calls Tryz.prog 101 #[.string s] w fun e w' => e = .returned (.bool t) ∧ Below w.heap.size w w' :=
  (named_calls s w).mono fun _ _ ⟨⟨b, h1, h2⟩, h3⟩ => ⟨by rw [h1, h2.out, h], h3⟩
end Go.Proofs.YtkjajlolfcioiaaGreatDoor.Check
