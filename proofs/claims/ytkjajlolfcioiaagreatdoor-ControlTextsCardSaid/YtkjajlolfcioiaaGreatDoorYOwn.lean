/- Slices of one's own, sources to append, boxes: laws over any program. -/
import Derived.WalkKit
import Derived.KernelRfl
import Derived.Lib.Hide
import Derived.Deep.DeepMust
import Derived.OwnWalk
import Derived.Below
import Derived.Laws.AppendOwn
import Derived.Laws.AppendOwnNone
import Derived.Deep.RegionLaw
import Derived.Deep.QuietTactic
import Derived.BigQuiet
namespace Go.Proofs.YtkjajlolfcioiaaGreatDoor.Own
open Go Go.RowKit

/-! ### worlds -/
theorem bgo {B : Nat} {a b c : World} (h : Below B a b) (hB : B ≤ a.heap.size) (k : Below b.heap.size b c) : Below B a c := h.trans (k.mono (by have := h.size; omega))
/-- one more call. -/
theorem go {a b c : World} (h : Below a.heap.size a b) (k : Below b.heap.size b c) : Below a.heap.size a c := bgo h (Nat.le_refl _) k
theorem lt_of_cell {W : World} {a : Addr} {v : Value} (h : W.cell? a = some v) : a.block < W.heap.size := by
  rcases Nat.lt_or_ge a.block W.heap.size with h' | h'
  · exact h'
  · simp [World.cell?, Array.getElem?_eq_none h'] at h
/-- a cell that was there. -/
theorem kc {a b : World} (k : Below a.heap.size a b) {p : Addr} {v : Value} (h : a.cell? p = some v) : b.cell? p = some v := (k.cell (lt_of_cell h)).trans h
theorem kf {a b : World} (k : Below a.heap.size a b) {p : Addr} {v : Value} {f : Bool} (h : a.cell? p = some v) (hf : a.frozen? p = f) : b.frozen? p = f := (k.frozen (lt_of_cell h)).trans hf
/-- a cell of a block below B. -/
theorem kb {B : Nat} {a b : World} (k : Below B a b) {p : Addr} {v : Value} (hp : p.block < B) (h : a.cell? p = some v) : b.cell? p = some v := (k.cell hp).trans h
theorem balloc {a b : World} (h : Below a.heap.size a b) (o : Obj) : Below a.heap.size a (b.alloc o) := h.alloc h.size o
theorem bdrewN {B : Nat} {a b : World} (h : Below B a b) (n : Nat) : Below B a (b.drewN n) := ⟨h.os, h.tape, h.output, h.size, h.block⟩
theorem bgrown {B : Nat} {a b c : World} {r : Option Nat} (h : Below B a b) (hB : B ≤ b.heap.size) (hg : b.grownBy c r) (hr : ∀ k, r = some k → B ≤ k) : Below B a c := h.grown hg hB hr
theorem heap_new (w : World) (o : Obj) : (w.alloc o).heap[w.heap.size]? = some o := by simp [World.alloc, -World.alloc_eq]
theorem heap_at {X : World} {k : Nat} {o : Obj} (h : k = X.heap.size) : (X.alloc o).heap[k]? = some o := by rw [h]; exact heap_new X o
theorem heap_up {X : World} {k : Nat} {o o' : Obj} (h : X.heap[k]? = some o') : (X.alloc o).heap[k]? = some o' := by
  have hlt : k < X.heap.size := by
    rcases Nat.lt_or_ge k X.heap.size with h' | h'
    · exact h'
    · rw [Array.getElem?_eq_none h'] at h; cases h
  exact (Below.heap_alloc X o k hlt).trans h
theorem heap_drew {X : World} {k : Nat} {o : Obj} (h : X.heap[k]? = some o) : X.drew.heap[k]? = some o := h
theorem add_block (a : Addr) (i : Nat) : (a.add i).block = a.block := by unfold Addr.add; split <;> rfl
theorem add_plain (b i : Nat) : (⟨b, 0, none⟩ : Addr).add i = ⟨b, i, none⟩ := by unfold Addr.add; split <;> simp_all

theorem cell_new {X : World} {cs : Array Value} {T : TypeId} {g j : Nat} {v : Value} (hg : g = X.heap.size) (h : cs[j]? = some v) : (X.alloc (.cells cs T)).cell? ⟨g, j, none⟩ = some v := by
  rw [hg, cell_of_row _ _ _ _ _ _ (heap_new X (.cells cs T)), h]
/-! ### cells in a row -/
/-- the cells cs lie from address ad on. -/
def RowAt (w : World) (ad : Addr) (cs : List Value) : Prop := ∀ (j : Nat) (u : Value), cs[j]? = some u → w.cell? (ad.add j) = some u
theorem RowAt.below {w w' : World} {ad : Addr} {cs : List Value} (h : RowAt w ad cs) (k : Below w.heap.size w w') : RowAt w' ad cs := fun j u hj => kc k (h j u hj)
theorem RowAt.drewN {w : World} {ad : Addr} {cs : List Value} (h : RowAt w ad cs) (n : Nat) : RowAt (w.drewN n) ad cs := h
/-- a block that is known whole. -/
theorem RowAt.of_heap {w : World} {b : Nat} {cs : Array Value} {T : TypeId} {f : Nat × Nat} (h : w.heap[b]? = some (.cells cs T f)) : RowAt w ⟨b, 0, none⟩ cs.toList := by
  intro j u hj
  rw [add_plain, cell_of_row _ _ _ _ _ _ h]
  simpa using hj
theorem RowAt.new (X : World) (cs : Array Value) (T : TypeId) : RowAt (X.alloc (.cells cs T)) ⟨X.heap.size, 0, none⟩ cs.toList := RowAt.of_heap (heap_new X _)

/-! ### slices of one's own -/
theorem own_kept {base E size n : Nat} {v : Value} {xs : List Value} {w w' : World} (h : w.ownsRow base E size v n xs) (hb : Below w.heap.size w w') : w'.ownsRow base E size v n xs := by
  refine ⟨h.1, ?_⟩
  rcases h.2 with hn | ⟨g, cap, cur, hv, hg, hh, rest⟩
  · exact .inl hn
  · have hlt : g < w.heap.size := by
      rcases Nat.lt_or_ge g w.heap.size with h' | h'
      · exact h'
      · rw [Array.getElem?_eq_none h'] at hh; cases hh
    exact .inr ⟨g, cap, cur, hv, hg, (hb.block g hlt).trans hh, rest⟩
theorem own_base {base base' E size n : Nat} {v : Value} {xs : List Value} {w : World} (h : w.ownsRow base E size v n xs) (hB : base' ≤ base) : w.ownsRow base' E size v n xs := by
  refine ⟨h.1, ?_⟩
  rcases h.2 with hn | ⟨g, cap, cur, hv, hb, rest⟩
  · exact .inl hn
  · exact .inr ⟨g, cap, cur, hv, by omega, rest⟩
theorem own_blk {base E size n : Nat} {v : Value} {xs : List Value} {w : World} (h : w.ownsRow base E size v n xs) : ∀ k, v.ownBlock = some k → base ≤ k := by
  intro k hk
  rcases h.2 with ⟨rfl, _⟩ | ⟨g, cap, cur, rfl, hb, _⟩
  · cases hk
  · obtain rfl : g = k := Option.some.inj hk
    exact hb
theorem own_new (X : World) (E size : Nat) : (X.alloc (.cells #[] E)).ownsRow X.heap.size E size (.slice (some ⟨X.heap.size, 0, none⟩) 0 0) 0 [] := ⟨by simp, .inr ⟨X.heap.size, 0, #[], rfl, Nat.le_refl _, heap_new X _, by omega, by decide, by simp, by simp⟩⟩
theorem own_nil (X : World) (base E size : Nat) : X.ownsRow base E size (.slice none 0 0) 0 [] := World.ownsRow_nil _ _ _ _
/-- the slice value, and its cells. -/
theorem own_form {base E size n : Nat} {v : Value} {xs : List Value} {w : World} (h : w.ownsRow base E size v n xs) : ∃ A cap, v = .slice A n cap ∧ n ≤ cap ∧ cap ≤ maxLen ∧ (A = none → cap = 0 ∧ n = 0) ∧ (∀ ad, A = some ad → base ≤ ad.block ∧ RowAt w ad xs) := by
  rcases h.2 with ⟨rfl, rfl⟩ | ⟨g, cap, cur, rfl, hb, hh, hle, hmax, hsz, htake⟩
  · exact ⟨none, 0, rfl, by omega, by decide, (fun _ => ⟨rfl, rfl⟩), fun ad e => by cases e⟩
  · refine ⟨some ⟨g, 0, none⟩, cap, rfl, hle, hmax, (fun e => by cases e), fun ad e => ?_⟩
    obtain rfl := Option.some.inj e
    refine ⟨hb, fun j u hj => RowAt.of_heap hh j u ?_⟩
    rw [← htake] at hj
    rw [List.getElem?_take] at hj
    split at hj
    · exact hj
    · cases hj

/-! ### sources -/
/-- x is a slice of m elements, whose cells are news. -/
def Src (w : World) (size : Nat) (x : Value) (m : Nat) (news : List Value) : Prop :=
  news.length = m * size ∧ (∀ u ∈ news, u.oneCell' = true) ∧ ((x = .slice none 0 0 ∧ m = 0) ∨ ∃ ad c, x = .slice (some ad) m c ∧ RowAt w ad news)
theorem Src.below {w w' : World} {size m : Nat} {x : Value} {news : List Value} (h : Src w size x m news) (k : Below w.heap.size w w') : Src w' size x m news :=
  ⟨h.1, h.2.1, h.2.2.imp id fun ⟨ad, c, e, hr⟩ => ⟨ad, c, e, hr.below k⟩⟩
/-- a slice literal's box. -/
theorem Src.new (X : World) (cs : Array Value) (T size m c : Nat) (hl : cs.size = m * size) (h1 : ∀ u ∈ cs.toList, u.oneCell' = true) : Src (X.alloc (.cells cs T)) size (.slice (some ⟨X.heap.size, 0, none⟩) m c) m cs.toList :=
  ⟨by simpa using hl, h1, .inr ⟨_, _, rfl, RowAt.new X cs T⟩⟩

theorem Src.at {X : World} {g : Nat} {cs : Array Value} {T : TypeId} (h : X.heap[g]? = some (.cells cs T)) (size m c : Nat) (hl : cs.size = m * size) (h1 : ∀ u ∈ cs.toList, u.oneCell' = true) : Src X size (.slice (some ⟨g, 0, none⟩) m c) m cs.toList :=
  ⟨by simpa using hl, h1, .inr ⟨_, _, rfl, RowAt.of_heap h⟩⟩
theorem own_at {X : World} {g base E size : Nat} (h : X.heap[g]? = some (.cells #[] E)) (hb : base ≤ g) : X.ownsRow base E size (.slice (some ⟨g, 0, none⟩) 0 0) 0 [] := ⟨by simp, .inr ⟨g, 0, #[], rfl, hb, h, by omega, by decide, by simp, by simp⟩⟩
theorem heap_kept {X Y : World} {g : Nat} {r : Option Nat} {o : Obj} (h : X.heap[g]? = some o) (hg : X.grownBy Y r) (hne : some g ≠ r) : Y.heap[g]? = some o := by
  have hlt : g < X.heap.size := by
    rcases Nat.lt_or_ge g X.heap.size with h' | h'
    · exact h'
    · rw [Array.getElem?_eq_none h'] at h; cases h
  exact (hg.block g hlt hne).trans h
/-- what the laws ask of a slice's type. -/
structure SliceOf (P : Program) (t e : TypeId) (size bytes : Nat) : Prop where
  und : P.underlying t = some (.slice e)
  info : ∃ i z, P.info? e = some i ∧ i.zero = some z ∧ i.size = size ∧ i.bytes = bytes ∧ z.cells.size = size
  pos : 0 < size
theorem sliceOf {P : Program} {t e : TypeId} {size bytes : Nat} {z : Value} (hu : P.underlying t = some (.slice e)) (hi : (P.info? e).map (fun i => (i.zero, i.size, i.bytes)) = some (some z, size, bytes)) (hz : z.cells.size = size) (hp : 0 < size) : SliceOf P t e size bytes := by
  obtain ⟨i0, h1, h2, h3, h4⟩ := info_parts hi
  exact ⟨hu, ⟨i0, z, h1, h2, h3, h4, hz⟩, hp⟩

section
variable {P : Program} {w : World} {t e : TypeId} {size bytes : Nat}
theorem run_app (S : SliceOf P t e size bytes) (ty : TypeId) {base n m : Nat} {v x : Value} {xs news : List Value} (hown : w.ownsRow base e size v n xs) (hsrc : Src w size x m news)
    (h63 : n + m ≤ maxLen) (hbytes : (n + m) * bytes ≤ 140737488355328) (hbase : base ≤ w.heap.size) :
    ∃ v' w', (Builtin.append_ #[t, t] ty #[v, x]).run P w = .ok v' w' ∧ w'.ownsRow base e size v' (n + m) (xs ++ news) ∧ Below base w w' ∧ w.grownBy w' v.ownBlock := by
  obtain ⟨i, z, hi, hz, h1, h2, h3⟩ := S.info
  obtain ⟨hl, hone, hx⟩ := hsrc
  rcases hx with ⟨rfl, rfl⟩ | ⟨ad, c, rfl, hrow⟩
  · have hn : news = [] := List.eq_nil_of_length_eq_zero (by simpa using hl)
    subst hn
    exact ⟨v, w, run_append_owned_none w base t ty e i size S.und hi v n xs hown, by simpa using hown, Below.refl _ _, ⟨rfl, rfl, rfl, Nat.le_refl _, fun _ _ _ => rfl⟩⟩
  · obtain ⟨v', w', hr, ho, hg, _⟩ := run_append_own w base t ty e i z size bytes S.und hi hz h1 h2 h3 S.pos v n xs hown ad m c news hl hrow hone h63 hbytes hbase
    exact ⟨v', w', hr, ho, bgrown (Below.refl _ _) hbase hg (own_blk hown), hg⟩
theorem wp_app (S : SliceOf P t e size bytes) {o : Oper} {a : Act} {K : Act → World → Prop} {Q : Exit → Act → World → Prop} (s x : Operand)
    (ho : o.op = .call { callee := .builtin .append, args := #[s, x], argTypes := #[t, t] })
    {base n m : Nat} {v xv : Value} {xs news : List Value} (hs : a.eval s = v) (hown : w.ownsRow base e size v n xs) (hx : a.eval x = xv) (hsrc : Src w size xv m news)
    (h63 : n + m ≤ maxLen) (hbytes : (n + m) * bytes ≤ 140737488355328) (hbase : base ≤ w.heap.size)
    (h : ∀ v' w', w'.ownsRow base e size v' (n + m) (xs ++ news) → Below base w w' → w.grownBy w' v.ownBlock → K (a.put o.dst v') w') : o.wp P a w K Q := by
  obtain ⟨v', w', hr, h2, h3, h4⟩ := run_app S o.type hown hsrc h63 hbytes hbase
  unfold Oper.wp execOp
  simp only [ho, resolve, invoke, builtin, Sem.run_bind, Sem.run_pure, Result.andThen_ok, List.map_toArray, List.map_cons, List.map_nil, hs, hx, hr]
  exact h v' w' h2 h3 h4
/-- append, at the list of a region's operations. -/
theorem list_app (S : SliceOf P t e size bytes) {ops : Array Oper} {rest : List Oper} {o : Oper} {a : Act} {Q : Exit → Act → World → Prop} (hgd : o.guard = none) (s x : Operand)
    (ho : o.op = .call { callee := .builtin .append, args := #[s, x], argTypes := #[t, t] })
    {base n m : Nat} {v xv : Value} {xs news : List Value} (hs : a.eval s = v) (hown : w.ownsRow base e size v n xs) (hx : a.eval x = xv) (hsrc : Src w size xv m news)
    (h63 : n + m ≤ maxLen) (hbytes : (n + m) * bytes ≤ 140737488355328) (hbase : base ≤ w.heap.size)
    (h : ∀ v' w', w'.ownsRow base e size v' (n + m) (xs ++ news) → Below base w w' → w.grownBy w' v.ownBlock → wpList P ops Q rest (a.put o.dst v') w') : wpList P ops Q (o :: rest) a w :=
  wpList_plain hgd fun _ hK => wp_app S s x ho hs hown hx hsrc h63 hbytes hbase fun v' w' h2 h3 h4 => hK _ _ (h v' w' h2 h3 h4)
/-- append, at a step of a region that draws its order. -/
theorem step_app (S : SliceOf P t e size bytes) {ops : Array Oper} {o : Oper} {a : Act} {K : Act → World → Prop} {Q : Exit → Act → World → Prop} {E : Prop} (hgd : o.guard = none) (s x : Operand)
    (ho : o.op = .call { callee := .builtin .append, args := #[s, x], argTypes := #[t, t] })
    {base n m : Nat} {v xv : Value} {xs news : List Value} (hs : a.eval s = v) (hown : w.ownsRow base e size v n xs) (hx : a.eval x = xv) (hsrc : Src w size xv m news)
    (h63 : n + m ≤ maxLen) (hbytes : (n + m) * bytes ≤ 140737488355328) (hbase : base ≤ w.heap.size)
    (h : ∀ v' w', w'.ownsRow base e size v' (n + m) (xs ++ news) → Below base w w' → w.grownBy w' v.ownBlock → K (a.put o.dst v') w') :
    if Region.wanted o (yielded ops a.tmps) = true then Oper.wp P o a w K Q else E := by
  have hw : Region.wanted o (yielded ops a.tmps) = true := by simp [Region.wanted, hgd]
  rw [if_pos hw]
  exact wp_app S s x ho hs hown hx hsrc h63 hbytes hbase h
end
/-! ### worlds in which one old block may have turned -/
abbrev But (b : Nat) (w w' : World) : Prop := w.grownBy w' (some b)
theorem But.refl (b : Nat) (w : World) : But b w w := ⟨rfl, rfl, rfl, Nat.le_refl _, fun _ _ _ => rfl⟩
theorem But.trans {b : Nat} {x y z : World} (h : But b x y) (k : But b y z) : But b x z :=
  ⟨k.os.trans h.os, k.tape.trans h.tape, k.output.trans h.output, Nat.le_trans h.size k.size, fun i hi hne => (k.block i (Nat.lt_of_lt_of_le hi h.size) hne).trans (h.block i hi hne)⟩
theorem But.of_below {b : Nat} {x y : World} (h : Below x.heap.size x y) : But b x y := ⟨h.os, h.tape, h.output, h.size, fun i hi _ => h.block i hi⟩
theorem But.below {b : Nat} {x y z : World} (h : But b x y) (k : Below y.heap.size y z) : But b x z := h.trans (But.of_below k)
theorem But.alloc {b : Nat} {x y : World} (h : But b x y) (o : Obj) : But b x (y.alloc o) := h.below (balloc (Below.refl _ _) o)
theorem But.drewN {b : Nat} {x y : World} (h : But b x y) (n : Nat) : But b x (y.drewN n) := h.below (bdrewN (Below.refl _ _) n)
theorem But.drew {b : Nat} {x y : World} (h : But b x y) : But b x y.drew := h.below (Below.refl _ _).drew
theorem But.setCell {b : Nat} {x y : World} (h : But b x y) (o : Nat) (v : Value) : But b x (y.setCell ⟨b, o, none⟩ v) :=
  h.trans ⟨rfl, rfl, rfl, by simp [World.setCell], fun i _ hne => Below.heap_setCell _ _ _ _ (fun e => hne (by rw [e]))⟩
theorem But.cell {b : Nat} {x y : World} (h : But b x y) {p : Addr} {v : Value} (hp : p.block ≠ b) (hc : x.cell? p = some v) : y.cell? p = some v :=
  (World.cell?_of_block (h.block _ (lt_of_cell hc) (fun e => hp (Option.some.inj e)))).trans hc
theorem But.frozen {b : Nat} {x y : World} (h : But b x y) {p : Addr} {v : Value} {f : Bool} (hp : p.block ≠ b) (hc : x.cell? p = some v) (hf : x.frozen? p = f) : y.frozen? p = f :=
  (World.frozen?_of_block (h.block _ (lt_of_cell hc) (fun e => hp (Option.some.inj e)))).trans hf
/-- a block made behind x is free to turn. -/
theorem But.fresh {b B : Nat} {x y z : World} (h : Below B x y) (hB : B ≤ b) (hby : B ≤ y.heap.size) (k : But b y z) : Below B x z := h.grown k hby (fun _ e => by cases e; exact hB)
end Go.Proofs.YtkjajlolfcioiaaGreatDoor.Own
