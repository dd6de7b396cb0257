/- layer 9's arguments, as they are read: windows, spans. -/
import Derived.Test.YtdmflbdcfnpikaaHandParts
import Derived.WalkKit
import Derived.ProofKit
import Derived.OpenShut
import Derived.ChangeOld
import Derived.Below
import Derived.SizedLaws
import Derived.Carry
import Derived.Lib.SmallJoins
import Derived.Deep.SlicePairs
namespace Go.Proofs.Ytdmflbdcfnpikaa.Hand
open Go.RowKit Go.ChangeShapes Go.WideShapes Go.ChangeAt Go.Joins Go.Proofs.Ytdmflbdcfnpikaa Go.Proofs.Ytdmflbdcfnpikaa.Spans

theorem laidOut : laidOutB Try.prog = true := by kernel_rfl
theorem cells23 : Try.prog.cellsOf 23 = 3 := by kernel_rfl
theorem cells34 : Try.prog.cellsOf 34 = 2 := by kernel_rfl
theorem cells3 : Try.prog.cellsOf 3 = 1 := by kernel_rfl
section
variable {H : Type} {enc : TypeId × Value → H} {W : World}
theorem open_win {r : Reach} {b0 : Nat} {v : Value} {d : DataW H} {p : List MemPlace} (hv : Value.okWide Try.prog W r b0 23 v) (h : DataW.Trod enc Try.prog W 0 (fun _ => true) true 23 v d p) :
    ∃ k s l : Int, v = win k s l := by
  obtain ⟨v0, v1, v2, y0, y1, y2, n, rfl, rfl, rfl, h0, h1, h2⟩ := open_agg3 Try.underlying23 (by kernel_rfl) cells23 hv h
  obtain ⟨a0, e0, rfl, w0⟩ := DataW.trod_int Try.underlying3 h0
  obtain ⟨a1, e1, rfl, w1⟩ := DataW.trod_int Try.underlying3 h1
  obtain ⟨a2, e2, rfl, w2⟩ := DataW.trod_int Try.underlying3 h2
  simp at e0 e1 e2
  subst e0 e1 e2
  exact ⟨a0, a1, a2, rfl⟩
theorem open_span {r : Reach} {b0 : Nat} {v : Value} {d : DataW H} {p : List MemPlace} (hv : Value.okWide Try.prog W r b0 34 v) (h : DataW.Trod enc Try.prog W 0 (fun _ => true) true 34 v d p) :
    ∃ x : Sp, v = .agg #[.int .i64 x.1, .int .i64 x.2] := by
  obtain ⟨v0, v1, y0, y1, n, rfl, rfl, rfl, h0, h1⟩ := open_agg2 Try.underlying34 (by kernel_rfl) cells34 hv h
  obtain ⟨a0, e0, rfl, w0⟩ := DataW.trod_int Try.underlying3 h0
  obtain ⟨a1, e1, rfl, w1⟩ := DataW.trod_int Try.underlying3 h1
  simp at e0 e1
  subst e0 e1
  exact ⟨(a0, a1), rfl⟩
theorem open_spans {v : Value} {d : DataW H} {p : List MemPlace} (h : DataW.Trod enc Try.prog W 0 (fun _ => true) true 24 v d p) (hv : Value.okWide Try.prog W .any 0 24 v) :
    ∃ (A : Option Addr) (cap : Nat) (l : List Sp), v = .slice A l.length cap ∧ l.length ≤ 9223372036854775807 ∧ RdSp W A l := by
  obtain ⟨a0, len, cap, rfl⟩ := okWide_slice Try.underlying24 hv
  obtain ⟨fuel, hf⟩ := h
  rcases Go.Deep.open_slice_pairs Try.underlying24 Try.underlying34 cells34 rfl rfl cells3 cells3 hf with ⟨h1, h2⟩ | ⟨a, len', cap', m, n, V0, V1, D0, D1, P0, P1, hcs, _, hl, hm, hmm, _, hx⟩
  · have h1' : ([Value.slice a0 len cap] : List Value) = [.slice none 0 0] := h1
    simp only [List.cons.injEq, Value.slice.injEq, and_true] at h1'
    obtain ⟨rfl, rfl, rfl⟩ := h1'
    exact ⟨none, 0, [], rfl, by simp, fun j x hj => by cases hj⟩
  · have h1' : ([Value.slice a0 len cap] : List Value) = [.slice (some a) len' cap'] := hcs
    simp only [List.cons.injEq, Value.slice.injEq, and_true] at h1'
    obtain ⟨rfl, rfl, rfl⟩ := h1'
    have hm2 : m = cap := by rw [hmm]; rfl
    have each : ∀ i, i < len → ∃ q : Sp, W.cell? (a.add (i * 2)) = some (.int .i64 q.1) ∧ W.cell? (a.add (i * 2 + 1)) = some (.int .i64 q.2) := by
      intro i hi
      obtain ⟨c0, c1, t0, t1⟩ := hx i (by omega)
      obtain ⟨x0, e0, _, _⟩ := DataW.trod_int Try.underlying3 t0
      obtain ⟨x1, e1, _, _⟩ := DataW.trod_int Try.underlying3 t1
      simp at e0 e1
      exact ⟨(x0, x1), by rw [c0, e0], by rw [c1, e1]⟩
    obtain ⟨q, hq⟩ := Go.Deep.choose_lt each
    refine ⟨some a, cap, (List.range len).map q, by simp, by simp; unfold maxLen at hm; omega, fun j x hj => ?_⟩
    rw [List.getElem?_map] at hj
    have hj2 : j < len := by
      apply Decidable.byContradiction
      intro hn
      rw [List.getElem?_eq_none (by simp; omega)] at hj
      cases hj
    rw [List.getElem?_range hj2] at hj
    simp only [Option.map_some, Option.some.injEq] at hj
    subst hj
    obtain ⟨g0, g1⟩ := hq j hj2
    refine ⟨a, rfl, g0, ?_⟩
    rw [← Go.Proofs.YtdmflbdcfnpikaaW.PrintWords.add_field a (j * 2) 1 (by omega)]
    exact g1
end
end Go.Proofs.Ytdmflbdcfnpikaa.Hand
