/- layer 9's arguments, as they are read: a slice of spans, and that a nil one has no room. -/
import Derived.Test.YtdmflbdcfnpikaaHandRows
namespace Go.Proofs.Ytdmflbdcfnpikaa.Hand
open Go.RowKit Go.ChangeShapes Go.WideShapes Go.ChangeAt Go.Joins Go.Proofs.Ytdmflbdcfnpikaa Go.Proofs.Ytdmflbdcfnpikaa.Spans
variable {H : Type} {enc : TypeId × Value → H} {W : World}
theorem open_spans2 {v : Value} {d : DataW H} {p : List MemPlace} (hv : Value.okWide Try.prog W .any 0 24 v) (h : DataW.Trod enc Try.prog W 0 (fun _ => true) true 24 v d p) :
    ∃ (A : Option Addr) (cap : Nat) (l : List Sp), v = .slice A l.length cap ∧ l.length ≤ 9223372036854775807 ∧ RdSp W A l ∧ (A = none → cap = 0) := by
  obtain ⟨A, cap, l, rfl, hl, hr⟩ := open_spans h hv
  refine ⟨A, cap, l, rfl, hl, hr, fun e => ?_⟩
  subst e
  obtain ⟨fuel, hf⟩ := h
  rcases Go.Deep.open_slice_pairs Try.underlying24 Try.underlying34 cells34 rfl rfl cells3 cells3 hf with ⟨h1, h2⟩ | ⟨a, len', cap', m, n, V0, V1, D0, D1, P0, P1, hcs, _⟩
  · have h1' : ([Value.slice none l.length cap] : List Value) = [.slice none 0 0] := h1
    simp only [List.cons.injEq, Value.slice.injEq, and_true] at h1'
    exact h1'.2.2
  · have h1' : ([Value.slice none l.length cap] : List Value) = [.slice (some a) len' cap'] := hcs
    simp at h1'
end Go.Proofs.Ytdmflbdcfnpikaa.Hand
