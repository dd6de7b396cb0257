/- rows of parts that came in, and numbers: from their reading to the walks' facts. -/
import Derived.Test.YtkjajlolfcioiaaGreatDoorYRowPlan
import Derived.Test.YtkjajlolfcioiaaGreatDoorYCtlLy
namespace Go.Proofs.YtkjajlolfcioiaaGreatDoor.Rw
open Go Go.Lib Go.Joins Go.RowKit Go.ChangeShapes Go.WideShapes Go.Proofs.YtkjajlolfcioiaaGreatDoor.Check Go.Proofs.YtkjajlolfcioiaaGreatDoor.Plan Go.Proofs.YtkjajlolfcioiaaGreatDoor.Ctl Go.Proofs.YtkjajlolfcioiaaGreatDoor.Control
set_option maxRecDepth 100000
variable {H : Type} {enc : TypeId × Value → H} {W : World}
theorem prow_each (n : Nat) (cs : List Value) (y : DataW H × List MemPlace) (h : DataW.trod enc Tryz.prog W 0 (fun _ => true) true n 53 cs = some y) (hz : SizesOk 53 y.1) : ∃ a : PRow, cs = [a.v] ∧ PartsAt W a.v a.parts := by
  rcases Go.Deep.open_slice Tryz.underlying53 h with ⟨h1, -⟩ | ⟨a, len, cap, m', n, D, Pl, h1, -⟩
  · subst h1
    obtain ⟨l, hl⟩ := parts_open h hz
    exact ⟨⟨_, l⟩, rfl, hl⟩
  · subst h1
    obtain ⟨l, hl⟩ := parts_open h hz
    exact ⟨⟨_, l⟩, rfl, hl⟩
theorem rows_flat : ∀ l : List PRow, l.flatMap (fun x => [x.v]) = l.map (·.v)
  | [] => rfl
  | x :: r => by rw [List.flatMap_cons, List.map_cons, rows_flat r]; rfl
/-- ROWS OF PARTS THAT CAME IN. -/
theorem open_prows {v : Value} {d : DataW H} {p : List MemPlace} (hv : Value.okWide Tryz.prog W .any 0 64 v) (h : DataW.Trod enc Tryz.prog W 0 (fun _ => true) true 64 v d p) (hsz : SizesOk 64 d) :
    ∃ l : List PRow, SliceAt W v l.length (l.map (·.v)) ∧ (∀ x ∈ l, PartsAt W x.v x.parts) := by
  obtain ⟨a0, n, c, rfl⟩ := okWide_slice Tryz.underlying64 hv
  obtain ⟨fuel, hf⟩ := h
  have hf2 : DataW.trod enc Tryz.prog W 0 (fun _ => true) true fuel 64 [.slice a0 n c] = some (d, p) := hf
  obtain ⟨l, h1, h2, h3⟩ := open_rows (Good := fun x : PRow => PartsAt W x.v x.parts) ⟨.slice none 0 0, []⟩ (fun x : PRow => [x.v]) Tryz.underlying64 cParts (by decide) (fun _ => rfl) hf2 hsz prow_each
  exact ⟨l, by rw [← rows_flat]; exact h1, h2⟩
end Go.Proofs.YtkjajlolfcioiaaGreatDoor.Rw
