/- Slices of integers of one's own, known whole; sets of integers. Laws over any program. -/
import Derived.Test.YtkjajlolfcioiaaGreatDoorYMp
namespace Go.Proofs.YtkjajlolfcioiaaGreatDoor.Ints
open Go Go.RowKit Go.MapKept Go.Proofs.YtkjajlolfcioiaaGreatDoor.Own Go.Proofs.YtkjajlolfcioiaaGreatDoor.Mp

/-- block g is just these integers. -/
def Ints (X : World) (T : TypeId) (g : Nat) (L : List Int) : Prop := X.heap[g]? = some (.cells (L.map (Value.int .i64)).toArray T)
section
variable {X Y : World} {T : TypeId} {g : Nat} {L : List Int}
theorem Ints.lt (h : Ints X T g L) : g < X.heap.size := by
  rcases Nat.lt_or_ge g X.heap.size with h' | h'
  · exact h'
  · unfold Ints at h; rw [Array.getElem?_eq_none h'] at h; cases h
theorem Ints.below (h : Ints X T g L) (k : Below X.heap.size X Y) : Ints Y T g L := (k.block g h.lt).trans h
theorem Ints.but {b : Nat} (h : Ints X T g L) (k : But b X Y) (hne : g ≠ b) : Ints Y T g L := (k.block g h.lt (fun e => hne (Option.some.inj e))).trans h
theorem Ints.drewN (h : Ints X T g L) (n : Nat) : Ints (X.drewN n) T g L := h
theorem Ints.alloc (h : Ints X T g L) (o : Obj) : Ints (X.alloc o) T g L := heap_up h
theorem Ints.cell (h : Ints X T g L) {i : Nat} {x : Int} (hx : L[i]? = some x) : X.cell? ⟨g, i, none⟩ = some (.int .i64 x) := by
  rw [cell_of_row _ _ _ _ _ _ h]
  simp [hx]
theorem Ints.frozen (h : Ints X T g L) (i : Nat) : X.frozen? ⟨g, i, none⟩ = false := by
  unfold Ints at h
  simp [World.frozen?, h]
theorem Ints.set (h : Ints X T g L) (i : Nat) (v : Int) : Ints (X.setCell ⟨g, i, none⟩ (.int .i64 v)) T g (L.set i v) := by
  have hlt := h.lt
  unfold Ints at h ⊢
  have hx : X.heap[g]'hlt = .cells (L.map (Value.int .i64)).toArray T := by
    rw [Array.getElem?_eq_getElem hlt] at h
    exact Option.some.inj h
  simp [World.setCell, hlt, List.map_set]
  rw [Array.getElem_modify]
  simp [hx]
theorem Ints.but_set (X : World) (g i : Nat) (v : Value) : But g X (X.setCell ⟨g, i, none⟩ v) := (But.refl g X).setCell i v
theorem Ints.of_own {base n : Nat} {L : List Int} (h : X.ownsRow base T 1 (.slice (some ⟨g, 0, none⟩) n n) n (L.map (Value.int .i64))) : Ints X T g L := by
  rcases h.2 with ⟨e, _⟩ | ⟨g', cap, cur, e, hb, hh, hle, hmax, hsz, htake⟩
  · cases e
  · obtain ⟨rfl, rfl⟩ : g = g' ∧ n = cap := by simpa using e
    unfold Ints
    rw [hh]
    have : cur.toList = L.map (Value.int .i64) := by
      rw [← htake, List.take_of_length_le (by simp; omega)]
    have hc : cur = (L.map (Value.int .i64)).toArray := by rw [← this]
    rw [hc]
end
/-- a set of integers, as a map's contents. -/
def setF (S : List Int) (v : Value) : Option Value := match v with | .int .i64 k => if k ∈ S then some (.agg #[]) else none | _ => none
abbrev IntSet (X : World) (b : Nat) (S : List Int) : Prop := MapF X (.int .i64) b (setF S)
theorem setF_in (S : List Int) (k : Int) : setF (S ++ [k]) (.int .i64 k) = some (.agg #[]) := by simp [setF]
theorem setF_other (S : List Int) (k : Int) (x : Value) (h : x ≠ .int .i64 k) : setF (S ++ [k]) x = setF S x := by
  cases x <;> try rfl
  rename_i q n
  cases q <;> try rfl
  have hn : n ≠ k := fun e => h (by rw [e])
  simp [setF, hn]
theorem setF_is (S : List Int) (k : Int) : (setF S (.int .i64 k)).isSome = decide (k ∈ S) := by
  by_cases h : k ∈ S <;> simp [setF, h]
theorem setF_get (S : List Int) (k : Int) : (setF S (.int .i64 k)).getD (.agg #[]) = .agg #[] := by
  by_cases h : k ∈ S <;> simp [setF, h]
theorem IntSet.made (X : World) : IntSet (X.alloc (.map #[] 0)) X.heap.size [] := (MapF.made X _).congr fun k => by
  cases k <;> try rfl
  rename_i q n
  cases q <;> simp [setF]
end Go.Proofs.YtkjajlolfcioiaaGreatDoor.Ints
