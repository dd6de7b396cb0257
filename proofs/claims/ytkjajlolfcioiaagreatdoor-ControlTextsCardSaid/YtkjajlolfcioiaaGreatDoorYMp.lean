/- Maps with plain keys, of whatever elements: laws over any program. -/
import Derived.Test.YtkjajlolfcioiaaGreatDoorYOwn
import Derived.Maps.RangeWalk
import Derived.Maps.OwnSet
import Derived.BigFrame
namespace Go.Proofs.YtkjajlolfcioiaaGreatDoor.Mp
open Go Go.RowKit Go.MapKept Go.Proofs.YtkjajlolfcioiaaGreatDoor.Own

/-- block b is a map, keyed by d, that holds just what f says. -/
def MapF (w : World) (d : TypeDesc) (b : Nat) (f : Value → Option Value) : Prop :=
  ∃ es clock, w.heap[b]? = some (.map es clock) ∧ Stamped es clock ∧ (∀ x ∈ es.toList, IsKey d x.key) ∧ (∀ x ∈ es.toList, f x.key = some x.val) ∧ ∀ k v, f k = some v → ∃ x ∈ es.toList, x.key = k

theorem MapF.lt {w : World} {d : TypeDesc} {b : Nat} {f : Value → Option Value} (h : MapF w d b f) : b < w.heap.size := by
  obtain ⟨es, clock, hb, _⟩ := h
  exact (Array.getElem?_eq_some_iff.1 hb).1
theorem MapF.block {w w' : World} {d : TypeDesc} {b : Nat} {f : Value → Option Value} (h : MapF w d b f) (e : w'.heap[b]? = w.heap[b]?) : MapF w' d b f := by
  obtain ⟨es, clock, hb, r⟩ := h
  exact ⟨es, clock, e.trans hb, r⟩
theorem MapF.below {w w' : World} {d : TypeDesc} {b : Nat} {f : Value → Option Value} (h : MapF w d b f) (k : Below w.heap.size w w') : MapF w' d b f := h.block (k.block b h.lt)
theorem MapF.but {w w' : World} {d : TypeDesc} {b c : Nat} {f : Value → Option Value} (h : MapF w d b f) (k : But c w w') (hne : b ≠ c) : MapF w' d b f := h.block (k.block b h.lt (fun e => hne (Option.some.inj e)))
theorem MapF.drewN {w : World} {d : TypeDesc} {b : Nat} {f : Value → Option Value} (h : MapF w d b f) (n : Nat) : MapF (w.drewN n) d b f := h
theorem MapF.made (w : World) (d : TypeDesc) : MapF (w.alloc (.map #[] 0)) d w.heap.size (fun _ => none) :=
  ⟨#[], 0, heap_new w _, stamped_empty 0, by simp, by simp, by simp⟩
theorem MapF.congr {w : World} {d : TypeDesc} {b : Nat} {f g : Value → Option Value} (h : MapF w d b f) (e : ∀ k, f k = g k) : MapF w d b g := by
  have : f = g := funext e
  exact this ▸ h

section
variable {P : Program} {w : World} {d : TypeDesc} {b : Nat} {f : Value → Option Value} {t k e : TypeId}
theorem MapF.find (h : MapF w d b f) (hd : P.underlying k = some d) {key : Value} (hk : IsKey d key) :
    ∃ es clock, w.heap[b]? = some (.map es clock) ∧ ((Instr.findKey k key es.toList).run P w = .ok none w ∧ f key = none ∧ (∀ x ∈ es.toList, x.key ≠ key) ∨ ∃ j e0, (Instr.findKey k key es.toList).run P w = .ok (some (j, e0.val)) w ∧ es[j]? = some e0 ∧ e0.key = key ∧ f key = some e0.val) := by
  obtain ⟨es, clock, hb, hs, hks, h1, h2⟩ := h
  refine ⟨es, clock, hb, ?_⟩
  rcases findNow_spec hk es.toList 0 hks with ⟨q1, q2⟩ | ⟨j, e0, q1, q2, q3⟩
  · refine .inl ⟨run_findKey hd q1, ?_, q2⟩
    rcases hf : f key with _ | v
    · rfl
    · obtain ⟨x, hx, hxk⟩ := h2 key v hf
      exact absurd hxk (q2 x hx)
  · refine .inr ⟨j, e0, by simpa using run_findKey hd q1, by simpa using q2, q3, ?_⟩
    rw [← q3]
    exact h1 e0 (List.mem_of_getElem? q2)
/-- a look-up. -/
theorem MapF.lookup (h : MapF w d b f) (ht : P.underlying t = some (.map k e)) (hd : P.underlying k = some d) {z : Value} (hz : (zeroValue e).run P w = .ok z w) {key : Value} (hk : IsKey d key) (c : Bool) :
    (Instr.lookup t (.map (some b)) key c).run P w = .ok (if c then .tuple #[(f key).getD z, .bool (f key).isSome] else (f key).getD z) w := by
  obtain ⟨es, clock, hb, hq⟩ := h.find hd hk
  rcases hq with ⟨q1, q2, _⟩ | ⟨j, e0, q1, q2, q3, q4⟩
  · rw [q2]
    cases c <;> simp [Instr.lookup, run_underlying ht, MapKept.run_getObj_map hb, run_checkKey hd hk, q1, hz, Result.andThen]
  · rw [q4]
    cases c <;> simp [Instr.lookup, run_underlying ht, MapKept.run_getObj_map hb, run_checkKey hd hk, q1, Result.andThen]
/-- of no map. -/
theorem look_nil (w : World) (ht : P.underlying t = some (.map k e)) (hd : P.underlying k = some d) {z : Value} (hz : (zeroValue e).run P w = .ok z w) {key : Value} (hk : IsKey d key) (c : Bool) :
    (Instr.lookup t (.map none) key c).run P w = .ok (if c then .tuple #[z, .bool false] else z) w := by
  have hf : (Instr.findKey k key []).run P w = .ok none w := run_findKey hd (by cases d <;> cases key <;> simp_all [IsKey, Instr.findNow])
  cases c <;> simp [Instr.lookup, run_underlying ht, run_checkKey hd hk, hf, hz, Result.andThen]
theorem but_setBlock (w : World) (b : Nat) (o : Obj) : But b w (ChangeMaps.setBlock w b o) :=
  ⟨rfl, rfl, rfl, by simp [ChangeMaps.setBlock], fun i _ hi => by
    have : i ≠ b := fun e => hi (by rw [e])
    simp [ChangeMaps.setBlock, Ne.symm this]⟩
/-- a store. -/
theorem MapF.update (h : MapF w d b f) (ht : P.underlying t = some (.map k e)) (hd : P.underlying k = some d) {key : Value} (hk : IsKey d key) (val : Value) (g : Value → Option Value) (hg1 : g key = some val) (hg2 : ∀ x, x ≠ key → g x = f x) :
    ∃ w', (Instr.mapUpdate t (.map (some b)) key val).run P w = .ok () w' ∧ MapF w' d b g ∧ But b w w' := by
  obtain ⟨es0, clock0, hb0, hs, hks, h1, h2⟩ := id h
  obtain ⟨es, clock, hb, hq⟩ := h.find hd hk
  rw [hb0] at hb
  cases hb
  have hlt := h.lt
  have hset : ∀ o, (ChangeMaps.setBlock w b o).heap[b]? = some o := fun o => by simp [ChangeMaps.setBlock, hlt]
  rcases hq with ⟨q1, q2, q3⟩ | ⟨j, e0, q1, q2, q3, q4⟩
  · refine ⟨ChangeMaps.setBlock w b (.map (es0.push { key, val, born := clock0 }) (clock0 + 1)), ?_, ⟨_, _, hset _, stamped_push hs q3, ?_, ?_, ?_⟩, but_setBlock _ _ _⟩
    · simp [Instr.mapUpdate, run_underlying ht, MapKept.run_getObj_map hb0, run_checkKey hd hk, q1, MapKept.run_setObj_map _ hb0, Result.andThen, ChangeMaps.setBlock]
    · intro x hx
      simp only [Array.toList_push, List.mem_append, List.mem_singleton] at hx
      rcases hx with hx | rfl
      · exact hks x hx
      · exact hk
    · intro x hx
      simp only [Array.toList_push, List.mem_append, List.mem_singleton] at hx
      rcases hx with hx | rfl
      · rw [hg2 _ (q3 x hx)]
        exact h1 x hx
      · exact hg1
    · intro x v hx
      by_cases e : x = key
      · exact ⟨⟨key, val, clock0⟩, by simp, e.symm⟩
      · rw [hg2 _ e] at hx
        obtain ⟨y, hy, hyk⟩ := h2 x v hx
        exact ⟨y, by simp [hy], hyk⟩
  · have hkey : ∀ e', es0[j]? = some e' → ({ e' with key := key, val := val } : MapEntry).key = e'.key := fun e' he' => by rw [q2] at he'; cases he'; exact q3.symm
    have hlist : (es0.modify j (fun e' => { e' with key := key, val := val })).toList = es0.toList.set j { e0 with key := key, val := val } := by rw [Array.toList_modify, ChangeMaps.modify_eq_set _ _ _ _ (by simpa using q2)]
    have hjl : j < es0.toList.length := by
      have := (Array.getElem?_eq_some_iff.1 q2).1
      simpa using this
    have hother : ∀ x ∈ es0.toList.set j { e0 with key := key, val := val }, x = { e0 with key := key, val := val } ∨ (x ∈ es0.toList ∧ x.key ≠ key) := by
      intro x hx
      obtain ⟨i, hi, hxi⟩ := List.mem_iff_getElem.1 hx
      by_cases e : i = j
      · left
        subst e
        rw [← hxi]
        simp
      · right
        have hi' : i < es0.toList.length := by simpa using hi
        have hx2 : es0.toList[i] = x := by rw [← hxi, List.getElem_set_ne (Ne.symm e)]
        refine ⟨hx2 ▸ List.getElem_mem hi', fun hk2 => e ?_⟩
        have hp := (stamped_iff _ _).1 hs |>.2.2
        have hpj : es0.toList[j].key = key := by
          have : es0.toList[j]? = some e0 := by simpa using q2
          rw [List.getElem?_eq_getElem hjl] at this
          rw [Option.some.inj this]
          exact q3
        rcases Nat.lt_trichotomy i j with hl | hl | hl
        · exact absurd (by rw [hpj, hx2]; exact hk2) (List.pairwise_iff_getElem.1 hp i j hi' hjl hl)
        · exact hl
        · exact absurd (by rw [hpj, hx2]; exact hk2.symm) (List.pairwise_iff_getElem.1 hp j i hjl hi' hl)
    refine ⟨ChangeMaps.setBlock w b (.map (es0.modify j fun e' => { e' with key := key, val := val }) clock0), ?_, ⟨_, _, hset _, stamped_modify hs _ _ (fun _ _ => rfl) (fun e' _ he' => hkey e' he'), isKey_modify hks _ _ hkey, ?_, ?_⟩, but_setBlock _ _ _⟩
    · simp [Instr.mapUpdate, run_underlying ht, MapKept.run_getObj_map hb0, run_checkKey hd hk, q1, q2, q3, run_keyThatStays hk, MapKept.run_setObj_map _ hb0, Result.andThen, ChangeMaps.setBlock]
    · intro x hx
      rw [hlist] at hx
      rcases hother x hx with rfl | ⟨hx1, hx2⟩
      · exact hg1
      · rw [hg2 _ hx2]
        exact h1 x hx1
    · intro x v hx
      rw [hlist]
      by_cases e : x = key
      · exact ⟨{ e0 with key := key, val := val }, List.mem_iff_getElem.2 ⟨j, by simpa using hjl, by simp⟩, e.symm⟩
      · rw [hg2 _ e] at hx
        obtain ⟨y, hy, hyk⟩ := h2 x v hx
        obtain ⟨i, hi, hyi⟩ := List.mem_iff_getElem.1 hy
        have hij : i ≠ j := fun e2 => by
          subst e2
          have : es0.toList[i]? = some e0 := by simpa using q2
          rw [List.getElem?_eq_getElem hi, hyi] at this
          rw [Option.some.inj this, q3] at hyk
          exact e hyk.symm
        exact ⟨y, List.mem_iff_getElem.2 ⟨i, by simpa using hi, by rw [List.getElem_set_ne (Ne.symm hij)]; exact hyi⟩, hyk⟩

variable {ops : Array Oper} {rest : List Oper} {o : Oper} {a : Act} {K : Act → World → Prop} {Q : Exit → Act → World → Prop}
theorem wp_look (h : MapF w d b f) (ht : P.underlying t = some (.map k e)) (hd : P.underlying k = some d) {z : Value} (hz : (zeroValue e).run P w = .ok z w) (m x : Operand) (c : Bool) (hop : o.op = Op.lookup t m x c)
    (hm : a.eval m = .map (some b)) {key : Value} (hx : a.eval x = key) (hk : IsKey d key) {v : Value} (hv : (if c then .tuple #[(f key).getD z, .bool (f key).isSome] else (f key).getD z) = v) (hK : K (a.put o.dst v) w) : o.wp P a w K Q := by
  have hr := h.lookup ht hd hz hk c
  rw [hv] at hr
  unfold Oper.wp
  simp [execOp, hop, hm, hx, hr, Result.andThen]
  exact hK
theorem list_look (h : MapF w d b f) (ht : P.underlying t = some (.map k e)) (hd : P.underlying k = some d) {z : Value} (hz : (zeroValue e).run P w = .ok z w) (hw : Region.wanted o (yielded ops a.tmps) = true) (m x : Operand) (c : Bool) (hop : o.op = Op.lookup t m x c)
    (hm : a.eval m = .map (some b)) {key : Value} (hx : a.eval x = key) (hk : IsKey d key) {v : Value} (hv : (if c then .tuple #[(f key).getD z, .bool (f key).isSome] else (f key).getD z) = v) (hK : wpList P ops Q rest (a.put o.dst v) w) : wpList P ops Q (o :: rest) a w :=
  BigFrame.wpList_want hw fun _ hK' => wp_look h ht hd hz m x c hop hm hx hk hv (hK' _ _ hK)
theorem list_put (h : MapF w d b f) (ht : P.underlying t = some (.map k e)) (hd : P.underlying k = some d) (hw : Region.wanted o (yielded ops a.tmps) = true) (m x y : Operand) (hop : o.op = Op.mapUpdate t m x y)
    (hm : a.eval m = .map (some b)) {key : Value} (hx : a.eval x = key) (hk : IsKey d key) {val : Value} (hy : a.eval y = val) (g : Value → Option Value) (hg1 : g key = some val) (hg2 : ∀ x, x ≠ key → g x = f x)
    (hK : ∀ w', MapF w' d b g → But b w w' → wpList P ops Q rest (a.put o.dst undef) w') : wpList P ops Q (o :: rest) a w := by
  refine BigFrame.wpList_want hw fun _ hK' => ?_
  obtain ⟨w', hr, r1, r2⟩ := h.update ht hd hk val g hg1 hg2
  unfold Oper.wp
  simp [execOp, hop, hm, hx, hy, hr, Result.andThen]
  exact hK' _ _ (hK w' r1 r2)
end

/-! ### keys that are strings, elements that are integers -/
def strF (g : List UInt8 → Option Int) (v : Value) : Option Value := match v with | .string s => (g s.data.toList).map (Value.int .i64) | _ => none
abbrev StrMap (w : World) (b : Nat) (g : List UInt8 → Option Int) : Prop := MapF w .string b (strF g)
def strPut (g : List UInt8 → Option Int) (s : List UInt8) (n : Int) : List UInt8 → Option Int := fun x => if x = s then some n else g x
theorem strF_put (g : List UInt8 → Option Int) (s : ByteArray) (n : Int) : strF (strPut g s.data.toList n) (.string s) = some (.int .i64 n) := by simp [strF, strPut]
theorem strF_other (g : List UInt8 → Option Int) (s : ByteArray) (n : Int) (x : Value) (h : x ≠ .string s) : strF (strPut g s.data.toList n) x = strF g x := by
  cases x <;> try rfl
  rename_i z
  have hz : z.data.toList ≠ s.data.toList := fun e => h (by
    have : z = s := by
      cases z; cases s
      simpa using e
    rw [this])
  simp [strF, strPut, hz]
theorem strF_get (g : List UInt8 → Option Int) (s : ByteArray) : (strF g (.string s)).getD (.int .i64 0) = .int .i64 ((g s.data.toList).getD 0) := by
  simp only [strF]
  cases g s.data.toList <;> rfl
theorem strF_some (g : List UInt8 → Option Int) (s : ByteArray) : (strF g (.string s)).isSome = (g s.data.toList).isSome := by
  simp only [strF]
  cases g s.data.toList <;> rfl
theorem StrMap.made (w : World) : StrMap (w.alloc (.map #[] 0)) w.heap.size (fun _ => none) := (MapF.made w .string).congr fun k => by cases k <;> rfl
end Go.Proofs.YtkjajlolfcioiaaGreatDoor.Mp
