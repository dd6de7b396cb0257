/- graph: orders, walked. -/
import Derived.Test.YtkjajlolfcioiaaGreatDoorYGraphA
import Derived.WalkSpells
namespace Go.Proofs.YtkjajlolfcioiaaGreatDoor.Graph
open Go.RowKit Go.Proofs.YtkjajlolfcioiaaGreatDoor Go.Proofs.YtkjajlolfcioiaaGreatDoor.Own Go.Proofs.YtkjajlolfcioiaaGreatDoor.Tail Go.Proofs.YtkjajlolfcioiaaGreatDoor.Mp Go.Proofs.YtkjajlolfcioiaaGreatDoor.Ints Go.Proofs.YtkjajlolfcioiaaGreatDoor.Scan Go.Proofs.YtkjajlolfcioiaaGreatDoor.Plan Go.Proofs.YtkjajlolfcioiaaGreatDoor.Expr Go.Proofs.YtkjajlolfcioiaaGreatDoor.Check Go.Lib

section
variable {w : World} {b : Nat} {S : List Int} {ops : Array Oper} {rest : List Oper} {o : Oper} {a : Act} {Q : Exit → Act → World → Prop}
theorem look_set (h : IntSet w b S) (hw : Region.wanted o (yielded ops a.tmps) = true) (m x : Operand) (hop : o.op = Op.lookup 101 m x true) (hm : a.eval m = .map (some b)) {k : Int} (hx : a.eval x = .int .i64 k) {t : Bool} (ht : decide (k ∈ S) = t)
    (hK : wpList Tryz.prog ops Q rest (a.put o.dst (.tuple #[.agg #[], .bool t])) w) : wpList Tryz.prog ops Q (o :: rest) a w :=
  list_look h Tryz.underlying101 Tryz.underlying3 (z := .agg #[]) (by kernel_rfl) hw m x true hop hm hx rfl (v := .tuple #[.agg #[], .bool t]) (by rw [setF_get, setF_is, ht]; rfl) hK
theorem put_set (h : IntSet w b S) (hw : Region.wanted o (yielded ops a.tmps) = true) (m x y : Operand) (hop : o.op = Op.mapUpdate 101 m x y) (hm : a.eval m = .map (some b)) {k : Int} (hx : a.eval x = .int .i64 k) (hy : a.eval y = .agg #[])
    (hK : ∀ w', IntSet w' b (S ++ [k]) → But b w w' → wpList Tryz.prog ops Q rest (a.put o.dst undef) w') : wpList Tryz.prog ops Q (o :: rest) a w :=
  list_put h Tryz.underlying101 Tryz.underlying3 hw m x y hop hm hx rfl hy (setF (S ++ [k])) (setF_in S k) (fun x hx => setF_other S k x hx) hK
end
set_option maxHeartbeats 1000000 in
theorem in_calls (b : Nat) (S : List Int) (k : Int) (w : World) (h : IntSet w b S) : Calls Tryz.prog 56 #[.map (some b), .int .i64 k] w fun e w' => e = .returned (.bool (decide (k ∈ S))) ∧ Below w.heap.size w w' := by
  obtain ⟨t, ht⟩ : ∃ t, decide (k ∈ S) = t := ⟨_, rfl⟩
  rw [ht]
  have HT := Lib.hid ht
  clear ht
  go_enter Tryz.func56, Tryz.ntmps56
  go_wp2_with (at_lookup; refine look_set h (by kernel_rfl) _ _ rfl rfl rfl HT.out ?_)
  go_ret
  exact ⟨rfl, box_below _ _⟩
set_option maxHeartbeats 1000000 in
theorem order1_calls (b p : Nat) (S : List Int) (k : Int) (w : World) (h : IntSet w b S) (hp : w.cell? ⟨p, 0, none⟩ = some (.map (some b))) :
    Calls Tryz.prog 55 #[.int .i64 k, .pointer (some ⟨p, 0, none⟩)] w fun e w' => e = .returned (.bool (decide (k ≠ -2 ∧ k ∈ S))) ∧ Below w.heap.size w w' := by
  by_cases hk : k = -2
  · rw [decide_eq_false (fun h => h.1 hk)]
    have ht : ((k : Int) != -2) = false := by simpa using hk
    go_enter Tryz.func55, Tryz.ntmps55
    go_wp2
    go_ret
    exact ⟨rfl, Below.refl _ _⟩
  · have ht : ((k : Int) != -2) = true := by simpa using hk
    have hd : decide (k ≠ -2 ∧ k ∈ S) = decide (k ∈ S) := by simp [hk]
    rw [hd]
    obtain ⟨t, htt⟩ : ∃ t, decide (k ∈ S) = t := ⟨_, rfl⟩
    have hc := fun X (hX : IntSet X b S) => in_calls b S k X hX
    rw [htt] at hc ⊢
    have HC := Lib.hid hc
    clear htt hc hd
    go_enter Tryz.func55, Tryz.ntmps55
    go_wp2_with (go_at_call 56; (with_reducible refine (HC.out _ h).mono ?_); rintro e w1 ⟨rfl, hB⟩)
    go_ret
    exact ⟨rfl, hB⟩
/-- slices.IndexFunc, of integers of one's own. -/
def idxI (q : Int → Bool) (L : List Int) : Int := match L.findIdx? q with | some i => (i : Int) | none => -1
theorem idx_some {q : Int → Bool} : ∀ {L : List Int} {k : Nat} {x : Int}, (∀ y ∈ L.take k, q y = false) → L[k]? = some x → q x = true → L.findIdx? q = some k
  | [], k, x, _, h, _ => by simp at h
  | y :: r, 0, x, _, h, hq => by
    obtain rfl : y = x := by simpa using h
    rw [List.findIdx?_cons, if_pos hq]
  | y :: r, k + 1, x, ha, h, hq => by
    have h1 := ha y (by simp)
    rw [List.findIdx?_cons, if_neg (by rw [h1]; simp), idx_some (k := k) (fun z hz => ha z (by simp [hz])) (by simpa using h) hq]
    rfl
set_option maxHeartbeats 2000000 in
theorem index_calls (L : List Int) (g cap K : Nat) (caps : Array Value) (q : Int → Bool) (w : World) (hl : L.length ≤ 1000) (hI : Ints w 3 g L)
    (hE : ∀ (args : Array Value) (X : World), (callFunc K args).run Tryz.prog X = .ok (.enter K args) X)
    (hK : ∀ (x : Int) (X : World), Below w.heap.size w X → Calls Tryz.prog K (#[.int .i64 x] ++ caps) X fun e w' => e = .returned (.bool (q x)) ∧ Below X.heap.size X w') :
    Calls Tryz.prog 54 #[.slice (some ⟨g, 0, none⟩) L.length cap, .func (.func K) #[] caps] w fun e w' => e = .returned (.int .i64 (idxI q L)) ∧ Below w.heap.size w w' := by
  have HK := Lib.hid hK
  have HI := Lib.hid hI
  clear hK hI
  go_enter Tryz.func54, Tryz.ntmps54
  go_wp2
  go_loopw [8] (fun i wr => ∃ k : Nat, k ≤ L.length ∧ i = .int .i64 (k : Int) ∧ Hid (∀ y ∈ L.take k, q y = false) ∧ Below w.heap.size w wr) (fun i _ => L.length - (RowKit.intOf i).toNat)
  case atStart => exact ⟨0, Nat.zero_le _, rfl, Lib.hid (by simp), Below.refl _ _⟩
  case round =>
    obtain ⟨k, hk, rfl, hq, hB⟩ := hrel
    by_cases hlt : k < L.length
    · have hlt' : (k : Int) < L.length := by omega
      obtain ⟨x, hx⟩ : ∃ x, L[k]? = some x := ⟨_, List.getElem?_eq_getElem hlt⟩
      have c0 := (HI.out.below hB).cell hx
      have HX := Lib.hid hx
      obtain ⟨t, ht⟩ : ∃ t, q x = t := ⟨_, rfl⟩
      have hc := HK.out x wr hB
      rw [ht] at hc
      have HC := Lib.hid hc
      have HT := Lib.hid ht
      have hx2 := HX.out
      clear hc ht hx HX
      have HL := Lib.hid hx2
      clear hx2
      cases t
      · go_wp2_with fail
        refine HC.out.mono ?_
        rintro e w1 ⟨rfl, hB1⟩
        go_wp2
        go_roundw
        case rel =>
          refine ⟨k + 1, by omega, by go_num, Lib.hid ?_, go hB hB1⟩
          rw [List.take_add_one, HL.out]
          intro y hy
          rcases List.mem_append.1 hy with hy | hy
          · exact hq.out y hy
          · obtain rfl : y = x := by simpa using hy
            exact HT.out
        case measure => simp [RowKit.intOf]; omega
      · have HF := Lib.hid (show idxI q L = (k : Int) by unfold idxI; rw [idx_some hq.out HL.out HT.out])
        go_wp2_with fail
        refine HC.out.mono ?_
        rintro e w1 ⟨rfl, hB1⟩
        go_wp2
        go_ret
        exact ⟨by rw [HF.out]; rfl, go hB hB1⟩
    · obtain rfl : k = L.length := by omega
      have hlt' : ¬ (L.length : Int) < L.length := by omega
      have HF := Lib.hid (show idxI q L = -1 by
        unfold idxI
        have h1 := hq.out
        rw [List.take_length] at h1
        rw [List.findIdx?_eq_none_iff.2 h1])
      clear hq
      go_wp2
      go_ret
      exact ⟨by rw [HF.out]; rfl, hB⟩
end Go.Proofs.YtkjajlolfcioiaaGreatDoor.Graph
