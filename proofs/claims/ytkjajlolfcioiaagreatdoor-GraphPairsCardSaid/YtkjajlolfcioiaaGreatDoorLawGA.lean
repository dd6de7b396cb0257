/- the law's own parts: in, small; graph.Source. -/
import Derived.Test.YtkjajlolfcioiaaGreatDoorGraphG
import Derived.WalkSpells
namespace Go.Proofs.YtkjajlolfcioiaaGreatDoor.Graph
open Go.RowKit Go.Proofs.YtkjajlolfcioiaaGreatDoor Go.Proofs.YtkjajlolfcioiaaGreatDoor.Own Go.Proofs.YtkjajlolfcioiaaGreatDoor.Tail Go.Proofs.YtkjajlolfcioiaaGreatDoor.Mp Go.Proofs.YtkjajlolfcioiaaGreatDoor.Ints Go.Proofs.YtkjajlolfcioiaaGreatDoor.Scan Go.Proofs.YtkjajlolfcioiaaGreatDoor.Plan Go.Proofs.YtkjajlolfcioiaaGreatDoor.Expr Go.Proofs.YtkjajlolfcioiaaGreatDoor.Check Go.Lib

set_option maxHeartbeats 2000000 in
set_option maxRecDepth 100000 in
theorem lawin_calls (v : Value) (L : List Int) (x : Int) (w : World) (h : IntsAt w v L) (hl : L.length ≤ 1000) : Calls Tryz.prog 22 #[v, .int .i64 x] w fun e w' => e = .returned (.bool (decide (x ∈ L))) ∧ w' = w := by
  obtain ⟨A, c, rfl, hc, hr⟩ := h
  have HR := Lib.hid hr
  clear hr
  obtain ⟨R, hR⟩ : ∃ R, decide (x ∈ L) = R := ⟨_, rfl⟩
  rw [hR]
  have HRR := Lib.hid hR
  clear hR
  go_enter Tryz.func22, Tryz.ntmps22
  go_wp2
  go_loopw [5] (fun i wr => ∃ k : Nat, k ≤ L.length ∧ i = .int .i64 (k : Int) ∧ Hid (x ∉ L.take k) ∧ wr = w) (fun i _ => L.length - (RowKit.intOf i).toNat)
  case atStart => exact ⟨0, Nat.zero_le _, rfl, Lib.hid (by simp), rfl⟩
  case round =>
    obtain ⟨k, hk, rfl, hn, rfl⟩ := hrel
    by_cases hlt : k < L.length
    · have hlt' : (k : Int) < L.length := by omega
      obtain ⟨b, o, rfl, hrow⟩ := HR.out (by omega)
      obtain ⟨y, hy⟩ : ∃ y, L[k]? = some y := ⟨_, List.getElem?_eq_getElem hlt⟩
      have d0 : wr.cell? ⟨b, o + k, none⟩ = some (.int .i64 y) := hrow k _ (by rw [List.getElem?_map, hy]; rfl)
      have HY := Lib.hid hy
      clear hy hrow
      by_cases hyx : y = x
      · have t1 : ((y : Int) == x) = true := by simpa using hyx
        have HF := Lib.hid (show R = true by rw [← HRR.out, ← hyx]; exact decide_eq_true (List.mem_of_getElem? HY.out))
        clear hyx
        go_wp2
        go_ret
        exact ⟨by rw [HF.out]; rfl, rfl⟩
      · have t1 : ((y : Int) == x) = false := by simpa using hyx
        have HN := Lib.hid hyx
        clear hyx
        go_wp2
        go_roundw
        case rel =>
          refine ⟨k + 1, by omega, by go_num, Lib.hid ?_, by first | rfl | trivial⟩
          rw [List.take_add_one, HY.out]
          intro hm
          rcases List.mem_append.1 hm with hm | hm
          · exact hn.out hm
          · have hq : x = y := by simpa using hm
            exact HN.out hq.symm
        case measure => simp [RowKit.intOf]; omega
    · obtain rfl : k = L.length := by omega
      have hlt' : ¬ (L.length : Int) < L.length := by omega
      have HF := Lib.hid (show R = false by rw [← HRR.out]; have := hn.out; rw [List.take_length] at this; exact decide_eq_false this)
      go_wp2
      go_ret
      exact ⟨by rw [HF.out]; rfl, rfl⟩
/-- a bool. -/
def SomeBool (w : World) (e : Ending) (w' : World) : Prop := (∃ b, e = .returned (.bool b)) ∧ Below w.heap.size w w'
set_option maxHeartbeats 4000000 in
set_option maxRecDepth 100000 in
theorem small_calls (tops : List Top) (fl : List FlwV) (tv fv : Value) (w : World) (hP : PlanAt w tv fv tops fl) (hl : fl.length ≤ 1000000000000) :
    Calls Tryz.prog 15 #[.agg #[tv, fv]] w (SomeBool w) := by
  have HP := Lib.hid hP
  obtain ⟨⟨A1, c1, rfl, hc1, hr1⟩, ⟨A2, c2, rfl, hc2, hr2⟩, hpre, hpost⟩ := hP
  have HR2 := Lib.hid hr2
  clear hr1 hr2 hpre hpost
  go_enter Tryz.func15, Tryz.ntmps15
  by_cases h1 : (tops.length : Int) > 100
  · go_wp2
    go_ret
    exact ⟨⟨_, rfl⟩, box_below _ _⟩
  · by_cases h2 : (fl.length : Int) > 100
    · go_wp2
      go_ret
      exact ⟨⟨_, rfl⟩, box_below _ _⟩
    · have q1 : decide ((100 : Int) < tops.length) = false := decide_eq_false (by omega)
      have q2 : decide ((100 : Int) < fl.length) = false := decide_eq_false (by omega)
      go_wp2
      go_loopw [3] (fun i wr => ∃ k : Nat, k ≤ fl.length ∧ i = .int .i64 (k : Int) ∧ wr = w.alloc (.cells #[.slice A1 tops.length c1, .slice A2 fl.length c2] 25)) (fun i _ => fl.length - (RowKit.intOf i).toNat)
      case atStart => exact ⟨0, Nat.zero_le _, rfl, rfl⟩
      case round =>
        obtain ⟨k, hk, rfl, rfl⟩ := hrel
        by_cases hlt : k < fl.length
        · have hlt' : (k : Int) < fl.length := by omega
          obtain ⟨b, o, rfl, hrow⟩ := HR2.out (by omega)
          obtain ⟨⟨f, pv, qv⟩, hx⟩ : ∃ x, fl[k]? = some x := ⟨_, List.getElem?_eq_getElem hlt⟩
          obtain ⟨pA, pc, rfl⟩ : ∃ A c, pv = .slice A f.pre.length c := let ⟨A, c, h, _⟩ := HP.out.pre _ (List.mem_of_getElem? hx); ⟨A, c, h⟩
          obtain ⟨qA, qc, rfl⟩ : ∃ A c, qv = .slice A f.post.length c := let ⟨A, c, h, _⟩ := HP.out.post _ (List.mem_of_getElem? hx); ⟨A, c, h⟩
          have d6' := hrow (k * 12 + 6) _ (flat_get flwvCells 12 (fun _ => rfl) _ k 6 _ hx (by decide))
          have d11' := hrow (k * 12 + 11) _ (flat_get flwvCells 12 (fun _ => rfl) _ k 11 _ hx (by decide))
          have d6 : w.cell? ⟨b, o + k * 12 + 6, none⟩ = some (.slice pA f.pre.length pc) := d6'
          have d11 : w.cell? ⟨b, o + k * 12 + 11, none⟩ = some (.slice qA f.post.length qc) := d11'
          have hbl : b < w.heap.size := lt_of_cell (a := ⟨b, o + k * 12 + 6, none⟩) d6
          clear hx hrow d6' d11'
          by_cases h3 : (f.pre.length : Int) > 100
          · have q3 : decide ((100 : Int) < f.pre.length) = true := decide_eq_true h3
            go_wp2
            go_ret
            exact ⟨⟨_, rfl⟩, box_below _ _⟩
          · have q3 : decide ((100 : Int) < f.pre.length) = false := decide_eq_false h3
            by_cases h4 : (f.post.length : Int) > 100
            · go_wp2
              go_ret
              exact ⟨⟨_, rfl⟩, box_below _ _⟩
            · have q4 : decide ((100 : Int) < f.post.length) = false := decide_eq_false h4
              go_wp2
              go_roundw
              case rel => exact ⟨k + 1, by omega, by go_num, by first | rfl | trivial⟩
              case measure => simp [RowKit.intOf]; omega
        · obtain rfl : k = fl.length := by omega
          have hlt' : ¬ (fl.length : Int) < fl.length := by omega
          go_wp2
          go_ret
          exact ⟨⟨_, rfl⟩, box_below _ _⟩
end Go.Proofs.YtkjajlolfcioiaaGreatDoor.Graph
