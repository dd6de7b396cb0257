/- graph: edges, walked. -/
import Derived.Test.YtkjajlolfcioiaaGreatDoorYCheckF
import Derived.Test.YtkjajlolfcioiaaGreatDoorYInts
import Derived.Test.YtkjajlolfcioiaaGreatDoorYGraphPlain
import Derived.OwnWalk
import Derived.WalkSpells
namespace Go.Proofs.YtkjajlolfcioiaaGreatDoor.Graph
open Go.RowKit Go.Proofs.YtkjajlolfcioiaaGreatDoor Go.Proofs.YtkjajlolfcioiaaGreatDoor.Own Go.Proofs.YtkjajlolfcioiaaGreatDoor.Tail Go.Proofs.YtkjajlolfcioiaaGreatDoor.Mp Go.Proofs.YtkjajlolfcioiaaGreatDoor.Ints Go.Proofs.YtkjajlolfcioiaaGreatDoor.Scan Go.Proofs.YtkjajlolfcioiaaGreatDoor.Plan Go.Proofs.YtkjajlolfcioiaaGreatDoor.Expr Go.Proofs.YtkjajlolfcioiaaGreatDoor.Check Go.Lib

/-- the boxed plan. -/
structure PBox (w : World) (tv fv : Value) (X : World) : Prop where
  below : Below w.heap.size w X
  b0 : X.cell? ⟨w.heap.size, 0, none⟩ = some tv
  b1 : X.cell? ⟨w.heap.size, 1, none⟩ = some fv
  big : w.heap.size < X.heap.size
theorem PBox.belowX {w X Y : World} {tv fv : Value} (h : PBox w tv fv X) (k : Below X.heap.size X Y) : PBox w tv fv Y := ⟨go h.below k, kc k h.b0, kc k h.b1, by have := k.size; have := h.big; omega⟩
theorem PBox.but {w X Y : World} {tv fv : Value} {b : Nat} (h : PBox w tv fv X) (k : But b X Y) (hb : w.heap.size < b) : PBox w tv fv Y :=
  ⟨h.below.grown k h.below.size (fun _ e => by cases e; omega), k.cell (by simp; omega) h.b0, k.cell (by simp; omega) h.b1, by have := k.size; have := h.big; omega⟩
theorem PBox.alloc {w X : World} {tv fv : Value} (h : PBox w tv fv X) (o : Obj) : PBox w tv fv (X.alloc o) := h.belowX (box_below X o)
theorem PBox.start (w : World) (tv fv : Value) (S : TypeId) : PBox w tv fv (w.alloc (.cells #[tv, fv] S)) :=
  ⟨box_below _ _, cell_new rfl rfl, cell_new rfl rfl, by simp⟩
/-- what edges comes to: a slice of integers of its own. -/
def EdgesPost (F : List Int) (w : World) (e : Ending) (w' : World) : Prop := ∃ g, e = .returned (.slice (some ⟨g, 0, none⟩) F.length F.length) ∧ Ints w' 3 g F ∧ w.heap.size ≤ g ∧ Below w.heap.size w w'
theorem zeros (n : Nat) : (madeCells (Value.int .i64 0).cells (n * 1)).toList = (List.replicate n (0 : Int)).map (Value.int .i64) := by
  unfold madeCells
  simp [Nat.mod_one, List.map_const', Value.cells]

set_option maxHeartbeats 8000000 in
set_option maxRecDepth 100000 in
theorem edges_calls (tops : List Top) (fl : List FlwV) (tv fv : Value) (w : World) (hP : PlanAt w tv fv tops fl) (h8 : fl.length ≤ 8) :
    Calls Tryz.prog 53 #[.agg #[tv, fv]] w (EdgesPost (edgesL (fl.map (·.f))) w) := by
  have HP := Lib.hid hP
  obtain ⟨F, hF⟩ : ∃ F, edgesL (fl.map (·.f)) = F := ⟨_, rfl⟩
  have hFl : F.length = fl.length := by rw [← hF, edgesL_length, List.length_map]
  have HF := Lib.hid hF
  have HFL := Lib.hid hFl
  rw [hF]
  clear hF hFl
  obtain ⟨⟨A1, c1, rfl, hc1, hr1⟩, ⟨A2, c2, rfl, hc2, hr2⟩, hpre, hpost⟩ := hP
  have HR2 := Lib.hid hr2
  have hmm := @run_makeMap Tryz.prog
  have t2 : (fl.length : Int) ≤ 8 := by omega
  obtain ⟨i0, hi, hz0, hz1, hz2⟩ := info_parts (show (Tryz.prog.info? 3).map (fun i => (i.zero, i.size, i.bytes)) = some (some (.int .i64 0), 1, 8) by kernel_rfl)
  have HI := Lib.hid hi
  have HZ0 := Lib.hid hz0
  have HZ1 := Lib.hid hz1
  have HZ2 := Lib.hid hz2
  clear hr1 hr2 hpre hpost hi hz0 hz1 hz2
  go_enter Tryz.func53, Tryz.ntmps53
  go_wp2
  go_loopw [15] (fun i wr => ∃ k : Nat, k ≤ fl.length ∧ i = .int .i64 (k : Int) ∧ PBox w (.slice A1 tops.length c1) (.slice A2 fl.length c2) wr ∧ StrMap wr (w.heap.size + 1) (lastG ((fl.map (·.f)).take k))) (fun i _ => fl.length - (RowKit.intOf i).toNat)
  case atStart => exact ⟨0, Nat.zero_le _, rfl, (PBox.start w _ _ _).alloc _, strPut_eq (made_at (by simp)) (fun _ => rfl)⟩
  case round =>
    obtain ⟨k, hk, rfl, hM, hmp⟩ := hrel
    by_cases hlt : k < fl.length
    · have hlt' : (k : Int) < fl.length := by omega
      obtain ⟨b, o, rfl, hrow⟩ := HR2.out (by omega)
      obtain ⟨⟨f, pv, qv⟩, hx⟩ : ∃ x, fl[k]? = some x := ⟨_, List.getElem?_eq_getElem hlt⟩
      obtain ⟨pA, pc, rfl⟩ : ∃ A c, pv = .slice A f.pre.length c := let ⟨A, c, h, _⟩ := HP.out.pre _ (List.mem_of_getElem? hx); ⟨A, c, h⟩
      obtain ⟨qA, qc, rfl⟩ : ∃ A c, qv = .slice A f.post.length c := let ⟨A, c, h, _⟩ := HP.out.post _ (List.mem_of_getElem? hx); ⟨A, c, h⟩
      have hxf : (fl.map (·.f))[k]? = some f := by rw [List.getElem?_map, hx]; rfl
      have hrow2 := hrow.below hM.below
      have d0 : wr.cell? ⟨b, o + k * 12, none⟩ = some (.string f.name) := hrow2 (k * 12 + 0) _ (flat_get flwvCells 12 (fun _ => rfl) _ k 0 _ hx (by decide))
      have d1 : wr.cell? ⟨b, o + k * 12 + 1, none⟩ = some (.string f.frm) := hrow2 (k * 12 + 1) _ (flat_get flwvCells 12 (fun _ => rfl) _ k 1 _ hx (by decide))
      have d2 : wr.cell? ⟨b, o + k * 12 + 2, none⟩ = some (.string f.to) := hrow2 (k * 12 + 2) _ (flat_get flwvCells 12 (fun _ => rfl) _ k 2 _ hx (by decide))
      have d3 : wr.cell? ⟨b, o + k * 12 + 3, none⟩ = some (.int .i64 f.bound) := hrow2 (k * 12 + 3) _ (flat_get flwvCells 12 (fun _ => rfl) _ k 3 _ hx (by decide))
      have d4 : wr.cell? ⟨b, o + k * 12 + 4, none⟩ = some (.int .i64 f.readers) := hrow2 (k * 12 + 4) _ (flat_get flwvCells 12 (fun _ => rfl) _ k 4 _ hx (by decide))
      have d5 : wr.cell? ⟨b, o + k * 12 + 5, none⟩ = some (.int .i64 f.keepers) := hrow2 (k * 12 + 5) _ (flat_get flwvCells 12 (fun _ => rfl) _ k 5 _ hx (by decide))
      have d6 : wr.cell? ⟨b, o + k * 12 + 6, none⟩ = some (.slice pA f.pre.length pc) := hrow2 (k * 12 + 6) _ (flat_get flwvCells 12 (fun _ => rfl) _ k 6 _ hx (by decide))
      have d7 : wr.cell? ⟨b, o + k * 12 + 7, none⟩ = some (.int .i64 f.wk) := hrow2 (k * 12 + 7) _ (flat_get flwvCells 12 (fun _ => rfl) _ k 7 _ hx (by decide))
      have d8 : wr.cell? ⟨b, o + k * 12 + 8, none⟩ = some (.int .i64 f.ws) := hrow2 (k * 12 + 8) _ (flat_get flwvCells 12 (fun _ => rfl) _ k 8 _ hx (by decide))
      have d9 : wr.cell? ⟨b, o + k * 12 + 9, none⟩ = some (.int .i64 f.wl) := hrow2 (k * 12 + 9) _ (flat_get flwvCells 12 (fun _ => rfl) _ k 9 _ hx (by decide))
      have d10 : wr.cell? ⟨b, o + k * 12 + 10, none⟩ = some (.int .i64 f.agg) := hrow2 (k * 12 + 10) _ (flat_get flwvCells 12 (fun _ => rfl) _ k 10 _ hx (by decide))
      have d11 : wr.cell? ⟨b, o + k * 12 + 11, none⟩ = some (.slice qA f.post.length qc) := hrow2 (k * 12 + 11) _ (flat_get flwvCells 12 (fun _ => rfl) _ k 11 _ hx (by decide))
      have HX := Lib.hid hx
      have HXF := Lib.hid hxf
      clear hx hxf hrow hrow2
      have hlp := hmp.lt
      have hm5 := hmp.below (box_below _ (.cells #[.string f.name, .string f.frm, .string f.to, .int .i64 f.bound, .int .i64 f.readers, .int .i64 f.keepers, .slice pA f.pre.length pc, .int .i64 f.wk, .int .i64 f.ws, .int .i64 f.wl, .int .i64 f.agg, .slice qA f.post.length qc] 71))
      go_wp2_with (at_mapUpdate; refine put_str hm5 (by kernel_rfl) _ _ _ rfl rfl rfl rfl ?_; intro w6 hm6 hb6)
      go_roundw
      case rel =>
        refine ⟨k + 1, by omega, by go_num, (hM.alloc _).but hb6 (by omega), strPut_eq hm6 (fun s => ?_)⟩
        rw [List.take_add_one, HXF.out]
        show lastG (_ ++ [f]) s = _
        rw [lastG_snoc, List.length_take, List.length_map, Nat.min_eq_left hk]
        rfl
      case measure => simp [RowKit.intOf]; omega
    · obtain rfl : k = fl.length := by omega
      have hlt' : ¬ (fl.length : Int) < fl.length := by omega
      obtain ⟨wo, rfl⟩ : ∃ wo : World, wo = wr := ⟨_, rfl⟩
      have hmF : StrMap wo (w.heap.size + 1) (lastG (fl.map (·.f))) := by rw [List.take_of_length_le (by simp)] at hmp; exact hmp
      have kb1 := hM.b1
      have hlp := hmF.lt
      have HM := Lib.hid hM
      have HMF := Lib.hid hmF
      clear hmp hM hmF hk
      go_wp2_with (at_make; refine wpList_make_full _ rfl _ _ 30 rfl wo.heap.size 3 i0 (.int .i64 0) 1 Tryz.underlying30 HI.out HZ0.out HZ1.out .i64 .i64 _ _ fl.length rfl rfl rfl rfl (by rw [HZ2.out]; omega) (by unfold maxLen; omega) (Nat.le_refl _) ?_; intro w5 hown hg5; have hB5 : Below wo.heap.size wo w5 := (Below.refl _ _).grown hg5 (Nat.le_refl _) (fun _ e => by cases e); have kb5 := kc hB5 kb1)
      have hI5 : Ints w5 3 wo.heap.size (List.replicate fl.length 0) := Ints.of_own (by rw [zeros] at hown; exact hown)
      have HM5 := Lib.hid (HM.out.belowX hB5)
      have HMF5 := Lib.hid (HMF.out.below hB5)
      have hz5 := hI5.lt
      clear HM HMF hown hg5 kb1 kb5 hB5
      go_loopw [32] (fun i wr => ∃ k : Nat, k ≤ fl.length ∧ i = .int .i64 (k : Int) ∧ PBox w (.slice A1 tops.length c1) (.slice A2 fl.length c2) wr ∧ StrMap wr (w.heap.size + 1) (lastG (fl.map (·.f))) ∧ Ints wr 3 wo.heap.size (F.take k ++ List.replicate (fl.length - k) 0)) (fun i _ => fl.length - (RowKit.intOf i).toNat)
      case atStart => exact ⟨0, Nat.zero_le _, rfl, HM5.out, HMF5.out, by simpa using hI5⟩
      case round =>
        clear hI5 HM5 HMF5 hz5
        obtain ⟨k, hk, rfl, hM, hmp, hI⟩ := hrel
        by_cases hlt : k < fl.length
        · have hlt' : (k : Int) < fl.length := by omega
          obtain ⟨b, o, rfl, hrow⟩ := HR2.out (by omega)
          obtain ⟨⟨f, pv, qv⟩, hx⟩ : ∃ x, fl[k]? = some x := ⟨_, List.getElem?_eq_getElem hlt⟩
          obtain ⟨pA, pc, rfl⟩ : ∃ A c, pv = .slice A f.pre.length c := let ⟨A, c, h, _⟩ := HP.out.pre _ (List.mem_of_getElem? hx); ⟨A, c, h⟩
          obtain ⟨qA, qc, rfl⟩ : ∃ A c, qv = .slice A f.post.length c := let ⟨A, c, h, _⟩ := HP.out.post _ (List.mem_of_getElem? hx); ⟨A, c, h⟩
          have hxf : (fl.map (·.f))[k]? = some f := by rw [List.getElem?_map, hx]; rfl
          have hrow2 := hrow.below hM.below
          have d0 : wr.cell? ⟨b, o + k * 12, none⟩ = some (.string f.name) := hrow2 (k * 12 + 0) _ (flat_get flwvCells 12 (fun _ => rfl) _ k 0 _ hx (by decide))
          have d1 : wr.cell? ⟨b, o + k * 12 + 1, none⟩ = some (.string f.frm) := hrow2 (k * 12 + 1) _ (flat_get flwvCells 12 (fun _ => rfl) _ k 1 _ hx (by decide))
          have d2 : wr.cell? ⟨b, o + k * 12 + 2, none⟩ = some (.string f.to) := hrow2 (k * 12 + 2) _ (flat_get flwvCells 12 (fun _ => rfl) _ k 2 _ hx (by decide))
          have d3 : wr.cell? ⟨b, o + k * 12 + 3, none⟩ = some (.int .i64 f.bound) := hrow2 (k * 12 + 3) _ (flat_get flwvCells 12 (fun _ => rfl) _ k 3 _ hx (by decide))
          have d4 : wr.cell? ⟨b, o + k * 12 + 4, none⟩ = some (.int .i64 f.readers) := hrow2 (k * 12 + 4) _ (flat_get flwvCells 12 (fun _ => rfl) _ k 4 _ hx (by decide))
          have d5 : wr.cell? ⟨b, o + k * 12 + 5, none⟩ = some (.int .i64 f.keepers) := hrow2 (k * 12 + 5) _ (flat_get flwvCells 12 (fun _ => rfl) _ k 5 _ hx (by decide))
          have d6 : wr.cell? ⟨b, o + k * 12 + 6, none⟩ = some (.slice pA f.pre.length pc) := hrow2 (k * 12 + 6) _ (flat_get flwvCells 12 (fun _ => rfl) _ k 6 _ hx (by decide))
          have d7 : wr.cell? ⟨b, o + k * 12 + 7, none⟩ = some (.int .i64 f.wk) := hrow2 (k * 12 + 7) _ (flat_get flwvCells 12 (fun _ => rfl) _ k 7 _ hx (by decide))
          have d8 : wr.cell? ⟨b, o + k * 12 + 8, none⟩ = some (.int .i64 f.ws) := hrow2 (k * 12 + 8) _ (flat_get flwvCells 12 (fun _ => rfl) _ k 8 _ hx (by decide))
          have d9 : wr.cell? ⟨b, o + k * 12 + 9, none⟩ = some (.int .i64 f.wl) := hrow2 (k * 12 + 9) _ (flat_get flwvCells 12 (fun _ => rfl) _ k 9 _ hx (by decide))
          have d10 : wr.cell? ⟨b, o + k * 12 + 10, none⟩ = some (.int .i64 f.agg) := hrow2 (k * 12 + 10) _ (flat_get flwvCells 12 (fun _ => rfl) _ k 10 _ hx (by decide))
          have d11 : wr.cell? ⟨b, o + k * 12 + 11, none⟩ = some (.slice qA f.post.length qc) := hrow2 (k * 12 + 11) _ (flat_get flwvCells 12 (fun _ => rfl) _ k 11 _ hx (by decide))
          have HX := Lib.hid hx
          have HXF := Lib.hid hxf
          clear hx hxf hrow hrow2
          obtain ⟨tw, htw⟩ : ∃ tw, (lastG (fl.map (·.f)) f.frm.data.toList).isSome = tw := ⟨_, rfl⟩
          obtain ⟨nv, hnv⟩ : ∃ nv, (lastG (fl.map (·.f)) f.frm.data.toList).getD 0 = nv := ⟨_, rfl⟩
          have hFk : F[k]? = some (if tw = true then nv else -1) := by
            rw [← HF.out]
            unfold edgesL
            rw [List.getElem?_map, HXF.out, Option.map_some, ← hnv, ← htw]
            cases lastG (fl.map (·.f)) f.frm.data.toList <;> rfl
          have HFK := Lib.hid hFk
          have HTW := Lib.hid htw
          have HNV := Lib.hid hnv
          clear hFk htw hnv
          have hset : ∀ v, F[k]? = some v → (F.take k ++ List.replicate (fl.length - k) 0).set k v = F.take (k + 1) ++ List.replicate (fl.length - (k + 1)) 0 := fun v hv => by
            have hkl : k < F.length := by rw [HFL.out]; exact hlt
            rw [List.set_append_right _ _ (by rw [List.length_take]; omega), List.length_take, Nat.min_eq_left (by omega), Nat.sub_self, show fl.length - k = (fl.length - (k + 1)) + 1 by omega, List.replicate_succ, List.set_cons_zero, List.take_add_one, hv]
            simp
          have HSET := Lib.hid hset
          have hold : (F.take k ++ List.replicate (fl.length - k) 0)[k]? = some (0 : Int) := by
            rw [List.getElem?_append_right (by rw [List.length_take]; omega), List.length_take, HFL.out, Nat.min_eq_left (by omega), Nat.sub_self, show fl.length - k = (fl.length - (k + 1)) + 1 by omega, List.replicate_succ]
            rfl
          have hlp := hmp.lt
          have hli := hI.lt
          have hI6 := hI.alloc (.cells #[.string f.name, .string f.frm, .string f.to, .int .i64 f.bound, .int .i64 f.readers, .int .i64 f.keepers, .slice pA f.pre.length pc, .int .i64 f.wk, .int .i64 f.ws, .int .i64 f.wl, .int .i64 f.agg, .slice qA f.post.length qc] 71)
          have hm6 := hmp.below (box_below _ (.cells #[.string f.name, .string f.frm, .string f.to, .int .i64 f.bound, .int .i64 f.readers, .int .i64 f.keepers, .slice pA f.pre.length pc, .int .i64 f.wk, .int .i64 f.ws, .int .i64 f.wl, .int .i64 f.agg, .slice qA f.post.length qc] 71))
          have s1 := hI.cell hold
          have s2 := hI.frozen k
          have HI6 := Lib.hid hI
          have HMP6 := Lib.hid hmp
          have HM6 := Lib.hid hM
          clear hset hold hI hmp hM hI6
          cases tw
          all_goals
            go_wp2_with (at_lookup; refine look_ok hm6 (by kernel_rfl) _ _ rfl rfl rfl HNV.out HTW.out ?_)
            go_roundw
            case rel =>
              refine ⟨k + 1, by omega, by go_num, ?_, ?_, ?_⟩
              · first | exact (HM6.out.but (Ints.but_set _ _ _ _) (by omega)).alloc _ | exact (HM6.out.alloc _).but (Ints.but_set _ _ _ _) (by omega)
              · first | exact (HMP6.out.but (Ints.but_set _ _ _ _) (by omega)).below (box_below _ _) | exact (HMP6.out.below (box_below _ _)).but (Ints.but_set _ _ _ _) (by omega)
              · rw [← HSET.out _ HFK.out]; first | exact (HI6.out.set _ _).alloc _ | exact (HI6.out.alloc _).set _ _
            case measure => simp [RowKit.intOf]; omega
        · obtain rfl : k = fl.length := by omega
          have hlt' : ¬ (fl.length : Int) < fl.length := by omega
          have hIF : Ints wr 3 wo.heap.size F := by rw [List.take_of_length_le (by rw [HFL.out]; exact Nat.le_refl _), Nat.sub_self, List.replicate_zero, List.append_nil] at hI; exact hI
          go_wp2
          go_ret
          exact ⟨wo.heap.size, by rw [HFL.out]; rfl, hIF, by omega, hM.below⟩
end Go.Proofs.YtkjajlolfcioiaaGreatDoor.Graph
