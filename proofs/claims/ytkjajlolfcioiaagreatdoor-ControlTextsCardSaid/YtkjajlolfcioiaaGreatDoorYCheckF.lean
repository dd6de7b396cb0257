/- plan.Check, walked: the loops. -/
import Derived.Test.YtkjajlolfcioiaaGreatDoorYCheckE
import Derived.Test.YtkjajlolfcioiaaGreatDoorYScan
import Derived.WalkSpells
import Derived.WalkLawsBesides
namespace Go.Proofs.YtkjajlolfcioiaaGreatDoor.Check
open Go.RowKit Go.Proofs.YtkjajlolfcioiaaGreatDoor Go.Proofs.YtkjajlolfcioiaaGreatDoor.Own Go.Proofs.YtkjajlolfcioiaaGreatDoor.Tail Go.Proofs.YtkjajlolfcioiaaGreatDoor.Mp Go.Proofs.YtkjajlolfcioiaaGreatDoor.Scan Go.Proofs.YtkjajlolfcioiaaGreatDoor.Plan Go.Proofs.YtkjajlolfcioiaaGreatDoor.Expr Go.Lib
theorem planE_many {tops : List Top} {fl : List FlwV} (h : 16 < tops.length ∨ 8 < fl.length) : planE (plnOf tops fl) = 5 := by unfold planE plnOf; rw [if_pos (by simpa using h)]
theorem planE_few {tops : List Top} {fl : List FlwV} (h : ¬ (16 < tops.length ∨ 8 < fl.length)) : planE (plnOf tops fl) = if topsE [] tops = 0 then flowsE (plnOf tops fl) [] (fl.map (·.f)) else topsE [] tops := by unfold planE; rw [if_neg (by simpa [plnOf] using h)]; rfl
theorem ResAt.set {X : World} {B : Nat} (h : ResAt X B) : ResAt ((X.setCell ⟨B + 1, 0, none⟩ (.int .i64 0)).setCell ⟨B + 1 + 1, 0, none⟩ (.int .i64 0)) B where
  c2 := (World.cell?_setCell_other _ _ _ _ (fun e => by cases e)).trans (World.cell?_setCell_same _ _ _ h.c2)
  c3 := World.cell?_setCell_same _ _ _ ((World.cell?_setCell_other _ _ _ _ (fun e => by cases e)).trans h.c3)
  f2 := (World.frozen?_setCell _ _ _ _).trans ((World.frozen?_setCell _ _ _ _).trans h.f2)
  f3 := (World.frozen?_setCell _ _ _ _).trans ((World.frozen?_setCell _ _ _ _).trans h.f3)
theorem made_at {X : World} {b : Nat} (h : b = X.heap.size) : StrMap (X.alloc (.map #[] 0)) b (fun _ => none) := by rw [h]; exact StrMap.made X
theorem strPut_eq {w : World} {b : Nat} {g h : List UInt8 → Option Int} (hm : StrMap w b g) (e : ∀ s, h s = g s) : StrMap w b h := hm.congr fun k => by cases k <;> simp [strF, e]
set_option maxHeartbeats 8000000 in
set_option maxRecDepth 100000 in
theorem check_loops (tops : List Top) (fl : List FlwV) (tv fv : Value) (w : World) (hP : PlanAt w tv fv tops fl) (hS : SmallFlows fl) (hT : Tab w) (hg : 5 < w.heap.size) (hfew : ¬ (16 < tops.length ∨ 8 < fl.length)) :
    Calls Tryz.prog 52 #[.agg #[tv, fv]] w (CheckPost (planE (plnOf tops fl)) w) := by
  obtain ⟨E, hE⟩ : ∃ E, planE (plnOf tops fl) = E := ⟨_, rfl⟩
  rw [hE]
  have HE := Lib.hid (hE.symm.trans (planE_few hfew))
  clear hE
  have HP := Lib.hid hP
  have HS := Lib.hid hS
  have HT := Lib.hid hT
  obtain ⟨⟨A1, c1, rfl, hc1, hr1⟩, ⟨A2, c2, rfl, hc2, hr2⟩, hpre, hpost⟩ := hP
  have HR1 := Lib.hid hr1
  have HR2 := Lib.hid hr2
  have hmf : ∀ (fn : Fn) (first cap : Array Value) (w : World), (Instr.makeFunc fn first cap).run Tryz.prog w = .ok (.func fn first cap) w := fun _ _ _ _ => rfl
  have hmm := @run_makeMap Tryz.prog
  have t1 : (tops.length : Int) ≤ 16 := by omega
  have t2 : (fl.length : Int) ≤ 8 := by omega
  clear hr1 hr2 hpre hpost hS hT hfew
  go_enter_defers Tryz.func52, Tryz.ntmps52
  go_wp2_with (first | (go_at_call 100; (with_reducible refine (need_ok _ _ _).mono ?_); rintro e w9 ⟨rfl, rfl⟩))
  go_loopw [33] (fun i wr => ∃ k : Nat, k ≤ tops.length ∧ i = .int .i64 (k : Int) ∧ Mem w (.slice A1 tops.length c1) (.slice A2 fl.length c2) wr ∧ StrMap wr (w.heap.size + 1 + 1 + 1) (partsG (tops.take k)) ∧ Hid (topsE [] (tops.take k) = 0)) (fun i _ => tops.length - (RowKit.intOf i).toNat)
  case atStart => exact ⟨0, Nat.zero_le _, rfl, (Mem.start w _ _ _ _ _).alloc _, strPut_eq (made_at (by simp)) (fun _ => rfl), Lib.hid rfl⟩
  case round =>
    obtain ⟨k, hk, rfl, hM, hmp, hte⟩ := hrel
    by_cases hlt : k < tops.length
    · have hlt' : (k : Int) < tops.length := by omega
      obtain ⟨b, o, rfl, hrow⟩ := HR1.out (by omega)
      obtain ⟨t, ht⟩ : ∃ t, tops[k]? = some t := ⟨_, List.getElem?_eq_getElem hlt⟩
      obtain ⟨nm, pt⟩ := t
      have hrow2 := hrow.below hM.below
      have d0 : wr.cell? ⟨b, o + k * 2, none⟩ = some (.string nm) := hrow2 (k * 2 + 0) _ (flat_get topCells 2 (fun _ => rfl) _ k 0 _ ht (by decide))
      have d1 : wr.cell? ⟨b, o + k * 2 + 1, none⟩ = some (.int .i64 pt) := hrow2 (k * 2 + 1) _ (flat_get topCells 2 (fun _ => rfl) _ k 1 _ ht (by decide))
      have HTT := Lib.hid ht
      have HBAD : Hid (topE (tops.take k) ⟨nm, pt⟩ ≠ 0 → E = topE (tops.take k) ⟨nm, pt⟩) := Lib.hid (fun hn => by
        have h1 := topsE_at ⟨nm, pt⟩ tops [] k hte.out HTT.out hn
        rw [List.nil_append] at h1
        rw [HE.out, if_neg (by rw [h1]; exact hn), h1])
      clear ht hrow hrow2
      have hmp0 := Lib.hid hmp
      obtain ⟨tn, htn⟩ : ∃ tn, nameOk nm = tn := ⟨_, rfl⟩
      have HN := Lib.hid htn
      clear htn
      go_wp2_with fail
      refine (named_is HN.out _).mono ?_
      rintro e w4 ⟨rfl, hB4⟩
      have e0 : w4.cell? ⟨wr.heap.size, 0, none⟩ = some (.string nm) := kc hB4 (cell_new rfl rfl)
      have e1 : w4.cell? ⟨wr.heap.size, 1, none⟩ = some (.int .i64 pt) := kc hB4 (cell_new rfl rfl)
      have hM4 := (hM.alloc _).belowX hB4
      have hmp4 := (hmp.below (box_below _ _)).below hB4
      have HM4 := Lib.hid hM4
      clear hB4 hM hmp hM4
      cases tn
      · have HBE := Lib.hid (show E = 51 by rw [HBAD.out (by unfold topE; rw [if_pos HN.out]; decide)]; unfold topE; rw [if_pos HN.out])
        go_wp2_with (first | (go_at_call 100; (with_reducible refine (need_no _ _ _).mono ?_); rintro e w9 ⟨rfl, rfl⟩))
        rw [HBE.out]
        exact door_panic rfl rfl HM4.out.res HM4.out.below
      · obtain ⟨tw, htw⟩ : ∃ tw, (partsG (tops.take k) nm.data.toList).isSome = tw := ⟨_, rfl⟩
        have HTW := Lib.hid htw
        clear htw
        cases tw
        · have HND : Hid (¬ ∃ g ∈ tops.take k, g.name = nm) := Lib.hid (fun h => by have := (partsG_some nm _).2 h; rw [HTW.out] at this; cases this)
          by_cases hp : 1 ≤ pt ∧ pt ≤ 16
          · have HBE := Lib.hid (show topE (tops.take k) ⟨nm, pt⟩ = 0 by unfold topE; rw [if_neg (by simp [HN.out]), if_neg HND.out, if_pos hp])
            obtain ⟨hp1, hp2⟩ := hp
            go_wp2_with (first | (go_at_call 100; (with_reducible refine (need_ok _ _ _).mono ?_); rintro e w9 ⟨rfl, rfl⟩) | (at_lookup; refine look_ok hmp4 (by kernel_rfl) _ _ rfl rfl rfl rfl HTW.out ?_) | (at_mapUpdate; refine put_str hmp4 (by kernel_rfl) _ _ _ rfl rfl rfl rfl ?_; intro w6 hm6 hb6))
            go_roundw
            case rel =>
              refine ⟨k + 1, by omega, by go_num, HM4.out.but hb6 (by omega), strPut_eq hm6 (fun s => ?_), Lib.hid (topsE_next _ _ _ _ hte.out HTT.out (by rw [List.nil_append]; exact HBE.out))⟩
              rw [List.take_add_one, HTT.out]
              exact partsG_snoc ⟨nm, pt⟩ s _ (fun g hg he => HND.out ⟨g, hg, he⟩)
            case measure => simp [RowKit.intOf]; omega
          · have HBE := Lib.hid (show E = 1 by
              have h1 : topE (tops.take k) ⟨nm, pt⟩ = 1 := by unfold topE; rw [if_neg (by simp [HN.out]), if_neg HND.out, if_neg hp]
              rw [HBAD.out (by rw [h1]; decide), h1])
            by_cases hp1 : 1 ≤ pt
            · have q1 : decide (pt ≤ 16) = false := decide_eq_false (by omega)
              clear hp
              go_wp2_with (first | (go_at_call 100; (with_reducible refine (need_ok _ _ _).mono ?_); rintro e w9 ⟨rfl, rfl⟩) | (go_at_call 100; (with_reducible refine (need_no _ _ _).mono ?_); rintro e w9 ⟨rfl, rfl⟩) | (at_lookup; refine look_ok hmp4 (by kernel_rfl) _ _ rfl rfl rfl rfl HTW.out ?_))
              rw [HBE.out]
              exact door_panic rfl rfl HM4.out.res HM4.out.below
            · have q1 : decide (1 ≤ pt) = false := decide_eq_false hp1
              clear hp hp1
              go_wp2_with (first | (go_at_call 100; (with_reducible refine (need_ok _ _ _).mono ?_); rintro e w9 ⟨rfl, rfl⟩) | (go_at_call 100; (with_reducible refine (need_no _ _ _).mono ?_); rintro e w9 ⟨rfl, rfl⟩) | (at_lookup; refine look_ok hmp4 (by kernel_rfl) _ _ rfl rfl rfl rfl HTW.out ?_))
              rw [HBE.out]
              exact door_panic rfl rfl HM4.out.res HM4.out.below
        · have HBE := Lib.hid (show E = 52 by
            have h1 : topE (tops.take k) ⟨nm, pt⟩ = 52 := by unfold topE; rw [if_neg (by simp [HN.out]), if_pos ((partsG_some nm _).1 HTW.out)]
            rw [HBAD.out (by rw [h1]; decide), h1])
          go_wp2_with (first | (go_at_call 100; (with_reducible refine (need_ok _ _ _).mono ?_); rintro e w9 ⟨rfl, rfl⟩) | (go_at_call 100; (with_reducible refine (need_no _ _ _).mono ?_); rintro e w9 ⟨rfl, rfl⟩) | (at_lookup; refine look_ok hmp4 (by kernel_rfl) _ _ rfl rfl rfl rfl HTW.out ?_))
          rw [HBE.out]
          exact door_panic rfl rfl HM4.out.res HM4.out.below
    · obtain rfl : k = tops.length := by omega
      have hlt' : ¬ (tops.length : Int) < tops.length := by omega
      obtain ⟨wo, rfl⟩ : ∃ wo : World, wo = wr := ⟨_, rfl⟩
      have HTE := Lib.hid (show topsE [] tops = 0 by have := hte.out; rw [List.take_length] at this; exact this)
      have hmpF : StrMap wo (w.heap.size + 1 + 1 + 1) (partsG tops) := by rw [List.take_length] at hmp; exact hmp
      have kb1 : (((wo.alloc (.map #[] 0)).alloc (.map #[] 0)).alloc (.map #[] 0)).cell? ⟨w.heap.size, 1, none⟩ = some (.slice A2 fl.length c2) := (((hM.alloc _).alloc _).alloc _).b1
      have hlp := hmpF.lt
      have HMP := Lib.hid hmpF
      have HM := Lib.hid hM
      clear hte hmp hM hmpF hk
      go_wp2
      go_loopw [79] (fun i wr => ∃ k : Nat, k ≤ fl.length ∧ i = .int .i64 (k : Int) ∧ Mem w (.slice A1 tops.length c1) (.slice A2 fl.length c2) wr ∧ StrMap wr (w.heap.size + 1 + 1 + 1) (partsG tops) ∧ StrMap wr (wo.heap.size) (fun _ => none) ∧ StrMap wr (wo.heap.size + 1) (fun _ => none) ∧ StrMap wr (wo.heap.size + 1 + 1) (wroteG ((fl.map (·.f)).take k))) (fun i _ => fl.length - (RowKit.intOf i).toNat)
      case atStart =>
        refine ⟨0, Nat.zero_le _, rfl, ((HM.out.alloc _).alloc _).alloc _, ((HMP.out.below (box_below _ _)).below (box_below _ _)).below (box_below _ _), ((made_at rfl).below (box_below _ _)).below (box_below _ _), (made_at (by simp)).below (box_below _ _), strPut_eq (made_at (by simp)) (fun _ => rfl)⟩
      case round =>
        obtain ⟨k, hk, rfl, hM, hmp, hmn, hmw, hmi⟩ := hrel
        by_cases hlt : k < fl.length
        · have hlt' : (k : Int) < fl.length := by omega
          obtain ⟨b, o, rfl, hrow⟩ := HR2.out (by omega)
          obtain ⟨⟨f, pv, qv⟩, hx⟩ : ∃ x, fl[k]? = some x := ⟨_, List.getElem?_eq_getElem hlt⟩
          obtain ⟨pA, pc, rfl⟩ : ∃ A c, pv = .slice A f.pre.length c := let ⟨A, c, h, _⟩ := HP.out.pre _ (List.mem_of_getElem? hx); ⟨A, c, h⟩
          obtain ⟨qA, qc, rfl⟩ : ∃ A c, qv = .slice A f.post.length c := let ⟨A, c, h, _⟩ := HP.out.post _ (List.mem_of_getElem? hx); ⟨A, c, h⟩
          have hxf : (fl.map (·.f))[k]? = some f := by rw [List.getElem?_map, hx]; rfl
          have hrow2 := hrow.below hM.below
          have d0 : wr.cell? ⟨b, o + k * 12, none⟩ = some (.string f.name) := hrow2 (k * 12 + 0) _ (flat_get flwvCells 12 (fun _ => rfl) _ k 0 _ hx (by decide))
          have d1 : wr.cell? ⟨b, o + k * 12 + 1, none⟩ = some (.string f.frm) := hrow2 (k * 12 + 1) _ (flat_get flwvCells 12 (fun _ => rfl) _ k 1 _ hx (by decide))
          have d2 : wr.cell? ⟨b, o + k * 12 + 2, none⟩ = some (.string f.to) := hrow2 (k * 12 + 2) _ (flat_get flwvCells 12 (fun _ => rfl) _ k 2 _ hx (by decide))
          have d3 : wr.cell? ⟨b, o + k * 12 + 3, none⟩ = some (.int .i64 f.bound) := hrow2 (k * 12 + 3) _ (flat_get flwvCells 12 (fun _ => rfl) _ k 3 _ hx (by decide))
          have d4 : wr.cell? ⟨b, o + k * 12 + 4, none⟩ = some (.int .i64 f.readers) := hrow2 (k * 12 + 4) _ (flat_get flwvCells 12 (fun _ => rfl) _ k 4 _ hx (by decide))
          have d5 : wr.cell? ⟨b, o + k * 12 + 5, none⟩ = some (.int .i64 f.keepers) := hrow2 (k * 12 + 5) _ (flat_get flwvCells 12 (fun _ => rfl) _ k 5 _ hx (by decide))
          have d6 : wr.cell? ⟨b, o + k * 12 + 6, none⟩ = some (.slice pA f.pre.length pc) := hrow2 (k * 12 + 6) _ (flat_get flwvCells 12 (fun _ => rfl) _ k 6 _ hx (by decide))
          have d7 : wr.cell? ⟨b, o + k * 12 + 7, none⟩ = some (.int .i64 f.wk) := hrow2 (k * 12 + 7) _ (flat_get flwvCells 12 (fun _ => rfl) _ k 7 _ hx (by decide))
          have d8 : wr.cell? ⟨b, o + k * 12 + 8, none⟩ = some (.int .i64 f.ws) := hrow2 (k * 12 + 8) _ (flat_get flwvCells 12 (fun _ => rfl) _ k 8 _ hx (by decide))
          have d9 : wr.cell? ⟨b, o + k * 12 + 9, none⟩ = some (.int .i64 f.wl) := hrow2 (k * 12 + 9) _ (flat_get flwvCells 12 (fun _ => rfl) _ k 9 _ hx (by decide))
          have d10 : wr.cell? ⟨b, o + k * 12 + 10, none⟩ = some (.int .i64 f.agg) := hrow2 (k * 12 + 10) _ (flat_get flwvCells 12 (fun _ => rfl) _ k 10 _ hx (by decide))
          have d11 : wr.cell? ⟨b, o + k * 12 + 11, none⟩ = some (.slice qA f.post.length qc) := hrow2 (k * 12 + 11) _ (flat_get flwvCells 12 (fun _ => rfl) _ k 11 _ hx (by decide))
          have HX := Lib.hid hx
          have HXF := Lib.hid hxf
          clear hx hxf hrow hrow2
          obtain ⟨n, hn⟩ : ∃ n, wrote ((fl.map (·.f)).take k) f.to.data.toList = n := ⟨_, rfl⟩
          have hn8 : n ≤ 8 := by have := wrote_le ((fl.map (·.f)).take k) f.to.data.toList; rw [List.length_take] at this; omega
          have HN := Lib.hid (show (wroteG ((fl.map (·.f)).take k) f.to.data.toList).getD 0 = (n : Int) by rw [wroteG_get, hn])
          have HN2 := Lib.hid hn
          clear hn
          have hni : (n : Int) ≤ 8 := by omega
          have hi5 := hmi.below (box_below _ (.cells #[.string f.name, .string f.frm, .string f.to, .int .i64 f.bound, .int .i64 f.readers, .int .i64 f.keepers, .slice pA f.pre.length pc, .int .i64 f.wk, .int .i64 f.ws, .int .i64 f.wl, .int .i64 f.agg, .slice qA f.post.length qc] 71))
          go_wp2_with (first | (at_lookup; refine look_str hi5 (by kernel_rfl) _ _ rfl rfl rfl HN.out ?_) | (at_mapUpdate; refine put_str hi5 (by kernel_rfl) _ _ _ rfl rfl rfl rfl ?_; intro w6 hm6 hb6))
          go_roundw
          case rel =>
            refine ⟨k + 1, by omega, by go_num, (hM.alloc _).but hb6 (by omega), (hmp.below (box_below _ _)).but hb6 (by omega), (hmn.below (box_below _ _)).but hb6 (by omega), (hmw.below (box_below _ _)).but hb6 (by omega), strPut_eq hm6 (fun s => ?_)⟩
            rw [List.take_add_one, HXF.out]
            show wroteG (_ ++ [f]) s = _
            unfold wroteG strPut
            rw [wrote_snoc]
            by_cases hs : s = f.to.data.toList
            · rw [if_pos hs, if_pos hs, hs, HN2.out, if_neg (by omega)]; rfl
            · rw [if_neg hs, if_neg hs]
          case measure => simp [RowKit.intOf]; omega
        · obtain rfl : k = fl.length := by omega
          have hlt' : ¬ (fl.length : Int) < fl.length := by omega
          have hmiF : StrMap wr (wo.heap.size + 1 + 1) (wroteG (fl.map (·.f))) := by rw [List.take_of_length_le (by simp)] at hmi; exact hmi
          have kb1 := hM.b1
          clear hmi hk
          have HM2 := Lib.hid hM
          clear hM HM HMP
          go_wp2
          obtain ⟨wq, rfl⟩ : ∃ wq : World, wq = wr := ⟨_, rfl⟩
          go_loopw [92] (fun i wr => ∃ k : Nat, k ≤ fl.length ∧ i = .int .i64 (k : Int) ∧ Mem w (.slice A1 tops.length c1) (.slice A2 fl.length c2) wr ∧ StrMap wr (w.heap.size + 1 + 1 + 1) (partsG tops) ∧ StrMap wr (wo.heap.size + 1 + 1) (wroteG (fl.map (·.f))) ∧ (∃ gn, StrMap wr (wo.heap.size) gn ∧ Hid (∀ s : ByteArray, (gn s.data.toList).getD 0 = 0 ↔ ¬ ∃ g ∈ (fl.map (·.f)).take k, g.name = s)) ∧ (∃ gw, StrMap wr (wo.heap.size + 1) gw ∧ Hid (∀ s : ByteArray, (gw s.data.toList).getD 0 = 0 ↔ ¬ ∃ g ∈ (fl.map (·.f)).take k, g.to = s)) ∧ Hid (flowsE (plnOf tops fl) [] ((fl.map (·.f)).take k) = 0)) (fun i _ => fl.length - (RowKit.intOf i).toNat)
          case atStart => exact ⟨0, Nat.zero_le _, rfl, HM2.out, hmp, hmiF, ⟨_, hmn, Lib.hid (by simp)⟩, ⟨_, hmw, Lib.hid (by simp)⟩, Lib.hid rfl⟩
          case round =>
            clear hmp hmn hmw hmiF kb1
            obtain ⟨k, hk, rfl, hM, hmp, hmi, ⟨gn, hmn, hgn⟩, ⟨gw, hmw, hgw⟩, hfe⟩ := hrel
            have hln := hmn.lt
            have hlw := hmw.lt
            have hli := hmi.lt
            by_cases hlt : k < fl.length
            · have hlt' : (k : Int) < fl.length := by omega
              obtain ⟨b, o, rfl, hrow⟩ := HR2.out (by omega)
              obtain ⟨⟨f, pv, qv⟩, hx⟩ : ∃ x, fl[k]? = some x := ⟨_, List.getElem?_eq_getElem hlt⟩
              obtain ⟨pA, pc, rfl⟩ : ∃ A c, pv = .slice A f.pre.length c := let ⟨A, c, h, _⟩ := HP.out.pre _ (List.mem_of_getElem? hx); ⟨A, c, h⟩
              obtain ⟨qA, qc, rfl⟩ : ∃ A c, qv = .slice A f.post.length c := let ⟨A, c, h, _⟩ := HP.out.post _ (List.mem_of_getElem? hx); ⟨A, c, h⟩
              have hxf : (fl.map (·.f))[k]? = some f := by rw [List.getElem?_map, hx]; rfl
              have hrow2 := hrow.below hM.below
              have d0 : wr.cell? ⟨b, o + k * 12, none⟩ = some (.string f.name) := hrow2 (k * 12 + 0) _ (flat_get flwvCells 12 (fun _ => rfl) _ k 0 _ hx (by decide))
              have d1 : wr.cell? ⟨b, o + k * 12 + 1, none⟩ = some (.string f.frm) := hrow2 (k * 12 + 1) _ (flat_get flwvCells 12 (fun _ => rfl) _ k 1 _ hx (by decide))
              have d2 : wr.cell? ⟨b, o + k * 12 + 2, none⟩ = some (.string f.to) := hrow2 (k * 12 + 2) _ (flat_get flwvCells 12 (fun _ => rfl) _ k 2 _ hx (by decide))
              have d3 : wr.cell? ⟨b, o + k * 12 + 3, none⟩ = some (.int .i64 f.bound) := hrow2 (k * 12 + 3) _ (flat_get flwvCells 12 (fun _ => rfl) _ k 3 _ hx (by decide))
              have d4 : wr.cell? ⟨b, o + k * 12 + 4, none⟩ = some (.int .i64 f.readers) := hrow2 (k * 12 + 4) _ (flat_get flwvCells 12 (fun _ => rfl) _ k 4 _ hx (by decide))
              have d5 : wr.cell? ⟨b, o + k * 12 + 5, none⟩ = some (.int .i64 f.keepers) := hrow2 (k * 12 + 5) _ (flat_get flwvCells 12 (fun _ => rfl) _ k 5 _ hx (by decide))
              have d6 : wr.cell? ⟨b, o + k * 12 + 6, none⟩ = some (.slice pA f.pre.length pc) := hrow2 (k * 12 + 6) _ (flat_get flwvCells 12 (fun _ => rfl) _ k 6 _ hx (by decide))
              have d7 : wr.cell? ⟨b, o + k * 12 + 7, none⟩ = some (.int .i64 f.wk) := hrow2 (k * 12 + 7) _ (flat_get flwvCells 12 (fun _ => rfl) _ k 7 _ hx (by decide))
              have d8 : wr.cell? ⟨b, o + k * 12 + 8, none⟩ = some (.int .i64 f.ws) := hrow2 (k * 12 + 8) _ (flat_get flwvCells 12 (fun _ => rfl) _ k 8 _ hx (by decide))
              have d9 : wr.cell? ⟨b, o + k * 12 + 9, none⟩ = some (.int .i64 f.wl) := hrow2 (k * 12 + 9) _ (flat_get flwvCells 12 (fun _ => rfl) _ k 9 _ hx (by decide))
              have d10 : wr.cell? ⟨b, o + k * 12 + 10, none⟩ = some (.int .i64 f.agg) := hrow2 (k * 12 + 10) _ (flat_get flwvCells 12 (fun _ => rfl) _ k 10 _ hx (by decide))
              have d11 : wr.cell? ⟨b, o + k * 12 + 11, none⟩ = some (.slice qA f.post.length qc) := hrow2 (k * 12 + 11) _ (flat_get flwvCells 12 (fun _ => rfl) _ k 11 _ hx (by decide))
              have HX := Lib.hid hx
              have HXF := Lib.hid hxf
              clear hx hxf hrow hrow2
              have HBAD : Hid (flowE (plnOf tops fl) ((fl.map (·.f)).take k) f ≠ 0 → E = flowE (plnOf tops fl) ((fl.map (·.f)).take k) f) := Lib.hid (fun hn => by
                have h1 := flowsE_at (plnOf tops fl) f (fl.map (·.f)) [] k hfe.out HXF.out (by rw [List.nil_append]; exact hn)
                rw [List.nil_append] at h1
                rw [HE.out, if_pos HTE.out, h1])
              obtain ⟨tn, htn⟩ : ∃ tn, nameOk f.name = tn := ⟨_, rfl⟩
              have HN := Lib.hid htn
              clear htn
              have HM := Lib.hid hM
              clear hM
              go_wp2_with fail
              refine (named_is HN.out _).mono ?_
              rintro e w4 ⟨rfl, hB4⟩
              have e0 : w4.cell? ⟨wr.heap.size, 0, none⟩ = some (.string f.name) := kc hB4 (cell_new rfl rfl)
              have e1 : w4.cell? ⟨wr.heap.size, 1, none⟩ = some (.string f.frm) := kc hB4 (cell_new rfl rfl)
              have e2 : w4.cell? ⟨wr.heap.size, 2, none⟩ = some (.string f.to) := kc hB4 (cell_new rfl rfl)
              have e3 : w4.cell? ⟨wr.heap.size, 3, none⟩ = some (.int .i64 f.bound) := kc hB4 (cell_new rfl rfl)
              have e4 : w4.cell? ⟨wr.heap.size, 4, none⟩ = some (.int .i64 f.readers) := kc hB4 (cell_new rfl rfl)
              have e5 : w4.cell? ⟨wr.heap.size, 5, none⟩ = some (.int .i64 f.keepers) := kc hB4 (cell_new rfl rfl)
              have e6 : w4.cell? ⟨wr.heap.size, 6, none⟩ = some (.slice pA f.pre.length pc) := kc hB4 (cell_new rfl rfl)
              have e7 : w4.cell? ⟨wr.heap.size, 7, none⟩ = some (.int .i64 f.wk) := kc hB4 (cell_new rfl rfl)
              have e8 : w4.cell? ⟨wr.heap.size, 8, none⟩ = some (.int .i64 f.ws) := kc hB4 (cell_new rfl rfl)
              have e9 : w4.cell? ⟨wr.heap.size, 9, none⟩ = some (.int .i64 f.wl) := kc hB4 (cell_new rfl rfl)
              have e10 : w4.cell? ⟨wr.heap.size, 10, none⟩ = some (.int .i64 f.agg) := kc hB4 (cell_new rfl rfl)
              have e11 : w4.cell? ⟨wr.heap.size, 11, none⟩ = some (.slice qA f.post.length qc) := kc hB4 (cell_new rfl rfl)
              have hM4 := (HM.out.alloc _).belowX hB4
              have hmp4 := (hmp.below (box_below _ _)).below hB4
              have hmi4 := (hmi.below (box_below _ _)).below hB4
              have hmn4 := (hmn.below (box_below _ _)).below hB4
              have hmw4 := (hmw.below (box_below _ _)).below hB4
              have HM4 := Lib.hid hM4
              clear hB4 hmp hmi hmn hmw hM4 d0 d1 d2 d3 d4 d5 d6 d7 d8 d9 d10 d11
              obtain ⟨nn, hnn⟩ : ∃ x, (gn f.name.data.toList).getD 0 = x := ⟨_, rfl⟩
              have Hnn := Lib.hid hnn
              clear hnn
              obtain ⟨np, hnp⟩ : ∃ x, (partsG tops f.frm.data.toList).getD 0 = x := ⟨_, rfl⟩
              have Hnp := Lib.hid hnp
              clear hnp
              obtain ⟨nt, hnt⟩ : ∃ x, (partsG tops f.to.data.toList).getD 0 = x := ⟨_, rfl⟩
              have Hnt := Lib.hid hnt
              clear hnt
              obtain ⟨nw, hnw⟩ : ∃ x, (gw f.to.data.toList).getD 0 = x := ⟨_, rfl⟩
              have Hnw := Lib.hid hnw
              clear hnw
              obtain ⟨ni, hni⟩ : ∃ x, (wroteG (fl.map (·.f)) f.frm.data.toList).getD 0 = x := ⟨_, rfl⟩
              have Hni := Lib.hid hni
              clear hni
              cases tn
              · skip
                have HBE := Lib.hid (show E = 51 by
                  have h1 : flowE (plnOf tops fl) ((fl.map (·.f)).take k) f = 51 := by unfold flowE; rw [if_pos HN.out]
                  rw [HBAD.out (by rw [h1]; decide), h1])
                go_wp2_with (first | (go_at_call 100; (with_reducible refine (need_no _ _ _).mono ?_); rintro e w9 ⟨rfl, rfl⟩))
                rw [HBE.out]
                exact door_panic rfl rfl HM4.out.res HM4.out.below
              · have g1 := Lib.hid (show ¬ nameOk f.name = false by rw [HN.out]; simp)
                by_cases hnn : nn = 0
                · have HG2 := Lib.hid (show ¬ ∃ g ∈ ((fl.map (·.f)).take k), g.name = f.name from (hgn.out _).1 (Hnn.out.trans hnn))
                  have q1 : ((nn : Int) == 0) = true := by simpa using hnn
                  have Hnn0 := Lib.hid hnn
                  clear hnn
                  have HNP := Lib.hid (show np = partsOf (plnOf tops fl).tops f.frm from Hnp.out.symm.trans (partsG_get _ _))
                  have HNT := Lib.hid (show nt = partsOf (plnOf tops fl).tops f.to from Hnt.out.symm.trans (partsG_get _ _))
                  by_cases hA : 0 < np
                  · by_cases hB : nt = 16
                    · by_cases hC : f.frm = f.to
                      · have q2 : ((nt : Int) == 16) = true := by simpa using hB
                        have q3 : (f.frm.toList == f.to.toList) = true := by rw [hC]; simp
                        have HC := Lib.hid hC
                        clear hB hC
                        have HBE := Lib.hid (show E = 53 by
                          have h1 : flowE (plnOf tops fl) ((fl.map (·.f)).take k) f = 53 := by unfold flowE; rw [if_neg g1.out, if_neg HG2.out, if_pos (fun q => q.2.2.1 HC.out)]
                          rw [HBAD.out (by rw [h1]; decide), h1])
                        go_wp2_with (first | (go_at_call 100; (with_reducible refine (need_ok _ _ _).mono ?_); rintro e w9 ⟨rfl, rfl⟩) | (go_at_call 100; (with_reducible refine (need_no _ _ _).mono ?_); rintro e w9 ⟨rfl, rfl⟩) | (at_lookup; refine look_str hmn4 (by kernel_rfl) _ _ rfl rfl rfl Hnn.out ?_) | (at_mapUpdate; refine put_str hmn4 (by kernel_rfl) _ _ _ rfl rfl rfl rfl ?_; intro w6 hmw6x hb6; have e0x := hb6.cell (by simp; omega) e0; have e1x := hb6.cell (by simp; omega) e1; have e2x := hb6.cell (by simp; omega) e2; have e3x := hb6.cell (by simp; omega) e3; have e4x := hb6.cell (by simp; omega) e4; have e5x := hb6.cell (by simp; omega) e5; have e6x := hb6.cell (by simp; omega) e6; have e7x := hb6.cell (by simp; omega) e7; have e8x := hb6.cell (by simp; omega) e8; have e9x := hb6.cell (by simp; omega) e9; have e10x := hb6.cell (by simp; omega) e10; have e11x := hb6.cell (by simp; omega) e11; have hmp6 := hmp4.but hb6 (by omega); have hmi6 := hmi4.but hb6 (by omega); have hmw6 := hmw4.but hb6 (by omega); have HM6 := Lib.hid (HM4.out.but hb6 (by omega)); clear hb6 e0 e1 e2 e3 e4 e5 e6 e7 e8 e9 e10 e11 hmp4 hmi4 hmw4 hmn4) | (at_lookup; refine look_str hmp6 (by kernel_rfl) _ _ rfl rfl rfl Hnp.out ?_) | (at_lookup; refine look_str hmp6 (by kernel_rfl) _ _ rfl rfl rfl Hnt.out ?_))
                        rw [HBE.out]
                        exact door_panic rfl rfl HM6.out.res HM6.out.below
                      · have q2 : ((nt : Int) == 16) = true := by simpa using hB
                        have q3 : (f.frm.toList == f.to.toList) = false := by rw [beq_eq_false_iff_ne]; intro e; rw [toList_data, toList_data] at e; exact hC (bytes_eq e)
                        have HB16 := Lib.hid hB
                        have HC := Lib.hid hC
                        clear hB hC
                        by_cases hD : nw = 0
                        · have q4 : ((nw : Int) == 0) = true := by simpa using hD
                          have HG3 := Lib.hid (show ¬ ∃ g ∈ ((fl.map (·.f)).take k), g.to = f.to from (hgw.out _).1 (Hnw.out.trans hD))
                          clear hD
                          have HG4 := Lib.hid (show ¬ ¬ (0 < partsOf (plnOf tops fl).tops f.frm ∧ partsOf (plnOf tops fl).tops f.to = 16 ∧ f.frm ≠ f.to ∧ ∀ g ∈ ((fl.map (·.f)).take k), g.to ≠ f.to) from fun q => q ⟨by rw [← HNP.out]; exact hA, by rw [← HNT.out]; exact HB16.out, HC.out, fun g hg e => HG3.out ⟨g, hg, e⟩⟩)
                          have hni : ni = 0 ↔ ¬ ∃ g ∈ (plnOf tops fl).flows, g.to = f.frm := by
                            rw [← Hni.out, wroteG_get]
                            exact (by omega : ((wrote (fl.map (·.f)) f.frm.data.toList : Nat) : Int) = 0 ↔ wrote (fl.map (·.f)) f.frm.data.toList = 0).trans (wrote_zero _ _)
                          have HNI := Lib.hid hni
                          clear hni
                          obtain ⟨t5, ht5⟩ : ∃ t, ((ni : Int) == 0) = t := ⟨_, rfl⟩
                          obtain ⟨t6, ht6⟩ : ∃ t, ((f.bound : Int) == -1) = t := ⟨_, rfl⟩
                          by_cases hin : t5 = true ∨ t6 = true
                          · have HG5 := Lib.hid (show ¬ ((∃ g ∈ (plnOf tops fl).flows, g.to = f.frm) ∧ f.bound ≠ -1) by
                              rintro ⟨h1, h2⟩
                              rcases hin with h | h
                              · rw [h, beq_iff_eq] at ht5; exact (HNI.out.1 ht5) h1
                              · rw [h, beq_iff_eq] at ht6; exact h2 ht6)
                            have HFE := Lib.hid (show flowE (plnOf tops fl) ((fl.map (·.f)).take k) f = innerE np f by unfold flowE; rw [if_neg g1.out, if_neg HG2.out, if_neg HG4.out, if_neg HG5.out, HNP.out])
                            have HIN := Lib.hid hin
                            clear hin
                            cases t5 <;> cases t6
                            · exact absurd HIN.out (by simp)
                            all_goals
                              go_wp2_with (first | (go_at_call 100; (with_reducible refine (need_ok _ _ _).mono ?_); rintro e w9 ⟨rfl, rfl⟩) | (at_lookup; refine look_str hmn4 (by kernel_rfl) _ _ rfl rfl rfl Hnn.out ?_) | (at_mapUpdate; refine put_str hmn4 (by kernel_rfl) _ _ _ rfl rfl rfl rfl ?_; intro w6 hmw6x hb6; have e0x := hb6.cell (by simp; omega) e0; have e1x := hb6.cell (by simp; omega) e1; have e2x := hb6.cell (by simp; omega) e2; have e3x := hb6.cell (by simp; omega) e3; have e4x := hb6.cell (by simp; omega) e4; have e5x := hb6.cell (by simp; omega) e5; have e6x := hb6.cell (by simp; omega) e6; have e7x := hb6.cell (by simp; omega) e7; have e8x := hb6.cell (by simp; omega) e8; have e9x := hb6.cell (by simp; omega) e9; have e10x := hb6.cell (by simp; omega) e10; have e11x := hb6.cell (by simp; omega) e11; have hmp6 := hmp4.but hb6 (by omega); have hmi6 := hmi4.but hb6 (by omega); have hmw6 := hmw4.but hb6 (by omega); have HM6 := Lib.hid (HM4.out.but hb6 (by omega)); clear hb6 e0 e1 e2 e3 e4 e5 e6 e7 e8 e9 e10 e11 hmp4 hmi4 hmw4 hmn4) | (at_lookup; refine look_str hmp6 (by kernel_rfl) _ _ rfl rfl rfl Hnp.out ?_) | (at_lookup; refine look_str hmp6 (by kernel_rfl) _ _ rfl rfl rfl Hnt.out ?_) | (at_lookup; refine look_str hmw6 (by kernel_rfl) _ _ rfl rfl rfl Hnw.out ?_) | (at_mapUpdate; refine put_str hmw6 (by kernel_rfl) _ _ _ rfl rfl rfl rfl ?_; intro w7 hmw7 hb7; have e0 := hb7.cell (by simp; omega) e0x; have e1 := hb7.cell (by simp; omega) e1x; have e2 := hb7.cell (by simp; omega) e2x; have e3 := hb7.cell (by simp; omega) e3x; have e4 := hb7.cell (by simp; omega) e4x; have e5 := hb7.cell (by simp; omega) e5x; have e6 := hb7.cell (by simp; omega) e6x; have e7 := hb7.cell (by simp; omega) e7x; have e8 := hb7.cell (by simp; omega) e8x; have e9 := hb7.cell (by simp; omega) e9x; have e10 := hb7.cell (by simp; omega) e10x; have e11 := hb7.cell (by simp; omega) e11x; have hmp7 := hmp6.but hb7 (by omega); have hmi7 := hmi6.but hb7 (by omega); have hmn7 := hmw6x.but hb7 (by omega); have HM7 := Lib.hid (HM6.out.but hb7 (by omega)); clear hb7 e0x e1x e2x e3x e4x e5x e6x e7x e8x e9x e10x e11x hmp6 hmi6 hmw6 hmw6x) | (at_lookup; refine look_str hmi7 (by kernel_rfl) _ _ rfl rfl rfl Hni.out ?_) | (at_lookup; refine look_str hmp7 (by kernel_rfl) _ _ rfl rfl rfl Hnp.out ?_))
                              refine (checkFlow_calls f _ _ np _ _ ((HP.out.pre _ (List.mem_of_getElem? HX.out)).below HM7.out.below) ((HP.out.post _ (List.mem_of_getElem? HX.out)).below HM7.out.below) (HS.out _ (List.mem_of_getElem? HX.out)).1 (HS.out _ (List.mem_of_getElem? HX.out)).2 (HT.out.below HM7.out.below) (by have := HM7.out.below.size; omega)).mono ?_
                              rintro e w8 ⟨hB8, ⟨h0, rfl⟩ | ⟨h0, rfl⟩⟩
                              · have H0 := Lib.hid h0
                                have HM8 := Lib.hid (HM7.out.belowX hB8)
                                have hmp78 := hmp7.below hB8
                                have hmi78 := hmi7.below hB8
                                have hmn78 := hmn7.below hB8
                                have hmw78 := hmw7.below hB8
                                clear h0 hB8
                                go_wp2
                                go_roundw
                                case rel =>
                                  refine ⟨k + 1, by omega, by go_num, HM8.out, hmp78, hmi78, ⟨_, hmn78, Lib.hid (fun s => ?_)⟩, ⟨_, hmw78, Lib.hid (fun s => ?_)⟩, Lib.hid (flowsE_next _ _ _ _ _ hfe.out HXF.out (by rw [List.nil_append]; exact HFE.out.trans H0.out))⟩
                                  · rw [List.take_add_one, HXF.out]
                                    unfold strPut
                                    by_cases hs : s.data.toList = f.name.data.toList
                                    · rw [if_pos hs]
                                      exact ⟨fun h => absurd h (by simp; omega), fun h => absurd ⟨f, by simp, (bytes_eq hs).symm⟩ h⟩
                                    · rw [if_neg hs, hgn.out s]
                                      constructor
                                      · rintro h ⟨g, hg, e⟩
                                        rcases List.mem_append.1 hg with hg | hg
                                        · exact h ⟨g, hg, e⟩
                                        · obtain rfl : g = f := by simpa using hg
                                          exact hs (by rw [e])
                                      · rintro h ⟨g, hg, e⟩
                                        exact h ⟨g, List.mem_append_left _ hg, e⟩
                                  · rw [List.take_add_one, HXF.out]
                                    unfold strPut
                                    by_cases hs : s.data.toList = f.to.data.toList
                                    · rw [if_pos hs]
                                      exact ⟨fun h => absurd h (by simp; omega), fun h => absurd ⟨f, by simp, (bytes_eq hs).symm⟩ h⟩
                                    · rw [if_neg hs, hgw.out s]
                                      constructor
                                      · rintro h ⟨g, hg, e⟩
                                        rcases List.mem_append.1 hg with hg | hg
                                        · exact h ⟨g, hg, e⟩
                                        · obtain rfl : g = f := by simpa using hg
                                          exact hs (by rw [e])
                                      · rintro h ⟨g, hg, e⟩
                                        exact h ⟨g, List.mem_append_left _ hg, e⟩
                                case measure => simp [RowKit.intOf]; omega
                              · have HBE := Lib.hid (show E = innerE np f by rw [HBAD.out (by rw [HFE.out]; exact h0), HFE.out])
                                go_wp2
                                rw [HBE.out]
                                have HM8 := HM7.out.belowX hB8
                                exact door_panic rfl rfl HM8.res HM8.below
                          · have h5 : t5 = false := by simpa using fun h => hin (.inl h)
                            have h6 : t6 = false := by simpa using fun h => hin (.inr h)
                            subst h5 h6
                            have HG5 := Lib.hid (show (∃ g ∈ (plnOf tops fl).flows, g.to = f.frm) ∧ f.bound ≠ -1 from ⟨Decidable.byContradiction (fun q => by rw [beq_eq_false_iff_ne] at ht5; exact ht5 (HNI.out.2 q)), by rw [beq_eq_false_iff_ne] at ht6; exact ht6⟩)
                            clear hin
                            have HBE := Lib.hid (show E = 1 by
                              have h1 : flowE (plnOf tops fl) ((fl.map (·.f)).take k) f = 1 := by unfold flowE; rw [if_neg g1.out, if_neg HG2.out, if_neg HG4.out, if_pos HG5.out]
                              rw [HBAD.out (by rw [h1]; decide), h1])
                            go_wp2_with (first | (go_at_call 100; (with_reducible refine (need_ok _ _ _).mono ?_); rintro e w9 ⟨rfl, rfl⟩) | (go_at_call 100; (with_reducible refine (need_no _ _ _).mono ?_); rintro e w9 ⟨rfl, rfl⟩) | (at_lookup; refine look_str hmn4 (by kernel_rfl) _ _ rfl rfl rfl Hnn.out ?_) | (at_mapUpdate; refine put_str hmn4 (by kernel_rfl) _ _ _ rfl rfl rfl rfl ?_; intro w6 hmw6x hb6; have e0x := hb6.cell (by simp; omega) e0; have e1x := hb6.cell (by simp; omega) e1; have e2x := hb6.cell (by simp; omega) e2; have e3x := hb6.cell (by simp; omega) e3; have e4x := hb6.cell (by simp; omega) e4; have e5x := hb6.cell (by simp; omega) e5; have e6x := hb6.cell (by simp; omega) e6; have e7x := hb6.cell (by simp; omega) e7; have e8x := hb6.cell (by simp; omega) e8; have e9x := hb6.cell (by simp; omega) e9; have e10x := hb6.cell (by simp; omega) e10; have e11x := hb6.cell (by simp; omega) e11; have hmp6 := hmp4.but hb6 (by omega); have hmi6 := hmi4.but hb6 (by omega); have hmw6 := hmw4.but hb6 (by omega); have HM6 := Lib.hid (HM4.out.but hb6 (by omega)); clear hb6 e0 e1 e2 e3 e4 e5 e6 e7 e8 e9 e10 e11 hmp4 hmi4 hmw4 hmn4) | (at_lookup; refine look_str hmp6 (by kernel_rfl) _ _ rfl rfl rfl Hnp.out ?_) | (at_lookup; refine look_str hmp6 (by kernel_rfl) _ _ rfl rfl rfl Hnt.out ?_) | (at_lookup; refine look_str hmw6 (by kernel_rfl) _ _ rfl rfl rfl Hnw.out ?_) | (at_mapUpdate; refine put_str hmw6 (by kernel_rfl) _ _ _ rfl rfl rfl rfl ?_; intro w7 hmw7 hb7; have e0 := hb7.cell (by simp; omega) e0x; have e1 := hb7.cell (by simp; omega) e1x; have e2 := hb7.cell (by simp; omega) e2x; have e3 := hb7.cell (by simp; omega) e3x; have e4 := hb7.cell (by simp; omega) e4x; have e5 := hb7.cell (by simp; omega) e5x; have e6 := hb7.cell (by simp; omega) e6x; have e7 := hb7.cell (by simp; omega) e7x; have e8 := hb7.cell (by simp; omega) e8x; have e9 := hb7.cell (by simp; omega) e9x; have e10 := hb7.cell (by simp; omega) e10x; have e11 := hb7.cell (by simp; omega) e11x; have hmp7 := hmp6.but hb7 (by omega); have hmi7 := hmi6.but hb7 (by omega); have hmn7 := hmw6x.but hb7 (by omega); have HM7 := Lib.hid (HM6.out.but hb7 (by omega)); clear hb7 e0x e1x e2x e3x e4x e5x e6x e7x e8x e9x e10x e11x hmp6 hmi6 hmw6 hmw6x) | (at_lookup; refine look_str hmi7 (by kernel_rfl) _ _ rfl rfl rfl Hni.out ?_))
                            rw [HBE.out]
                            exact door_panic rfl rfl HM7.out.res HM7.out.below
                        · have q4 : ((nw : Int) == 0) = false := by simpa using hD
                          have HG3 := Lib.hid (show ∃ g ∈ ((fl.map (·.f)).take k), g.to = f.to from Decidable.byContradiction (fun q => hD (Hnw.out.symm.trans ((hgw.out _).2 q))))
                          clear hD
                          have HBE := Lib.hid (show E = 53 by
                            have h1 : flowE (plnOf tops fl) ((fl.map (·.f)).take k) f = 53 := by unfold flowE; rw [if_neg g1.out, if_neg HG2.out, if_pos (fun q => let ⟨g, hg, e⟩ := HG3.out; q.2.2.2 g hg e)]
                            rw [HBAD.out (by rw [h1]; decide), h1])
                          go_wp2_with (first | (go_at_call 100; (with_reducible refine (need_ok _ _ _).mono ?_); rintro e w9 ⟨rfl, rfl⟩) | (go_at_call 100; (with_reducible refine (need_no _ _ _).mono ?_); rintro e w9 ⟨rfl, rfl⟩) | (at_lookup; refine look_str hmn4 (by kernel_rfl) _ _ rfl rfl rfl Hnn.out ?_) | (at_mapUpdate; refine put_str hmn4 (by kernel_rfl) _ _ _ rfl rfl rfl rfl ?_; intro w6 hmw6x hb6; have e0x := hb6.cell (by simp; omega) e0; have e1x := hb6.cell (by simp; omega) e1; have e2x := hb6.cell (by simp; omega) e2; have e3x := hb6.cell (by simp; omega) e3; have e4x := hb6.cell (by simp; omega) e4; have e5x := hb6.cell (by simp; omega) e5; have e6x := hb6.cell (by simp; omega) e6; have e7x := hb6.cell (by simp; omega) e7; have e8x := hb6.cell (by simp; omega) e8; have e9x := hb6.cell (by simp; omega) e9; have e10x := hb6.cell (by simp; omega) e10; have e11x := hb6.cell (by simp; omega) e11; have hmp6 := hmp4.but hb6 (by omega); have hmi6 := hmi4.but hb6 (by omega); have hmw6 := hmw4.but hb6 (by omega); have HM6 := Lib.hid (HM4.out.but hb6 (by omega)); clear hb6 e0 e1 e2 e3 e4 e5 e6 e7 e8 e9 e10 e11 hmp4 hmi4 hmw4 hmn4) | (at_lookup; refine look_str hmp6 (by kernel_rfl) _ _ rfl rfl rfl Hnp.out ?_) | (at_lookup; refine look_str hmp6 (by kernel_rfl) _ _ rfl rfl rfl Hnt.out ?_) | (at_lookup; refine look_str hmw6 (by kernel_rfl) _ _ rfl rfl rfl Hnw.out ?_))
                          rw [HBE.out]
                          exact door_panic rfl rfl HM6.out.res HM6.out.below
                    · have q2 : ((nt : Int) == 16) = false := by simpa using hB
                      have HB16 := Lib.hid hB
                      clear hB
                      have HBE := Lib.hid (show E = 53 by
                        have h1 : flowE (plnOf tops fl) ((fl.map (·.f)).take k) f = 53 := by unfold flowE; rw [if_neg g1.out, if_neg HG2.out, if_pos (fun q => HB16.out (HNT.out.trans q.2.1))]
                        rw [HBAD.out (by rw [h1]; decide), h1])
                      go_wp2_with (first | (go_at_call 100; (with_reducible refine (need_ok _ _ _).mono ?_); rintro e w9 ⟨rfl, rfl⟩) | (go_at_call 100; (with_reducible refine (need_no _ _ _).mono ?_); rintro e w9 ⟨rfl, rfl⟩) | (at_lookup; refine look_str hmn4 (by kernel_rfl) _ _ rfl rfl rfl Hnn.out ?_) | (at_mapUpdate; refine put_str hmn4 (by kernel_rfl) _ _ _ rfl rfl rfl rfl ?_; intro w6 hmw6x hb6; have e0x := hb6.cell (by simp; omega) e0; have e1x := hb6.cell (by simp; omega) e1; have e2x := hb6.cell (by simp; omega) e2; have e3x := hb6.cell (by simp; omega) e3; have e4x := hb6.cell (by simp; omega) e4; have e5x := hb6.cell (by simp; omega) e5; have e6x := hb6.cell (by simp; omega) e6; have e7x := hb6.cell (by simp; omega) e7; have e8x := hb6.cell (by simp; omega) e8; have e9x := hb6.cell (by simp; omega) e9; have e10x := hb6.cell (by simp; omega) e10; have e11x := hb6.cell (by simp; omega) e11; have hmp6 := hmp4.but hb6 (by omega); have hmi6 := hmi4.but hb6 (by omega); have hmw6 := hmw4.but hb6 (by omega); have HM6 := Lib.hid (HM4.out.but hb6 (by omega)); clear hb6 e0 e1 e2 e3 e4 e5 e6 e7 e8 e9 e10 e11 hmp4 hmi4 hmw4 hmn4) | (at_lookup; refine look_str hmp6 (by kernel_rfl) _ _ rfl rfl rfl Hnp.out ?_) | (at_lookup; refine look_str hmp6 (by kernel_rfl) _ _ rfl rfl rfl Hnt.out ?_))
                      rw [HBE.out]
                      exact door_panic rfl rfl HM6.out.res HM6.out.below
                  · have q2 : decide (0 < np) = false := decide_eq_false hA
                    have HA := Lib.hid hA
                    clear hA
                    have HBE := Lib.hid (show E = 53 by
                      have h1 : flowE (plnOf tops fl) ((fl.map (·.f)).take k) f = 53 := by unfold flowE; rw [if_neg g1.out, if_neg HG2.out, if_pos (fun q => HA.out (by rw [HNP.out]; exact q.1))]
                      rw [HBAD.out (by rw [h1]; decide), h1])
                    go_wp2_with (first | (go_at_call 100; (with_reducible refine (need_ok _ _ _).mono ?_); rintro e w9 ⟨rfl, rfl⟩) | (go_at_call 100; (with_reducible refine (need_no _ _ _).mono ?_); rintro e w9 ⟨rfl, rfl⟩) | (at_lookup; refine look_str hmn4 (by kernel_rfl) _ _ rfl rfl rfl Hnn.out ?_) | (at_mapUpdate; refine put_str hmn4 (by kernel_rfl) _ _ _ rfl rfl rfl rfl ?_; intro w6 hmw6x hb6; have e0x := hb6.cell (by simp; omega) e0; have e1x := hb6.cell (by simp; omega) e1; have e2x := hb6.cell (by simp; omega) e2; have e3x := hb6.cell (by simp; omega) e3; have e4x := hb6.cell (by simp; omega) e4; have e5x := hb6.cell (by simp; omega) e5; have e6x := hb6.cell (by simp; omega) e6; have e7x := hb6.cell (by simp; omega) e7; have e8x := hb6.cell (by simp; omega) e8; have e9x := hb6.cell (by simp; omega) e9; have e10x := hb6.cell (by simp; omega) e10; have e11x := hb6.cell (by simp; omega) e11; have hmp6 := hmp4.but hb6 (by omega); have hmi6 := hmi4.but hb6 (by omega); have hmw6 := hmw4.but hb6 (by omega); have HM6 := Lib.hid (HM4.out.but hb6 (by omega)); clear hb6 e0 e1 e2 e3 e4 e5 e6 e7 e8 e9 e10 e11 hmp4 hmi4 hmw4 hmn4) | (at_lookup; refine look_str hmp6 (by kernel_rfl) _ _ rfl rfl rfl Hnp.out ?_))
                    rw [HBE.out]
                    exact door_panic rfl rfl HM6.out.res HM6.out.below
                · have HG2 := Lib.hid (show ∃ g ∈ ((fl.map (·.f)).take k), g.name = f.name from Decidable.byContradiction (fun q => hnn (Hnn.out.symm.trans ((hgn.out _).2 q))))
                  have q1 : ((nn : Int) == 0) = false := by simpa using hnn
                  clear hnn
                  have HBE := Lib.hid (show E = 52 by
                    have h1 : flowE (plnOf tops fl) ((fl.map (·.f)).take k) f = 52 := by unfold flowE; rw [if_neg g1.out, if_pos HG2.out]
                    rw [HBAD.out (by rw [h1]; decide), h1])
                  go_wp2_with (first | (go_at_call 100; (with_reducible refine (need_ok _ _ _).mono ?_); rintro e w9 ⟨rfl, rfl⟩) | (go_at_call 100; (with_reducible refine (need_no _ _ _).mono ?_); rintro e w9 ⟨rfl, rfl⟩) | (at_lookup; refine look_str hmn4 (by kernel_rfl) _ _ rfl rfl rfl Hnn.out ?_))
                  rw [HBE.out]
                  exact door_panic rfl rfl HM4.out.res HM4.out.below
            · obtain rfl : k = fl.length := by omega
              have hlt' : ¬ (fl.length : Int) < fl.length := by omega
              have HF := Lib.hid (show E = 0 by rw [HE.out, if_pos HTE.out]; have := hfe.out; rw [List.take_of_length_le (by simp)] at this; exact this)
              have r2 := hM.res.c2
              have r3 := hM.res.c3
              have s2 := hM.res.f2
              have s3 := hM.res.f3
              have HM := Lib.hid hM
              clear hM hmp hmi hmn hmw hfe hgn hgw
              go_wp2
              rw [HF.out]
              exact door_ret rfl rfl HM.out.res.set ((HM.out.below.setCell (by simp <;> omega) _).setCell (by simp <;> omega) _)
set_option maxHeartbeats 2000000 in
set_option maxRecDepth 100000 in
theorem check_manyF (tops : List Top) (fl : List FlwV) (tv fv : Value) (w : World) (hP : PlanAt w tv fv tops fl) (h16 : ¬ 16 < tops.length) (h8 : 8 < fl.length) :
    Calls Tryz.prog 52 #[.agg #[tv, fv]] w (CheckPost (planE (plnOf tops fl)) w) := by
  rw [planE_many (.inr h8)]
  obtain ⟨⟨A1, c1, rfl, hc1, hr1⟩, ⟨A2, c2, rfl, hc2, hr2⟩, hpre, hpost⟩ := hP
  have hmf : ∀ (fn : Fn) (first cap : Array Value) (w : World), (Instr.makeFunc fn first cap).run Tryz.prog w = .ok (.func fn first cap) w := fun _ _ _ _ => rfl
  have t1 : (tops.length : Int) ≤ 16 := by omega
  have t2 : decide ((fl.length : Int) ≤ 8) = false := decide_eq_false (by omega)
  clear hr1 hr2 hpre hpost
  go_enter_defers Tryz.func52, Tryz.ntmps52
  go_wp2_with (go_at_call 100; (with_reducible refine (need_no _ _ _).mono ?_); rintro e w4 ⟨rfl, rfl⟩)
  exact door_panic rfl rfl (ResAt.start _ _ _ _) (three_below _ _ _ _)
/-- plan.Check, of any plan. -/
theorem check_calls (tops : List Top) (fl : List FlwV) (tv fv : Value) (w : World) (hP : PlanAt w tv fv tops fl) (hS : SmallFlows fl) (hT : Tab w) (hg : 5 < w.heap.size) :
    Calls Tryz.prog 52 #[.agg #[tv, fv]] w (CheckPost (planE (plnOf tops fl)) w) := by
  by_cases h16 : 16 < tops.length
  · exact check_many tops fl tv fv w hP h16
  · by_cases h8 : 8 < fl.length
    · exact check_manyF tops fl tv fv w hP h16 h8
    · exact check_loops tops fl tv fv w hP hS hT hg (fun h => h.elim h16 h8)
end Go.Proofs.YtkjajlolfcioiaaGreatDoor.Check
