/- graph.Order, walked. -/
import Derived.Test.YtkjajlolfcioiaaGreatDoorYGraphB
import Derived.WalkSpells
namespace Go.Proofs.YtkjajlolfcioiaaGreatDoor.Graph
open Go.RowKit Go.Proofs.YtkjajlolfcioiaaGreatDoor Go.Proofs.YtkjajlolfcioiaaGreatDoor.Own Go.Proofs.YtkjajlolfcioiaaGreatDoor.Tail Go.Proofs.YtkjajlolfcioiaaGreatDoor.Mp Go.Proofs.YtkjajlolfcioiaaGreatDoor.Ints Go.Proofs.YtkjajlolfcioiaaGreatDoor.Scan Go.Proofs.YtkjajlolfcioiaaGreatDoor.Plan Go.Proofs.YtkjajlolfcioiaaGreatDoor.Expr Go.Proofs.YtkjajlolfcioiaaGreatDoor.Check Go.Lib

section
variable {w : World} {b : Nat} {S : List Int} {ops : Array Oper} {rest : List Oper} {o : Oper} {a : Act} {Q : Exit → Act → World → Prop}
theorem ins_set (h : IntSet w b S) (hw : Region.wanted o (yielded ops a.tmps) = true) (m x y : Operand) (hop : o.op = Op.insert 101 m x y) (hm : a.eval m = .map (some b)) {k : Int} (hx : a.eval x = .int .i64 k) (hy : a.eval y = .agg #[])
    (hK : ∀ w', IntSet w' b (S ++ [k]) → But b w w' → wpList Tryz.prog ops Q rest (a.put o.dst undef) w') : wpList Tryz.prog ops Q (o :: rest) a w := by
  refine BigFrame.wpList_want hw fun _ hK' => ?_
  obtain ⟨w', hr, r1, r2⟩ := h.update Tryz.underlying101 Tryz.underlying3 (key := .int .i64 k) rfl (.agg #[]) (setF (S ++ [k])) (setF_in S k) (fun x hx => setF_other S k x hx)
  unfold Oper.wp
  simp [execOp, hop, hm, hx, hy, hr, Result.andThen]
  exact hK' _ _ (hK w' r1 r2)
end
/-- v is a slice of these integers. -/
abbrev IntsAt (w : World) (v : Value) (L : List Int) : Prop := SliceAt w v L.length (L.map (Value.int .i64))
/-- what an order comes to. -/
def orderR (p : Pln) : List Int × Int := if planE p ≠ 0 then ([], planE p) else if (orderL (edgesL p.flows)).length < p.flows.length then ([], 60) else (orderL (edgesL p.flows), 0)
def OrderPost (R : List Int × Int) (w : World) (e : Ending) (w' : World) : Prop := ∃ v, e = .returned (.tuple #[v, .int .i64 R.2]) ∧ IntsAt w' v R.1 ∧ Below w.heap.size w w'
theorem nil_ints (w : World) : IntsAt w (.slice none 0 0) [] := ⟨none, 0, rfl, Nat.le_refl _, fun h => absurd h (by simp)⟩
theorem planE_flows {tops : List Top} {fl : List FlwV} (h : planE (plnOf tops fl) = 0) : fl.length ≤ 8 := by
  apply Decidable.byContradiction
  intro h8
  rw [planE_many (.inr (by omega))] at h
  exact absurd h (by decide)
def lenOf (v : Value) : Nat := match v with | .slice _ n _ => n | _ => 0
theorem own_ints {w : World} {base : Nat} {v : Value} {L : List Int} (h : w.ownsRow base 3 1 v L.length (L.map (Value.int .i64))) : IntsAt w v L := by
  obtain ⟨A, cap, rfl, hc, _, hn, hr⟩ := own_form h
  refine ⟨A, cap, rfl, hc, fun h0 => ?_⟩
  rcases h.2 with ⟨e, hz⟩ | ⟨g, cap', cur, e, _, hh, _, _, _, htake⟩
  · have : L.length = 0 := hz
    omega
  · cases e
    refine ⟨g, 0, rfl, fun j u hj => ?_⟩
    obtain ⟨_, hrow⟩ := hr ⟨g, 0, none⟩ rfl
    have := hrow j u hj
    rw [Own.add_plain] at this
    rw [Nat.zero_add]
    exact this
theorem own_but {base E size n b : Nat} {v : Value} {xs : List Value} {w w' : World} (h : w.ownsRow base E size v n xs) (k : But b w w') (hne : b < base) : w'.ownsRow base E size v n xs := by
  refine ⟨h.1, ?_⟩
  rcases h.2 with hn | ⟨g, cap, cur, hv, hg, hh, rest⟩
  · exact .inl hn
  · have hlt : g < w.heap.size := by
      rcases Nat.lt_or_ge g w.heap.size with h' | h'
      · exact h'
      · rw [Array.getElem?_eq_none h'] at hh; cases hh
    exact .inr ⟨g, cap, cur, hv, hg, (k.block g hlt (fun e => by have := Option.some.inj e; omega)).trans hh, rest⟩
theorem index_told (F out : List Int) (g b p n : Nat) (w : World) (hF : EdgesOk F) (hn : n = F.length) (h8 : n ≤ 8) (hI : Ints w 3 g (struck F out)) (hS : IntSet w b ([-1] ++ out)) (hp : w.cell? ⟨p, 0, none⟩ = some (.map (some b))) {r : Int} (hr : (match pick F out with | some i => (i : Int) | none => -1) = r) :
    Calls Tryz.prog 54 #[.slice (some ⟨g, 0, none⟩) n n, .func (.func 55) #[] #[.pointer (some ⟨p, 0, none⟩)]] w fun e w' => e = .returned (.int .i64 r) ∧ Below w.heap.size w w' := by
  subst hn
  have hl := struck_length F out
  have := index_calls (struck F out) g F.length 55 #[.pointer (some ⟨p, 0, none⟩)] (told out) w (by rw [hl]; omega) hI (enters_of Tryz.func55 (by kernel_rfl) rfl) (fun x X hX => order1_calls b p ([-1] ++ out) x X (hS.below hX) (kc hX hp))
  rw [hl] at this
  refine this.mono fun e w' ⟨h1, h2⟩ => ⟨?_, h2⟩
  rw [h1, ← hr]
  unfold idxI
  rw [struck_pick hF]
  rfl
theorem sliceOfInt : SliceOf Tryz.prog 30 3 1 8 := sliceOf (z := .int .i64 0) Tryz.underlying30 (by kernel_rfl) rfl (by decide)
set_option maxHeartbeats 4000000 in
set_option maxRecDepth 100000 in
theorem order_bad (tops : List Top) (fl : List FlwV) (tv fv : Value) (w : World) (hP : PlanAt w tv fv tops fl) (hS : SmallFlows fl) (hT : Tab w) (hg : 5 < w.heap.size) (hE : planE (plnOf tops fl) ≠ 0) :
    Calls Tryz.prog 17 #[.agg #[tv, fv]] w (OrderPost (orderR (plnOf tops fl)) w) := by
  have hR : orderR (plnOf tops fl) = ([], planE (plnOf tops fl)) := by unfold orderR; rw [if_pos hE]
  rw [hR]
  have HC := Lib.hid (check_calls tops fl tv fv (w.alloc (.cells #[tv, fv] 25)) (hP.below (box_below _ _)) hS (hT.below (box_below _ _)) (by simp; omega))
  obtain ⟨E, hEE⟩ : ∃ E, planE (plnOf tops fl) = E := ⟨_, rfl⟩
  rw [hEE] at HC hE ⊢
  have t1 : ((E : Int) != 0) = true := by simpa using hE
  obtain ⟨⟨A1, c1, rfl, hc1, hr1⟩, ⟨A2, c2, rfl, hc2, hr2⟩, hpre, hpost⟩ := hP
  clear hEE hE hR hS hT hr1 hr2 hpre hpost
  go_enter Tryz.func17, Tryz.ntmps17
  go_wp2_with (go_at_call 52; go_must (refine (HC.out).mono ?_); rintro e w1 ⟨⟨n, rfl⟩, hB⟩)
  go_ret2
  exact ⟨_, rfl, nil_ints _, go (box_below _ _) hB⟩
set_option maxHeartbeats 8000000 in
set_option maxRecDepth 100000 in
theorem order_good (tops : List Top) (fl : List FlwV) (tv fv : Value) (w : World) (hP : PlanAt w tv fv tops fl) (hS : SmallFlows fl) (hT : Tab w) (hg : 5 < w.heap.size) (hE : planE (plnOf tops fl) = 0) :
    Calls Tryz.prog 17 #[.agg #[tv, fv]] w (OrderPost (orderR (plnOf tops fl)) w) := by
  obtain ⟨R, hR⟩ : ∃ R, orderR (plnOf tops fl) = R := ⟨_, rfl⟩
  have hR2 : R = if (orderL (edgesL (fl.map (·.f)))).length < fl.length then ([], 60) else (orderL (edgesL (fl.map (·.f))), 0) := by
    rw [← hR]; unfold orderR; rw [if_neg (by simpa using hE)]; simp [plnOf]
  rw [hR]
  have hF := edgesL_ok (fl.map (·.f))
  have hFl := edgesL_length (fl.map (·.f))
  rw [List.length_map] at hFl
  have h8 := planE_flows hE
  have HCK := Lib.hid (check_calls tops fl tv fv (w.alloc (.cells #[tv, fv] 25)) (hP.below (box_below _ _)) hS (hT.below (box_below _ _)) (by simp; omega))
  have hed := fun X (k : Below w.heap.size w X) => edges_calls tops fl tv fv X (hP.below k) h8
  obtain ⟨F, hFe⟩ : ∃ F, edgesL (fl.map (·.f)) = F := ⟨_, rfl⟩
  rw [hFe] at hR2 hF hFl
  simp only [hFe] at hed
  rw [hE] at HCK
  have HED := Lib.hid hed
  have HR := Lib.hid hR2
  have HF := Lib.hid hF
  have HFL := Lib.hid hFl
  obtain ⟨⟨A1, c1, rfl, hc1, hr1⟩, ⟨A2, c2, rfl, hc2, hr2⟩, hpre, hpost⟩ := hP
  have hmm := @run_makeMap Tryz.prog
  clear hR hR2 hF hFl hE hFe hS hT hr1 hr2 hpre hpost hed
  go_enter Tryz.func17, Tryz.ntmps17
  go_wp2_with (go_at_call 52; go_must (refine (HCK.out).mono ?_); rintro e w1 ⟨⟨n, rfl⟩, hB⟩; have b0 : w1.cell? ⟨w.heap.size, 0, none⟩ = some (.slice A1 tops.length c1) := kc hB (cell_new rfl rfl); have b1 : w1.cell? ⟨w.heap.size, 1, none⟩ = some (.slice A2 fl.length c2) := kc hB (cell_new rfl rfl); have hz1 := hB.size; have HB1 := Lib.hid (go (box_below _ _) hB); clear hB)
  refine (HED.out _ HB1.out).mono ?_
  rintro e w2 ⟨g, rfl, hI, hgb, hB2⟩
  have b0' := kc hB2 b0
  have b1' := kc hB2 b1
  have HB2 := Lib.hid (go HB1.out hB2)
  have hz2 := hB2.size
  have hig := hI.lt
  have hm0 : IntSet (w2.alloc (.map #[] 0)) w2.heap.size [] := IntSet.made w2
  clear HB1 hB2 b0 b1 HCK HED
  go_wp2_with (with_reducible refine ins_set hm0 (by kernel_rfl) _ _ _ rfl rfl rfl rfl ?_; intro w3 hm3 hb3)
  have hz3 := hb3.size
  have hlm : w2.heap.size < w3.heap.size := by simp at hz3; omega
  have hwg : w.heap.size < g := by simp at hz1; omega
  have hP3 : PBox w (.slice A1 tops.length c1) (.slice A2 fl.length c2) (w3.alloc (.cells #[.map (some w2.heap.size)] 101)) :=
    ((PBox.belowX ⟨HB2.out, b0', b1', by simp at hz1; omega⟩ (box_below _ _)).but hb3 (by simp at hz1; omega)).alloc _
  have hI3 : Ints (w3.alloc (.cells #[.map (some w2.heap.size)] 101)) 3 g (struck F []) := by
    rw [struck_nil]
    exact ((hI.below (box_below _ _)).but hb3 (by omega)).alloc _
  have hS3 : IntSet (w3.alloc (.cells #[.map (some w2.heap.size)] 101)) w2.heap.size ([-1] ++ []) := hm3.below (box_below _ _)
  have hmf : ∀ (fn : Fn) (first cap : Array Value) (w : World), (Instr.makeFunc fn first cap).run Tryz.prog w = .ok (.func fn first cap) w := fun _ _ _ _ => rfl
  have HP3 := Lib.hid hP3
  have HI3 := Lib.hid hI3
  have HS3 := Lib.hid hS3
  clear hP3 hI3 hS3 hm0 hm3 hb3 hI b0' b1' HB2
  go_loopw [8] (fun v wr => ∃ out : List Int, Hid (Ordered F out) ∧ Hid (orderGo F (F.length - out.length) out = orderL F) ∧ wr.ownsRow (w3.heap.size + 1) 3 1 v out.length (out.map (Value.int .i64)) ∧ Ints wr 3 g (struck F out) ∧ IntSet wr w2.heap.size ([-1] ++ out) ∧ wr.cell? ⟨w3.heap.size, 0, none⟩ = some (.map (some w2.heap.size)) ∧ PBox w (.slice A1 tops.length c1) (.slice A2 fl.length c2) wr ∧ w3.heap.size < wr.heap.size) (fun v _ => F.length + 1 - lenOf v)
  case atStart => exact ⟨[], Lib.hid (Ordered.nil F), Lib.hid rfl, own_nil _ _ _ _, HI3.out, HS3.out, cell_new rfl rfl, HP3.out, by simp⟩
  case round =>
    clear HI3 HS3 HP3
    obtain ⟨out, hO, hG, hown, hI, hS, hc, hP, hlw⟩ := hrel
    have hol := hO.out.len
    have hfl8 : F.length ≤ 8 := by rw [HFL.out]; exact h8
    obtain ⟨A3, cap3, rfl, hcap3, hcm3, hn3, hr3⟩ := own_form hown
    obtain ⟨r, hr⟩ : ∃ r : Int, (match pick F out with | some i => (i : Int) | none => -1) = r := ⟨_, rfl⟩
    have HX := Lib.hid (index_told F out g w2.heap.size w3.heap.size F.length wr HF.out rfl hfl8 hI hS hc hr)
    have HR3 := Lib.hid hr
    clear hr
    have HN3 := Lib.hid hn3
    have HRR3 := Lib.hid hr3
    clear hn3 hr3
    rcases hp : pick F out with _ | i
    · have hrn : r = -1 := by rw [← HR3.out, hp]
      have HLAST := Lib.hid (order_last hG.out hp)
      subst hrn
      have HOWN := Lib.hid hown
      have HPB := Lib.hid hP
      clear hp HR3 hI hS hown hP
      by_cases hs : out.length < fl.length
      · have hsi : (out.length : Int) < fl.length := by omega
        have HRR := Lib.hid (show R = ([], 60) by rw [HR.out, ← HLAST.out, if_pos hs])
        go_wp2_with (go_at_call 54; go_must (refine (HX.out).mono ?_); rintro e w5 ⟨rfl, hB5⟩; have q1 := (HPB.out.belowX hB5).b1; have HB5 := Lib.hid (HPB.out.belowX hB5).below; clear hB5)
        rw [HRR.out]
        go_ret2
        exact ⟨_, rfl, nil_ints _, HB5.out⟩
      · have hsi : ¬ (out.length : Int) < fl.length := by omega
        have HRR := Lib.hid (show R = (out, 0) by rw [HR.out, ← HLAST.out, if_neg hs])
        go_wp2_with (go_at_call 54; go_must (refine (HX.out).mono ?_); rintro e w5 ⟨rfl, hB5⟩; have q1 := (HPB.out.belowX hB5).b1; have HB5 := Lib.hid (HPB.out.belowX hB5).below; have HO5 := Lib.hid (own_ints (own_kept HOWN.out hB5)); clear hB5)
        rw [HRR.out]
        go_ret2
        exact ⟨_, rfl, HO5.out, HB5.out⟩
    · have hrn : r = (i : Int) := by rw [← HR3.out, hp]
      subst hrn
      obtain ⟨hi1, hi2, _⟩ := pick_some hp
      have HO2 := Lib.hid (hO.out.snoc hp)
      have HG2 := Lib.hid (order_step hO.out hG.out hp)
      have HMK := Lib.hid (struck_snoc F out i)
      have hol2 := (hO.out.snoc hp).len
      rw [List.length_append] at hol2
      simp only [List.length_cons, List.length_nil] at hol2
      have hii : (i : Int) < F.length := by omega
      have hcell := struck_get F out i hi1
      rw [if_neg hi2] at hcell
      have HCELL := Lib.hid hcell
      have HOWN := Lib.hid hown
      have HPB := Lib.hid hP
      have HII := Lib.hid hI
      have HSS := Lib.hid hS
      have hgl := hI.lt
      have HC := Lib.hid hc
      clear hp HR3 hI hS hown hP hi2 hcell hc
      have src1 : ∀ X : World, Src (X.alloc (.cells #[.int .i64 (i : Int)] 3)) 1 (.slice (some ⟨X.heap.size, 0, none⟩) 1 1) 1 [.int .i64 (i : Int)] := fun X => Src.new X #[.int .i64 (i : Int)] 3 1 1 1 rfl (by simp [Value.oneCell'])
      have HSRC := Lib.hid src1
      clear src1
      go_wp2_with (first
        | (go_at_call 54; go_must (refine (HX.out).mono ?_); rintro e w5 ⟨rfl, hB5⟩; have hI5 := HII.out.below hB5; have c0 := hI5.cell HCELL.out; have f0 := hI5.frozen i; have hbs := Ints.but_set w5 g i (.int .i64 (-2)); have hs5 := (HSS.out.below hB5).but hbs (by omega); have cp := hbs.cell (by simp; omega) (kc hB5 HC.out); have HO5 := Lib.hid (own_but (own_kept HOWN.out hB5) hbs (by omega)); have HP5 := Lib.hid ((HPB.out.belowX hB5).but hbs (by omega)); have HI5 := Lib.hid (hI5.set i (-2)); have hz5 := hB5.size; clear hB5 hI5 hbs)
        | (at_mapUpdate; refine put_set hs5 (by kernel_rfl) _ _ _ rfl rfl rfl rfl ?_; intro w6 hs6 hb6; have hz6 := hb6.size; have HO6 := Lib.hid (own_but HO5.out hb6 (by omega)); have HP6 := Lib.hid (HP5.out.but hb6 (by omega)); have HI6 := Lib.hid (HI5.out.but hb6 (by omega)); have HC6 := Lib.hid (hb6.cell (by simp; omega) cp); have HS6 := Lib.hid hs6; clear hb6 hs5 hs6 cp)
        | (at_builtin; refine list_app sliceOfInt rfl _ _ rfl (base := w3.heap.size + 1) rfl (own_kept HO6.out (box_below _ _)) rfl (HSRC.out _) (by unfold maxLen; omega) (by omega) (by simp at hz6 ⊢; omega) ?_; intro v7 w7 ho7 hB7 hg7))
      obtain ⟨A7, cap7, rfl, -, -, -, -⟩ := own_form ho7
      go_roundw
      case rel =>
        refine ⟨out ++ [(i : Int)], HO2, HG2, ?_, ?_, ?_, ?_, ?_, ?_⟩
        · rw [List.map_append, List.length_append]; exact ho7
        · rw [HMK.out]; exact (hB7.block g (by omega)).trans (HI6.out.alloc _)
        · rw [← List.append_assoc]; exact (HS6.out.below (box_below _ _)).block (hB7.block _ (by omega))
        · exact kb hB7 (by simp) (kc (box_below _ _) HC6.out)
        · exact ⟨(HP6.out.alloc _).below.trans (hB7.mono (by omega)), kb hB7 (by simp; omega) (HP6.out.alloc _).b0, kb hB7 (by simp; omega) (HP6.out.alloc _).b1, by have := hB7.size; simp at this hz6; omega⟩
        · have := hB7.size; simp at this hz6; omega
      case measure => simp [lenOf]; omega
/-- graph.Order, of any plan. -/
theorem order_calls (tops : List Top) (fl : List FlwV) (tv fv : Value) (w : World) (hP : PlanAt w tv fv tops fl) (hS : SmallFlows fl) (hT : Tab w) (hg : 5 < w.heap.size) :
    Calls Tryz.prog 17 #[.agg #[tv, fv]] w (OrderPost (orderR (plnOf tops fl)) w) := by
  by_cases hE : planE (plnOf tops fl) = 0
  · exact order_good tops fl tv fv w hP hS hT hg hE
  · exact order_bad tops fl tv fv w hP hS hT hg hE
end Go.Proofs.YtkjajlolfcioiaaGreatDoor.Graph
