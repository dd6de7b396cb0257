/- The law ControlTexts in the form of the given row, out of its walk. -/
import Derived.Test.YtkjajlolfcioiaaGreatDoorTie
import Derived.Test.YtkjajlolfcioiaaGreatDoorYTextF
import Derived.Test.YtkjajlolfcioiaaGreatDoorYRowCi
import Derived.WalkKit
import Derived.ProofKit
import Derived.OpenShut
import Derived.ShutString
import Derived.ChangeOld
import Derived.Below
import Derived.SizedLaws
import Derived.Carry
import Derived.LaidLaws
import Derived.Handed
import Derived.LaidMore
import Derived.Lay
import Derived.LaidOnce
import Derived.SevenTiedAt
namespace Go.Proofs.YtkjajlolfcioiaaGreatDoor.controlTexts
open Go.ChangeShapes Go.WideShapes Go.ChangeAt Go.RowKit Go.Proofs.YtkjajlolfcioiaaGreatDoor Go.Proofs.YtkjajlolfcioiaaGreatDoor.Rw Go.Proofs.YtkjajlolfcioiaaGreatDoor.Graph Go.Proofs.YtkjajlolfcioiaaGreatDoor.Expr Go.Proofs.YtkjajlolfcioiaaGreatDoor.Check Go.Proofs.YtkjajlolfcioiaaGreatDoor.Control Go.Proofs.YtkjajlolfcioiaaGreatDoor.Ctl
theorem own : ownKnob Tryz.prog.godebug = none := by kernel_rfl
theorem laid : laidOutB Tryz.prog = true := by kernel_rfl
abbrev tabs : List (String × DataW Unit) := Rows.controlTextsRow.laid
set_option maxRecDepth 100000 in
theorem tab_of {W : World} (h : laidMetH Tryz.prog tabs W) : Tab W := by
  rw [MakeChecks.laidMetH_plain _ _ _ (by kernel_rfl)] at h
  obtain ⟨ps, hl, _⟩ := h
  obtain ⟨g0, t0, cs0, f0, p0, q0, _, _, _, _, hl1, _⟩ := hl
  obtain ⟨g1, t1, cs1, f1, p1, q1, _, _, _, _, hl2, _⟩ := hl1
  obtain ⟨g2, t2, cs2, f2, p2, q2, hg2, ht2, hv2, hd2, _, _⟩ := hl2
  have hty : (Tryz.prog.globals[5]?).map (·.type) = some 302 := by kernel_rfl
  obtain rfl := Option.some.inj (tab_name.symm.trans hg2)
  obtain rfl := Option.some.inj (hty.symm.trans ht2)
  have hd3 : DataW.trod _ Tryz.prog W _ _ _ f2 302 cs2.toList = some (Lib.tabData .u64 Lib.pow10Tab, p2) := hd2
  unfold Tab Lib.TabIs
  rw [hv2, ← Lib.cells_of_tab Tryz.underlying302 Tryz.underlying176 (by kernel_rfl) (by kernel_rfl) hd3]
set_option maxRecDepth 100000 in
theorem lifted (os : Os) (started : os.Started) (H : Type) (enc : TypeId × Value → H) :
    ReturnsInHanded {} Tryz.checked os 13 .any (fun w args => (Rows.controlTextsSpec.pre enc Tryz.prog Tryz.f13 [] false w args ∧ laidMetH Tryz.prog tabs w) ∧ sizedMet enc Tryz.prog Tryz.f13 (OpenSpec.ofChange Rows.controlTextsSpec) false w args)
      (Rows.controlTextsSpec.post enc Tryz.prog Tryz.f13 false true false false) := by
  refine returnsInHanded_of_change_and (C := Tryz.checked) (X := fun w _ => laidMetH Tryz.prog tabs w) (fun _ _ _ hh h => h.of_heap hh) own started (by kernel_rfl) Tryz.func13
    (ChangeSpec.witness_shaped (enc := enc) (C := Tryz.checked) (os := os) (X := fun w _ => laidMetH Tryz.prog tabs w) false (World.laidAll Tryz.prog os tabs) #[.agg #[.int .i64 0, .int .i64 0, .int .i64 0, .int .i64 0, .int .i64 0, .int .i64 0, .int .i64 0, .slice none 0 0], .string ⟨#[]⟩] 8 (World.laidAll_os _ _ _)
      (World.shaped_of_ZipB (by kernel_rfl) (by kernel_rfl)) (by kernel_rfl) (by kernel_rfl) (by kernel_rfl)
      (by rw [MakeChecks.laidMetH_plain _ _ _ (by kernel_rfl)]; exact laidMet_laidAll _ (by kernel_rfl) (by kernel_rfl))) ?_
  intro W base args ds gs before hval0 hW _ hsz0 hL _
  have hval : ∀ (j : Nat) t v, Tryz.f13.params[j]? = some t → args[j]? = some v → Value.okWide Tryz.prog W .any base t v := hval0
  have hW' := hW
  obtain ⟨p, q, hA0, hV, rfl, _, _⟩ := hW
  have hA : DataW.TrodAll enc Tryz.prog W 0 (fun _ => true) true Tryz.f13.params.toList args.toList ds p := hA0
  have hszW : (DataW.weightsEach Tryz.prog (Tryz.f13.params.toList ++ Rows.controlTextsSpec.plain.varTypes Tryz.prog) (ds ++ gs)).all (· ≤ reachBytes) = true := hsz0
  rw [Tryz.params13] at hA hval hszW
  obtain ⟨v0, vs0, d0, ds0, p0, q0x, ha0, rfl, rfl, h0, r0⟩ := trodAll_cons hA
  obtain ⟨v1, vs1, d1, ds1, p1, q1x, ha1, rfl, rfl, h1, r1⟩ := trodAll_cons r0
  obtain ⟨hnil, rfl, rfl⟩ := trodAll_nil r1
  obtain rfl : args = #[v0, v1] := by cases args; simp_all
  obtain ⟨rfl, rfl⟩ := trodVars_none hV
  have hb0 : ∀ x ∈ p0, x.block < W.heap.size := fun x hx => hW'.lt x (by simp [hx])
  have hb1 : ∀ x ∈ p1, x.block < W.heap.size := fun x hx => hW'.lt x (by simp [hx])
  have hsz0 : SizesOk 60 d0 := fun q hq => by
    have := List.all_eq_true.1 hszW q (weightsEach_mem 0 rfl rfl hq)
    simpa using this
  have hsz1 : SizesOk 9 d1 := fun q hq => by
    have := List.all_eq_true.1 hszW q (weightsEach_mem 1 rfl rfl hq)
    simpa using this
  obtain ⟨x, rfl, hxp, hxi⟩ := open_cmdI (hval 0 60 v0 rfl rfl) h0 hsz0
  obtain ⟨s1, rfl⟩ := okWide_string Tryz.underlying9 (hval 1 9 v1 rfl rfl)
  have hT := tab_of hL
  have hg : 5 < W.heap.size := Own.lt_of_cell (Lib.TabIs.cell hT tab_name 0 (by decide))
  clear hA0 hval0 hsz0
  refine (Pack.lawTexts_calls x.c x.v s1 W hxp hxi hT hg).mono fun e W' ⟨he, bel⟩ => ?_
  subst he
  exact ⟨_, rfl, _, _, _, [], _, [], hW', trodAll_mk1 (shut_bool Tryz.underlying4 _), (trodAll_cons_mk (Below.trod laid (by kernel_rfl) (of_decide_eq_true (by kernel_rfl)) h0 bel hb0) (trodAll_cons_mk (Below.trod laid (by kernel_rfl) (of_decide_eq_true (by kernel_rfl)) h1 bel hb1) trodAll_mk0)), rfl, bel.frame _, fun h => by cases h⟩
end Go.Proofs.YtkjajlolfcioiaaGreatDoor.controlTexts
