/- the document's Read of a command, walked. -/
import Derived.Test.YtkjajlolfcioiaaGreatDoorYTextP
namespace Go.Proofs.YtkjajlolfcioiaaGreatDoor.Pack
open Go Go.RowKit Go.Proofs Go.Proofs.YtkjajlolfcioiaaGreatDoor Go.Proofs.YtkjajlolfcioiaaGreatDoor.Own Go.Proofs.YtkjajlolfcioiaaGreatDoor.Tail Go.Proofs.YtkjajlolfcioiaaGreatDoor.Check Go.Proofs.YtkjajlolfcioiaaGreatDoor.Ctl Go.Proofs.YtkjajlolfcioiaaGreatDoor.Control
/-- '[]byte(s)', in a block of its own. -/
theorem str_own (s : ByteArray) (w : World) : ∃ v W, (convert 9 145 (.string s)).run Tryz.prog w = .ok v W ∧ BytesAt W v s.data.toList ∧ Below w.heap.size w W ∧ ∀ ad n c, v = .slice (some ad) n c → ad.block < W.heap.size := by
  obtain ⟨v, W, h1, h2, h3⟩ := str_bytes s w
  refine ⟨v, W, h1, h2, h3, ?_⟩
  have h4 := run_bytes_of_string w 9 145 5 s Tryz.underlying9 Tryz.underlying145 Tryz.underlying5
  rw [h1] at h4
  injection h4 with e1 e2
  subst e1
  subst e2
  intro ad n c e
  have e1 := Option.some.inj (Value.slice.inj e).1
  subst e1
  simp
def RefPost (o : Option Cmd) (w : World) (e : Ending) (w' : World) : Prop := Below w.heap.size w w' ∧ match o with
  | none => e = .returned (.tuple #[.agg #[.int .i64 0, .int .i64 0, .int .i64 0, .int .i64 0, .int .i64 0, .int .i64 0, .int .i64 0, .slice none 0 0], .bool false])
  | some c => ∃ v, e = .returned (.tuple #[.agg (cmdCells c v), .bool true]) ∧ w'.ownsRow w.heap.size 75 2 v c.parts.length (c.parts.flatMap partCells)
theorem ref_ret {tmps : Array Value} {X : World} {r0 : Nat} {cs : Array Value} {er : Bool} (h2 : tmps[2]? = some (.pointer (some ⟨r0, 0, none⟩))) (h3 : tmps[3]? = some (.bool er)) (hh : X.heap[r0]? = some (.cells cs 60)) (hs : cs.size = 8) :
    (results Tryz.f48 tmps).run Tryz.prog X = .ok (.tuple #[.agg cs, .bool er]) X := by
  have hi : (Tryz.prog.info? 60).map (·.size) = some cs.size := by rw [hs]; kernel_rfl
  rw [results_cell_tmp (by kernel_rfl : Tryz.f48.results = #[.cell 2 60, .tmp 3])]
  simp [h2, h3, asAddr, run_loadVar_row X r0 60 60 cs (0, 0) _ hh Tryz.underlying60 rfl hi, Result.andThen]
/-- k numbers of the command's head are read. -/
def HeadAt (rb c0 : Nat) (W : World) (k : Nat) (q0 : Rd) (X : World) : Prop :=
  RfAt X rb (readNs k q0).2 ∧ X.heap[c0]? = some (.cells (headA (readNs k q0).1 (.slice none 0 0)) 60) ∧ Kp2 rb c0 W X
theorem HeadAt.cell {rb c0 : Nat} {W X Y : World} {k : Nat} {q0 : Rd} (h : HeadAt rb c0 W k q0 X) (hb : But rb X Y) (hk : k < 7) (hlt : rb < c0) :
    (∃ u, Y.cell? ⟨c0, k, none⟩ = some u) ∧ Y.frozen? ⟨c0, k, none⟩ = false := by
  have hh6 : Y.heap[c0]? = some (.cells (headA (readNs k q0).1 (.slice none 0 0)) 60) := (hb.block c0 (Array.getElem?_eq_some_iff.1 h.2.1).1 (fun e => by have := Option.some.inj e; omega)).trans h.2.1
  refine ⟨?_, by simp [World.frozen?, hh6]⟩
  rw [cell_of_row _ _ _ _ _ _ hh6]
  exact ⟨_, Array.getElem?_eq_getElem (show k < (headA (readNs k q0).1 (.slice none 0 0)).size from by show k < 8; omega)⟩
theorem HeadAt.step {rb c0 : Nat} {W X Y : World} {k : Nat} {q0 : Rd} (h : HeadAt rb c0 W k q0 X) (hb : But rb X Y) (hr : RfAt Y rb (readN (readNs k q0).2).2) (hk : k < 7) (hlt : rb < c0) :
    HeadAt rb c0 W (k + 1) q0 (Y.setCell ⟨c0, k, none⟩ (.int .i64 (readN (readNs k q0).2).1)) := by
  have hh6 : Y.heap[c0]? = some (.cells (headA (readNs k q0).1 (.slice none 0 0)) 60) := (hb.block c0 (Array.getElem?_eq_some_iff.1 h.2.1).1 (fun e => by have := Option.some.inj e; omega)).trans h.2.1
  refine ⟨?_, ?_, ?_⟩
  · rw [readNs_snoc]
    exact hr.set hlt
  · rw [set_heap (i := k) _ hh6, headA_set hk (readNs_len _ _), readNs_snoc]
  · exact (h.2.2.trans (Kp.of_but (U := fun i => i = rb ∨ i = c0) hb (.inl rfl)) (fun _ _ h => h)).trans (Kp.of_but (U := fun i => i = rb ∨ i = c0) ((But.refl c0 Y).setCell k _) (.inr rfl)) (fun _ _ h => h)
theorem readPs_none : ∀ n : Nat, (readPs n none).2 = none
  | 0 => rfl
  | n + 1 => by
    rw [readPs_snoc]
    show (readN (readN (readPs n none).2).2).2 = none
    rw [readPs_none n]
    rfl
set_option maxHeartbeats 8000000 in
set_option maxRecDepth 100000 in
theorem refRead_calls (s : ByteArray) (w : World) (hl : s.size ≤ 1000000) :
    Calls Tryz.prog 48 #[.string s] w (RefPost (readC s.data.toList) w) := by
  obtain ⟨W0, hW0⟩ : ∃ W0, w.alloc (.cells (headA [] (.slice none 0 0)) 60) = W0 := ⟨_, rfl⟩
  have hA0 : w.alloc (.cells #[.int .i64 0, .int .i64 0, .int .i64 0, .int .i64 0, .int .i64 0, .int .i64 0, .int .i64 0, .slice none 0 0] 60) = W0 := hW0
  have HB0 := Lib.hid (show Below w.heap.size w W0 from by rw [← hW0]; exact box_below _ _)
  have HR0 := Lib.hid (show W0.heap[w.heap.size]? = some (.cells (headA [] (.slice none 0 0)) 60) from by rw [← hW0]; exact heap_new _ _)
  obtain ⟨bv, W1, hcv, hba, hb1, hbd⟩ := str_own s W0
  have HB1 := Lib.hid hb1
  obtain ⟨bA, bc, ebv, -, -⟩ := id hba
  obtain ⟨bn, ebn⟩ : ∃ bn, s.data.toList.length = bn := ⟨_, rfl⟩
  rw [ebn] at ebv
  subst ebv
  clear ebn
  obtain ⟨q0, hq0⟩ : ∃ q0 : Rd, some s.data.toList = q0 := ⟨_, rfl⟩
  have HQ0 := Lib.hid hq0
  have HL0 := Lib.hid (show RdLe 1000000 q0 from fun l e => by
    rw [← hq0] at e
    cases e
    have : s.data.toList.length = s.size := Array.length_toList
    omega)
  have HRD := Lib.hid (show RfAt (W1.alloc (.cells #[.slice bA bn bc, .bool false] 155)) W1.heap.size q0 from by
    rw [← hq0]
    exact ⟨_, heap_new _ _, hba.below (box_below _ _), hbd⟩)
  clear hba hb1 hW0 hq0 hbd hl
  go_enter Tryz.func48, Tryz.ntmps48
  go_wp2_with fail
  obtain ⟨W2, hW2⟩ : ∃ W2, W1.alloc (.cells #[.slice bA bn bc, .bool false] 155) = W2 := ⟨_, rfl⟩
  have HZ2 := Lib.hid (show W2.heap.size = W1.heap.size + 1 from by rw [← hW2]; simp)
  have HB2 := Lib.hid (show Below W1.heap.size W1 W2 from by rw [← hW2]; exact box_below _ _)
  rw [hW2] at HRD ⊢
  clear hW2
  obtain ⟨W4, hW4⟩ : ∃ W4, W2.alloc (.cells #[.int .i64 0, .int .i64 0, .int .i64 0, .int .i64 0, .int .i64 0, .int .i64 0, .int .i64 0, .slice none 0 0] 60) = W4 := ⟨_, rfl⟩
  have HZ4 := Lib.hid (show W4.heap.size = W2.heap.size + 1 from by rw [← hW4]; simp)
  have HB4 := Lib.hid (show Below W2.heap.size W2 W4 from by rw [← hW4]; exact box_below _ _)
  have HC4 := Lib.hid (show W4.heap[W2.heap.size]? = some (.cells (headA [] (.slice none 0 0)) 60) from by rw [← hW4]; exact heap_new _ _)
  rw [hW4]
  clear hW4
  obtain ⟨rb, hrb⟩ : ∃ rb, W1.heap.size = rb := ⟨_, rfl⟩
  obtain ⟨c0, hc0⟩ : ∃ c0, W1.heap.size + 1 = c0 := ⟨_, rfl⟩
  have hc0' : W2.heap.size = c0 := by rw [HZ2.out, hc0]
  try rw [HZ2.out]
  try rw [hc0]
  try rw [hrb]
  rw [hc0'] at HC4
  rw [hrb] at HRD
  have HWC := Lib.hid (show W1.heap.size ≤ rb ∧ rb + 1 = c0 ∧ W4.heap.size = c0 + 1 from ⟨Nat.le_of_eq hrb, by rw [← hrb]; exact hc0, by rw [HZ4.out, hc0']⟩)
  have HRB := Lib.hid (show rb < c0 from by have := HWC.out; omega)
  have HBW := Lib.hid (show Below W1.heap.size W1 W4 from HB2.out.trans (HB4.out.mono HB2.out.size))
  have HH0 := Lib.hid (show HeadAt rb c0 W4 0 q0 W4 from ⟨HRD.out.below HB4.out, HC4.out, Kp.refl _ _⟩)
  have HRB1 := Lib.hid (show W1.heap.size ≤ rb from HWC.out.1)
  clear hrb hc0 hc0' HRD HC4 HZ2 HB2 HB4 HZ4 hcv hA0
  obtain ⟨x0, hx0⟩ : ∃ x, (readN (readNs 0 q0).2).1 = x := ⟨_, rfl⟩
  have HCN := Lib.hid (readRef_calls rb _ W4 HH0.out.1 (readNs_le 0 HL0.out))
  rw [hx0] at HCN
  (with_reducible refine HCN.out.mono ?_)
  rintro e Y0 ⟨rfl, hr, hb⟩
  obtain ⟨⟨u0, hu⟩, hf⟩ := HH0.out.cell hb (by omega) HRB.out
  have HH1 := Lib.hid (show HeadAt rb c0 W4 1 q0 (Y0.setCell ⟨c0, 0, none⟩ (.int .i64 x0)) from by rw [← hx0]; exact HH0.out.step hb hr (by omega) HRB.out)
  clear hr hb hx0 HCN
  go_wp2_with fail
  obtain ⟨X1, hX⟩ : ∃ X, Y0.setCell ⟨c0, 0, none⟩ (.int .i64 x0) = X := ⟨_, rfl⟩
  rw [hX] at HH1 ⊢
  clear hX hu hf HH0
  obtain ⟨x1, hx1⟩ : ∃ x, (readN (readNs 1 q0).2).1 = x := ⟨_, rfl⟩
  have HCN := Lib.hid (readRef_calls rb _ X1 HH1.out.1 (readNs_le 1 HL0.out))
  rw [hx1] at HCN
  (with_reducible refine HCN.out.mono ?_)
  rintro e Y1 ⟨rfl, hr, hb⟩
  obtain ⟨⟨u1, hu⟩, hf⟩ := HH1.out.cell hb (by omega) HRB.out
  have HH2 := Lib.hid (show HeadAt rb c0 W4 2 q0 (Y1.setCell ⟨c0, 1, none⟩ (.int .i64 x1)) from by rw [← hx1]; exact HH1.out.step hb hr (by omega) HRB.out)
  clear hr hb hx1 HCN
  go_wp2_with fail
  obtain ⟨X2, hX⟩ : ∃ X, Y1.setCell ⟨c0, 1, none⟩ (.int .i64 x1) = X := ⟨_, rfl⟩
  rw [hX] at HH2 ⊢
  clear hX hu hf HH1
  obtain ⟨x2, hx2⟩ : ∃ x, (readN (readNs 2 q0).2).1 = x := ⟨_, rfl⟩
  have HCN := Lib.hid (readRef_calls rb _ X2 HH2.out.1 (readNs_le 2 HL0.out))
  rw [hx2] at HCN
  (with_reducible refine HCN.out.mono ?_)
  rintro e Y2 ⟨rfl, hr, hb⟩
  obtain ⟨⟨u2, hu⟩, hf⟩ := HH2.out.cell hb (by omega) HRB.out
  have HH3 := Lib.hid (show HeadAt rb c0 W4 3 q0 (Y2.setCell ⟨c0, 2, none⟩ (.int .i64 x2)) from by rw [← hx2]; exact HH2.out.step hb hr (by omega) HRB.out)
  clear hr hb hx2 HCN
  go_wp2_with fail
  obtain ⟨X3, hX⟩ : ∃ X, Y2.setCell ⟨c0, 2, none⟩ (.int .i64 x2) = X := ⟨_, rfl⟩
  rw [hX] at HH3 ⊢
  clear hX hu hf HH2
  obtain ⟨x3, hx3⟩ : ∃ x, (readN (readNs 3 q0).2).1 = x := ⟨_, rfl⟩
  have HCN := Lib.hid (readRef_calls rb _ X3 HH3.out.1 (readNs_le 3 HL0.out))
  rw [hx3] at HCN
  (with_reducible refine HCN.out.mono ?_)
  rintro e Y3 ⟨rfl, hr, hb⟩
  obtain ⟨⟨u3, hu⟩, hf⟩ := HH3.out.cell hb (by omega) HRB.out
  have HH4 := Lib.hid (show HeadAt rb c0 W4 4 q0 (Y3.setCell ⟨c0, 3, none⟩ (.int .i64 x3)) from by rw [← hx3]; exact HH3.out.step hb hr (by omega) HRB.out)
  clear hr hb hx3 HCN
  go_wp2_with fail
  obtain ⟨X4, hX⟩ : ∃ X, Y3.setCell ⟨c0, 3, none⟩ (.int .i64 x3) = X := ⟨_, rfl⟩
  rw [hX] at HH4 ⊢
  clear hX hu hf HH3
  obtain ⟨x4, hx4⟩ : ∃ x, (readN (readNs 4 q0).2).1 = x := ⟨_, rfl⟩
  have HCN := Lib.hid (readRef_calls rb _ X4 HH4.out.1 (readNs_le 4 HL0.out))
  rw [hx4] at HCN
  (with_reducible refine HCN.out.mono ?_)
  rintro e Y4 ⟨rfl, hr, hb⟩
  obtain ⟨⟨u4, hu⟩, hf⟩ := HH4.out.cell hb (by omega) HRB.out
  have HH5 := Lib.hid (show HeadAt rb c0 W4 5 q0 (Y4.setCell ⟨c0, 4, none⟩ (.int .i64 x4)) from by rw [← hx4]; exact HH4.out.step hb hr (by omega) HRB.out)
  clear hr hb hx4 HCN
  go_wp2_with fail
  obtain ⟨X5, hX⟩ : ∃ X, Y4.setCell ⟨c0, 4, none⟩ (.int .i64 x4) = X := ⟨_, rfl⟩
  rw [hX] at HH5 ⊢
  clear hX hu hf HH4
  obtain ⟨x5, hx5⟩ : ∃ x, (readN (readNs 5 q0).2).1 = x := ⟨_, rfl⟩
  have HCN := Lib.hid (readRef_calls rb _ X5 HH5.out.1 (readNs_le 5 HL0.out))
  rw [hx5] at HCN
  (with_reducible refine HCN.out.mono ?_)
  rintro e Y5 ⟨rfl, hr, hb⟩
  obtain ⟨⟨u5, hu⟩, hf⟩ := HH5.out.cell hb (by omega) HRB.out
  have HH6 := Lib.hid (show HeadAt rb c0 W4 6 q0 (Y5.setCell ⟨c0, 5, none⟩ (.int .i64 x5)) from by rw [← hx5]; exact HH5.out.step hb hr (by omega) HRB.out)
  clear hr hb hx5 HCN
  go_wp2_with fail
  obtain ⟨X6, hX⟩ : ∃ X, Y5.setCell ⟨c0, 5, none⟩ (.int .i64 x5) = X := ⟨_, rfl⟩
  rw [hX] at HH6 ⊢
  clear hX hu hf HH5
  obtain ⟨x6, hx6⟩ : ∃ x, (readN (readNs 6 q0).2).1 = x := ⟨_, rfl⟩
  have HCN := Lib.hid (readRef_calls rb _ X6 HH6.out.1 (readNs_le 6 HL0.out))
  rw [hx6] at HCN
  (with_reducible refine HCN.out.mono ?_)
  rintro e Y6 ⟨rfl, hr, hb⟩
  obtain ⟨⟨u6, hu⟩, hf⟩ := HH6.out.cell hb (by omega) HRB.out
  have HH7 := Lib.hid (show HeadAt rb c0 W4 7 q0 (Y6.setCell ⟨c0, 6, none⟩ (.int .i64 x6)) from by rw [← hx6]; exact HH6.out.step hb hr (by omega) HRB.out)
  clear hr hb hx6 HCN
  go_wp2_with fail
  obtain ⟨X7, hX⟩ : ∃ X, Y6.setCell ⟨c0, 6, none⟩ (.int .i64 x6) = X := ⟨_, rfl⟩
  rw [hX] at HH7 ⊢
  clear hX hu hf HH6
  have HCN := Lib.hid (readRef_calls rb _ X7 HH7.out.1 (readNs_le 7 HL0.out))
  obtain ⟨xs, hxs⟩ : ∃ xs, (readNs 7 q0).1 = xs := ⟨_, rfl⟩
  obtain ⟨q1, hq1⟩ : ∃ q1, (readNs 7 q0).2 = q1 := ⟨_, rfl⟩
  have HI := Lib.hid (show RfAt X7 rb q1 ∧ X7.heap[c0]? = some (.cells (headA xs (.slice none 0 0)) 60) ∧ Kp2 rb c0 W4 X7 from by have := HH7.out; unfold HeadAt at this; rwa [hxs, hq1] at this)
  rw [hq1] at HCN
  obtain ⟨m, hm⟩ : ∃ m, (readN q1).1 = m := ⟨_, rfl⟩
  obtain ⟨q2, hq2⟩ : ∃ q2, (readN q1).2 = q2 := ⟨_, rfl⟩
  rw [hm, hq2] at HCN
  have hrc : readC s.data.toList = if m < 0 ∨ 32 < m then none else if (readPs m.toNat q2).2 = some [] then some ⟨xs.getD 0 0, xs.getD 1 0, xs.getD 2 0, xs.getD 3 0, xs.getD 4 0, xs.getD 5 0, xs.getD 6 0, (readPs m.toNat q2).1⟩ else none := by
    have e0 : readC s.data.toList = if (readN (readNs 7 (some s.data.toList)).2).1 < 0 ∨ 32 < (readN (readNs 7 (some s.data.toList)).2).1 then none else if (readPs (readN (readNs 7 (some s.data.toList)).2).1.toNat (readN (readNs 7 (some s.data.toList)).2).2).2 = some [] then some ⟨(readNs 7 (some s.data.toList)).1.getD 0 0, (readNs 7 (some s.data.toList)).1.getD 1 0, (readNs 7 (some s.data.toList)).1.getD 2 0, (readNs 7 (some s.data.toList)).1.getD 3 0, (readNs 7 (some s.data.toList)).1.getD 4 0, (readNs 7 (some s.data.toList)).1.getD 5 0, (readNs 7 (some s.data.toList)).1.getD 6 0, (readPs (readN (readNs 7 (some s.data.toList)).2).1.toNat (readN (readNs 7 (some s.data.toList)).2).2).1⟩ else none := rfl
    rw [e0, HQ0.out, hq1, hxs, hm, hq2]
  have HRC := Lib.hid hrc
  have HL2 := Lib.hid (show RdLe 1000000 q2 from by rw [← hq2, ← hq1]; exact readN_le (readNs_le 7 HL0.out))
  clear hxs hq1 hm hq2 hrc HH7
  (with_reducible refine HCN.out.mono ?_)
  rintro e w6 ⟨rfl, hr6, hb6⟩
  have HR04 := Lib.hid (show W4.heap[w.heap.size]? = some (.cells (headA [] (.slice none 0 0)) 60) ∧ w.heap.size < W1.heap.size from by
    have h1 := HR0.out
    have h2 := (HB1.out.block _ (Array.getElem?_eq_some_iff.1 h1).1).trans h1
    have hlt1 : w.heap.size < W1.heap.size := (Array.getElem?_eq_some_iff.1 h2).1
    exact ⟨(HBW.out.block _ hlt1).trans h2, hlt1⟩)
  have hk6 : Kp2 rb c0 W4 w6 := HI.out.2.2.trans (Kp.of_but (U := fun i => i = rb ∨ i = c0) hb6 (.inl rfl)) (fun _ _ h => h)
  have hc6 : w6.heap[c0]? = some (.cells (headA xs (.slice none 0 0)) 60) := (hb6.block c0 (Array.getElem?_eq_some_iff.1 HI.out.2.1).1 (fun e => by have := Option.some.inj e; have := HRB.out; omega)).trans HI.out.2.1
  have HW1B := Lib.hid (show Below w.heap.size w W4 from (HB0.out.trans (HB1.out.mono HB0.out.size)).trans (HBW.out.mono (Nat.le_trans HB0.out.size HB1.out.size)))
  have HKB := Lib.hid (fun (X : World) (k : Kp2 rb c0 W4 X) => show Below w.heap.size w X from HW1B.out.trans (k.below HW1B.out.size (by
    have h1 := HRB1.out
    have h2 := HRB.out
    have h3 := HB0.out.size
    have h4 := HB1.out.size
    rintro i (e | e) <;> omega)))
  have HKR := Lib.hid (fun (X : World) (k : Kp2 rb c0 W4 X) => show X.heap[w.heap.size]? = some (.cells (headA [] (.slice none 0 0)) 60) from by
    have h1 := HRB1.out
    have h2 := HRB.out
    have h3 := HR04.out.2
    exact (k.block _ (Array.getElem?_eq_some_iff.1 HR04.out.1).1 (by rintro (e | e) <;> omega)).trans HR04.out.1)
  have HH6 := Lib.hid hc6
  have HR6 := Lib.hid hr6
  have HK6 := Lib.hid hk6
  have HR00 := Lib.hid (HKR.out w6 hk6)
  have HB6W := Lib.hid (HKB.out w6 hk6)
  clear hc6 hr6 hb6 hk6 HI HCN
  have a0 : w6.cell? ⟨w.heap.size, 0, none⟩ = some (.int .i64 0) := by rw [cell_of_row _ _ _ _ _ _ HR00.out]; rfl
  have z0 : w6.frozen? ⟨w.heap.size, 0, none⟩ = false := by simp [World.frozen?, HR00.out]
  have a1 : w6.cell? ⟨w.heap.size, 1, none⟩ = some (.int .i64 0) := by rw [cell_of_row _ _ _ _ _ _ HR00.out]; rfl
  have z1 : w6.frozen? ⟨w.heap.size, 1, none⟩ = false := by simp [World.frozen?, HR00.out]
  have a2 : w6.cell? ⟨w.heap.size, 2, none⟩ = some (.int .i64 0) := by rw [cell_of_row _ _ _ _ _ _ HR00.out]; rfl
  have z2 : w6.frozen? ⟨w.heap.size, 2, none⟩ = false := by simp [World.frozen?, HR00.out]
  have a3 : w6.cell? ⟨w.heap.size, 3, none⟩ = some (.int .i64 0) := by rw [cell_of_row _ _ _ _ _ _ HR00.out]; rfl
  have z3 : w6.frozen? ⟨w.heap.size, 3, none⟩ = false := by simp [World.frozen?, HR00.out]
  have a4 : w6.cell? ⟨w.heap.size, 4, none⟩ = some (.int .i64 0) := by rw [cell_of_row _ _ _ _ _ _ HR00.out]; rfl
  have z4 : w6.frozen? ⟨w.heap.size, 4, none⟩ = false := by simp [World.frozen?, HR00.out]
  have a5 : w6.cell? ⟨w.heap.size, 5, none⟩ = some (.int .i64 0) := by rw [cell_of_row _ _ _ _ _ _ HR00.out]; rfl
  have z5 : w6.frozen? ⟨w.heap.size, 5, none⟩ = false := by simp [World.frozen?, HR00.out]
  have a6 : w6.cell? ⟨w.heap.size, 6, none⟩ = some (.int .i64 0) := by rw [cell_of_row _ _ _ _ _ _ HR00.out]; rfl
  have z6 : w6.frozen? ⟨w.heap.size, 6, none⟩ = false := by simp [World.frozen?, HR00.out]
  have a7 : w6.cell? ⟨w.heap.size, 7, none⟩ = some (.slice none 0 0) := by rw [cell_of_row _ _ _ _ _ _ HR00.out]; rfl
  have z7 : w6.frozen? ⟨w.heap.size, 7, none⟩ = false := by simp [World.frozen?, HR00.out]
  cases q2 with
  | none =>
    have hr6 := HR6.out
    obtain ⟨rv, hrv⟩ := hr6
    have r1 : w6.cell? ⟨rb, 1, none⟩ = some (.bool true) := by rw [cell_of_row _ _ _ _ _ _ hrv]; rfl
    have HN := Lib.hid (show readC s.data.toList = none from by
      rw [HRC.out, readPs_none]
      split
      · rfl
      · rw [if_neg (by simp)])
    clear hrv HR6
    go_wp2_with fail
    refine bodyPost_ret (ref_ret rfl rfl (set8_heap HR00.out rfl _ _ _ _ _ _ _ _) rfl) rfl ?_
    rw [HN.out]
    exact ⟨But.fresh HB6W.out (Nat.le_refl _) HB6W.out.size (set8_but _ _ _ _ _ _ _ _ _ _), rfl⟩
  | some l2 =>
    have hr6 := HR6.out
    obtain ⟨rv, hrv, hrA, -⟩ := hr6
    have r1 : w6.cell? ⟨rb, 1, none⟩ = some (.bool false) := by rw [cell_of_row _ _ _ _ _ _ hrv]; rfl
    obtain ⟨q2, hq2⟩ : ∃ q2 : Rd, some l2 = q2 := ⟨_, rfl⟩
    rw [hq2] at HR6 HRC HL2
    clear hrv hrA hq2
    by_cases hbad : m < 0 ∨ 32 < m
    · have HN := Lib.hid (show readC s.data.toList = none from by rw [HRC.out, if_pos hbad])
      clear HRC
      rcases hbad with hbad | hbad
      · have t1 : decide (m < 0) = true := decide_eq_true hbad
        go_wp2_with fail
        refine bodyPost_ret (ref_ret rfl rfl (set8_heap HR00.out rfl _ _ _ _ _ _ _ _) rfl) rfl ?_
        rw [HN.out]
        exact ⟨But.fresh HB6W.out (Nat.le_refl _) HB6W.out.size (set8_but _ _ _ _ _ _ _ _ _ _), rfl⟩
      · have t1 : decide (m < 0) = false := decide_eq_false (by omega)
        have t2 : decide ((32 : Int) < m) = true := decide_eq_true hbad
        go_wp2_with fail
        refine bodyPost_ret (ref_ret rfl rfl (set8_heap HR00.out rfl _ _ _ _ _ _ _ _) rfl) rfl ?_
        rw [HN.out]
        exact ⟨But.fresh HB6W.out (Nat.le_refl _) HB6W.out.size (set8_but _ _ _ _ _ _ _ _ _ _), rfl⟩
    · have hm0 : 0 ≤ m := by omega
      have hm32 : m ≤ 32 := by omega
      have HRC2 := Lib.hid (show readC s.data.toList = if (readPs m.toNat q2).2 = some [] then some ⟨xs.getD 0 0, xs.getD 1 0, xs.getD 2 0, xs.getD 3 0, xs.getD 4 0, xs.getD 5 0, xs.getD 6 0, (readPs m.toNat q2).1⟩ else none from by rw [HRC.out, if_neg hbad])
      obtain ⟨n, rfl⟩ : ∃ n : Nat, m = (n : Int) := ⟨m.toNat, by omega⟩
      rw [Int.toNat_natCast] at HRC2
      have t1 : decide ((n : Int) < 0) = false := decide_eq_false (by omega)
      have t2 : decide ((32 : Int) < (n : Int)) = false := decide_eq_false (by omega)
      have hn32 : n ≤ 32 := by omega
      have HN0 := Lib.hid (show RfAt w6 rb (readPs 0 q2).2 ∧ (∃ A cp, w6.heap[c0]? = some (.cells (headA xs (.slice A 0 cp)) 60) ∧ w6.ownsRow W4.heap.size 75 2 (.slice A 0 cp) 0 ((readPs 0 q2).1.flatMap partCells)) ∧ Kp2 rb c0 W4 w6 from ⟨HR6.out, ⟨none, 0, HH6.out, own_nil _ _ _ _⟩, HK6.out⟩)
      clear HRC hbad hm0 hm32 a0 a1 a2 a3 a4 a5 a6 a7 z0 z1 z2 z3 z4 z5 z6 z7 HH6 HR6 HK6 HR00
      go_wp2_with fail
      go_loopw [7] (fun vi wr => ∃ k : Nat, k ≤ n ∧ vi = .int .i64 (k : Int) ∧ Hid (RfAt wr rb (readPs k q2).2 ∧ (∃ A cp, wr.heap[c0]? = some (.cells (headA xs (.slice A k cp)) 60) ∧ wr.ownsRow W4.heap.size 75 2 (.slice A k cp) k ((readPs k q2).1.flatMap partCells)) ∧ Kp2 rb c0 W4 wr)) (fun vi _ => n - (RowKit.intOf vi).toNat)
      case atStart => exact ⟨0, Nat.zero_le _, rfl, HN0⟩
      case round =>
        clear HN0 r1
        obtain ⟨k, hk, rfl, HI⟩ := hrel
        have hwr4 : W4.heap.size ≤ wr.heap.size := HI.out.2.2.size
        have hcz : c0 < W4.heap.size := by have := HWC.out; omega
        have hrz : rb < c0 := HRB.out
        by_cases hlt : k < n
        · have l0 : (k : Int) < (n : Int) := by omega
          obtain ⟨x1, hx1⟩ : ∃ x, (readN (readPs k q2).2).1 = x := ⟨_, rfl⟩
          obtain ⟨q3, hq3⟩ : ∃ q, (readN (readPs k q2).2).2 = q := ⟨_, rfl⟩
          obtain ⟨x2, hx2⟩ : ∃ x, (readN q3).1 = x := ⟨_, rfl⟩
          obtain ⟨q4, hq4⟩ : ∃ q, (readN q3).2 = q := ⟨_, rfl⟩
          have HPS := Lib.hid (show readPs (k + 1) q2 = ((readPs k q2).1 ++ [(x1, x2)], q4) from by rw [readPs_snoc, hx1, hq3, hx2, hq4])
          obtain ⟨X7, hX7⟩ : ∃ X7, wr.alloc (.cells #[.int .i64 0, .int .i64 0] 75) = X7 := ⟨_, rfl⟩
          have hrX : RfAt X7 rb (readPs k q2).2 := by rw [← hX7]; exact HI.out.1.below (box_below _ _)
          have hC1 := readRef_calls rb _ X7 hrX (readPs_le k HL2.out)
          rw [hx1, hq3] at hC1
          have HC1 := Lib.hid hC1
          have HC2 := Lib.hid (fun (Y : World) (h : RfAt Y rb q3) => show Calls Tryz.prog 96 #[.pointer (some ⟨rb, 0, none⟩)] Y (fun e w' => e = .returned (.int .i64 x2) ∧ RfAt w' rb q4 ∧ But rb Y w') from by
            have := readRef_calls rb _ Y h (by rw [← hq3]; exact readN_le (readPs_le k HL2.out))
            rwa [hx2, hq4] at this)
          obtain ⟨pb, hpb⟩ : ∃ pb, wr.heap.size = pb := ⟨_, rfl⟩
          have HX7 := Lib.hid (show Below wr.heap.size wr X7 ∧ X7.heap.size = pb + 1 ∧ X7.heap[pb]? = some (.cells #[.int .i64 0, .int .i64 0] 75) from by rw [← hX7, ← hpb]; exact ⟨box_below _ _, by simp, heap_new _ _⟩)
          obtain ⟨A, cp, hc0, ho0⟩ := HI.out.2.1
          have HC0 := Lib.hid hc0
          have HO0 := Lib.hid ho0
          have HXE := Lib.hid hX7
          clear hx1 hq3 hx2 hq4 hc0 ho0 hC1 hrX hX7
          go_wp2_with fail
          rw [HXE.out]
          clear HXE
          (with_reducible refine HC1.out.mono ?_)
          rintro e w8 ⟨rfl, hr8, hb8⟩
          have hp8 : w8.heap[pb]? = some (.cells #[.int .i64 0, .int .i64 0] 75) := (hb8.block _ (by have := HX7.out; omega) (fun e => by have := Option.some.inj e; omega)).trans HX7.out.2.2
          have p80 : w8.cell? ⟨pb, 0, none⟩ = some (.int .i64 0) := by rw [cell_of_row _ _ _ _ _ _ hp8]; rfl
          have f80 : w8.frozen? ⟨pb, 0, none⟩ = false := by simp [World.frozen?, hp8]
          have HP8 := Lib.hid (show (w8.setCell ⟨pb, 0, none⟩ (.int .i64 x1)).heap[pb]? = some (.cells #[.int .i64 x1, .int .i64 0] 75) from set_heap (i := 0) _ hp8)
          have HR8 := Lib.hid (show RfAt (w8.setCell ⟨pb, 0, none⟩ (.int .i64 x1)) rb q3 from hr8.set (by omega))
          have HE8 := Lib.hid (show pb + 1 ≤ (w8.setCell ⟨pb, 0, none⟩ (.int .i64 x1)).heap.size ∧ (∀ i, i < pb → i ≠ rb → (w8.setCell ⟨pb, 0, none⟩ (.int .i64 x1)).heap[i]? = wr.heap[i]?) from ⟨by have := hb8.size; have := HX7.out; simp [World.setCell]; omega, fun i h1 h2 => (Below.heap_setCell _ _ _ _ (fun e => by have e : i = pb := e; omega)).trans ((hb8.block _ (by have := HX7.out; omega) (fun e => h2 (Option.some.inj e))).trans (HX7.out.1.block _ (by omega)))⟩)
          have HK8 := Lib.hid (show Kp2 rb c0 W4 (w8.setCell ⟨pb, 0, none⟩ (.int .i64 x1)) from by
            have k1 : Kp2 rb c0 W4 X7 := HI.out.2.2.trans (Kp.of_below (U := fun i => i = rb ∨ i = c0) HX7.out.1) (fun _ _ h => h)
            have k2 : Kp2 rb c0 W4 w8 := k1.trans (Kp.of_but (U := fun i => i = rb ∨ i = c0) hb8 (.inl rfl)) (fun _ _ h => h)
            exact k2.trans (Kp.of_but (U := fun i => i = pb) ((But.refl pb w8).setCell 0 (.int .i64 x1)) rfl) (fun i h1 h2 => by exfalso; have h2 : i = pb := h2; omega))
          clear hr8 hb8 hp8
          go_wp2_with fail
          obtain ⟨Y8, hY8⟩ : ∃ Y8, w8.setCell ⟨pb, 0, none⟩ (.int .i64 x1) = Y8 := ⟨_, rfl⟩
          rw [hY8] at HP8 HR8 HE8 HK8 ⊢
          clear hY8 p80 f80
          (with_reducible refine (HC2.out Y8 HR8.out).mono ?_)
          rintro e w9 ⟨rfl, hr9, hb9⟩
          have hp9 : w9.heap[pb]? = some (.cells #[.int .i64 x1, .int .i64 0] 75) := (hb9.block _ (by have := HE8.out.1; omega) (fun e => by have := Option.some.inj e; omega)).trans HP8.out
          have HEQ := Lib.hid (show ∀ i, i < wr.heap.size → i ≠ rb → w9.heap[i]? = wr.heap[i]? from fun i h2 h3 => (hb9.block _ (by have := HE8.out.1; omega) (fun e => h3 (Option.some.inj e))).trans (HE8.out.2 i (by omega) h3))
          have hc9 : w9.heap[c0]? = some (.cells (headA xs (.slice A k cp)) 60) := (HEQ.out c0 (by omega) (by omega)).trans HC0.out
          have p0 : w9.cell? ⟨pb, 0, none⟩ = some (.int .i64 x1) := by rw [cell_of_row _ _ _ _ _ _ hp9]; rfl
          have p1 : w9.cell? ⟨pb, 1, none⟩ = some (.int .i64 0) := by rw [cell_of_row _ _ _ _ _ _ hp9]; rfl
          have f1 : w9.frozen? ⟨pb, 1, none⟩ = false := by simp [World.frozen?, hp9]
          have hnc : ¬ pb = c0 := by omega
          have hnc2 : ¬ c0 = pb := by omega
          have c7 : w9.cell? ⟨c0, 7, none⟩ = some (.slice A k cp) := by rw [cell_of_row _ _ _ _ _ _ hc9]; rfl
          have hsz9 : pb < w9.heap.size := by have := HE8.out.1; have := hb9.size; omega
          have hyb : ∀ i, i < w9.heap.size → i ≠ pb → ((w9.setCell ⟨pb, 1, none⟩ (.int .i64 x2)).alloc (.cells #[.int .i64 x1, .int .i64 x2] 75)).heap[i]? = w9.heap[i]? := fun i h1 h2 => (Below.heap_alloc _ _ i (by simpa [World.setCell] using h1)).trans (Below.heap_setCell _ _ _ _ (fun e => h2 (by have e : i = pb := e; exact e)))
          have HYB := Lib.hid hyb
          have HOY := Lib.hid (show ((w9.setCell ⟨pb, 1, none⟩ (.int .i64 x2)).alloc (.cells #[.int .i64 x1, .int .i64 x2] 75)).ownsRow W4.heap.size 75 2 (.slice A k cp) k ((readPs k q2).1.flatMap partCells) from own_same HO0.out fun i h1 h2 => (hyb i (by omega) (by omega)).trans (HEQ.out i h2 (by omega)))
          have HSZ := Lib.hid (show W4.heap.size ≤ w9.heap.size ∧ pb < w9.heap.size from ⟨by omega, hsz9⟩)
          have hys : ((w9.setCell ⟨pb, 1, none⟩ (.int .i64 x2)).alloc (.cells #[.int .i64 x1, .int .i64 x2] 75)).heap.size = w9.heap.size + 1 := by simp [World.setCell]
          have HYS := Lib.hid hys
          have HBX := Lib.hid (show ((w9.setCell ⟨pb, 1, none⟩ (.int .i64 x2)).alloc (.cells #[.int .i64 x1, .int .i64 x2] 75)).heap[w9.heap.size]? = some (.cells #[.int .i64 x1, .int .i64 x2] 75) from by have := heap_new (w9.setCell ⟨pb, 1, none⟩ (.int .i64 x2)) (.cells #[.int .i64 x1, .int .i64 x2] 75); simpa [World.setCell] using this)
          have HC9 := Lib.hid hc9
          have HR9 := Lib.hid hr9
          have HB9 := Lib.hid hb9
          clear hp9 hc9 hr9 hb9 hyb hys
          go_wp2_with (at_builtin; go_must (refine list_app sliceOfPartP rfl _ _ rfl (base := W4.heap.size) rfl HOY.out rfl (Src.at HBX.out 2 1 1 rfl (by intro u hu; simp at hu; rcases hu with rfl | rfl <;> rfl)) (by unfold maxLen; omega) (by omega) (by have := HSZ.out.1; have := HYS.out; omega) ?_); intro v10 w10 ho10 hB10 hg10; obtain ⟨A', cp', rfl, -, -, -, -⟩ := own_form ho10; have hc10 : w10.heap[c0]? = some (.cells (headA xs (.slice A k cp)) 60) := (hg10.block c0 (by have := HSZ.out.1; have := HYS.out; omega) (fun e => by have := own_blk HOY.out c0 e.symm; omega)).trans ((HYB.out c0 (by have := HSZ.out.1; omega) (by omega)).trans HC9.out); have d7 : w10.cell? ⟨c0, 7, none⟩ = some (.slice A k cp) := (by rw [cell_of_row _ _ _ _ _ _ hc10]; rfl); have df7 : w10.frozen? ⟨c0, 7, none⟩ = false := (by simp [World.frozen?, hc10]); have HC10 := Lib.hid hc10; have HO10 := Lib.hid ho10; have HG10 := Lib.hid hg10; clear hc10 ho10 hB10 hg10)
          refine ⟨⟨k + 1, by omega, by simp, Lib.hid ⟨?_, ⟨A', cp', ?_, ?_⟩, ?_⟩⟩, by simp only [RowKit.intOf]; omega⟩
          · rw [HPS.out]
            refine HR9.out.keep fun i hi => ?_
            refine (Below.heap_setCell _ _ _ _ (fun e => by have e : i = c0 := e; omega)).trans ((HG10.out.block i (by have := HYS.out; have := HSZ.out.1; omega) (fun e => by have := own_blk HOY.out i e.symm; omega)).trans (HYB.out i (by have := HSZ.out.1; omega) (by omega)))
          · exact set_heap (i := 7) _ HC10.out
          · rw [HPS.out]
            have := own_same (w' := w10.setCell ⟨c0, 7, none⟩ (.slice A' (k + 1) cp')) HO10.out fun i h1 h2 => Below.heap_setCell _ _ _ _ (fun e => by have e : i = c0 := e; omega)
            rw [List.flatMap_append]
            exact this
          · have k3 : Kp2 rb c0 W4 w9 := HK8.out.trans (Kp.of_but (U := fun i => i = rb ∨ i = c0) HB9.out (.inl rfl)) (fun _ _ h => h)
            have k4 := k3.trans (Kp.of_but (U := fun i => i = pb) (((But.refl pb w9).setCell 1 (.int .i64 x2)).alloc (.cells #[.int .i64 x1, .int .i64 x2] 75)) rfl) (fun i h1 h2 => by exfalso; have h2 : i = pb := h2; omega)
            have k5 := k4.trans (Kp.grown (V := fun i => W4.heap.size ≤ i) HG10.out (fun j e => own_blk HOY.out j e)) (fun i h1 h2 => by exfalso; have h2 : W4.heap.size ≤ i := h2; omega)
            exact k5.trans (Kp.of_but (U := fun i => i = rb ∨ i = c0) ((But.refl c0 w10).setCell 7 _) (.inr rfl)) (fun _ _ h => h)
        · obtain rfl : k = n := by omega
          obtain ⟨A, cp, hc0, ho0⟩ := HI.out.2.1
          have HC0 := Lib.hid hc0
          have HO0 := Lib.hid ho0
          have HBE := Lib.hid (HKB.out wr HI.out.2.2)
          have HR00 := Lib.hid (HKR.out wr HI.out.2.2)
          have a0 : wr.cell? ⟨w.heap.size, 0, none⟩ = some (.int .i64 0) := by rw [cell_of_row _ _ _ _ _ _ HR00.out]; rfl
          have z0 : wr.frozen? ⟨w.heap.size, 0, none⟩ = false := by simp [World.frozen?, HR00.out]
          have a1 : wr.cell? ⟨w.heap.size, 1, none⟩ = some (.int .i64 0) := by rw [cell_of_row _ _ _ _ _ _ HR00.out]; rfl
          have z1 : wr.frozen? ⟨w.heap.size, 1, none⟩ = false := by simp [World.frozen?, HR00.out]
          have a2 : wr.cell? ⟨w.heap.size, 2, none⟩ = some (.int .i64 0) := by rw [cell_of_row _ _ _ _ _ _ HR00.out]; rfl
          have z2 : wr.frozen? ⟨w.heap.size, 2, none⟩ = false := by simp [World.frozen?, HR00.out]
          have a3 : wr.cell? ⟨w.heap.size, 3, none⟩ = some (.int .i64 0) := by rw [cell_of_row _ _ _ _ _ _ HR00.out]; rfl
          have z3 : wr.frozen? ⟨w.heap.size, 3, none⟩ = false := by simp [World.frozen?, HR00.out]
          have a4 : wr.cell? ⟨w.heap.size, 4, none⟩ = some (.int .i64 0) := by rw [cell_of_row _ _ _ _ _ _ HR00.out]; rfl
          have z4 : wr.frozen? ⟨w.heap.size, 4, none⟩ = false := by simp [World.frozen?, HR00.out]
          have a5 : wr.cell? ⟨w.heap.size, 5, none⟩ = some (.int .i64 0) := by rw [cell_of_row _ _ _ _ _ _ HR00.out]; rfl
          have z5 : wr.frozen? ⟨w.heap.size, 5, none⟩ = false := by simp [World.frozen?, HR00.out]
          have a6 : wr.cell? ⟨w.heap.size, 6, none⟩ = some (.int .i64 0) := by rw [cell_of_row _ _ _ _ _ _ HR00.out]; rfl
          have z6 : wr.frozen? ⟨w.heap.size, 6, none⟩ = false := by simp [World.frozen?, HR00.out]
          have a7 : wr.cell? ⟨w.heap.size, 7, none⟩ = some (.slice none 0 0) := by rw [cell_of_row _ _ _ _ _ _ HR00.out]; rfl
          have z7 : wr.frozen? ⟨w.heap.size, 7, none⟩ = false := by simp [World.frozen?, HR00.out]
          have hrd := HI.out.1
          obtain ⟨qe, hqe⟩ : ∃ q, (readPs k q2).2 = q := ⟨_, rfl⟩
          rw [hqe] at hrd HRC2
          clear hqe hc0 ho0
          cases qe with
          | none =>
            obtain ⟨rv, hrv⟩ := hrd
            have r1 : wr.cell? ⟨rb, 1, none⟩ = some (.bool true) := by rw [cell_of_row _ _ _ _ _ _ hrv]; rfl
            have HN := Lib.hid (show readC s.data.toList = none from by rw [HRC2.out, if_neg (by simp)])
            clear hrv
            go_wp2_with fail
            refine bodyPost_ret (ref_ret rfl rfl (set8_heap HR00.out rfl _ _ _ _ _ _ _ _) rfl) rfl ?_
            rw [HN.out]
            exact ⟨But.fresh HBE.out (Nat.le_refl _) HBE.out.size (set8_but _ _ _ _ _ _ _ _ _ _), rfl⟩
          | some le =>
            obtain ⟨rv, hrv, hrA, -⟩ := hrd
            obtain ⟨RA, rc, rfl, -, -⟩ := hrA
            have r1 : wr.cell? ⟨rb, 1, none⟩ = some (.bool false) := by rw [cell_of_row _ _ _ _ _ _ hrv]; rfl
            have r0 : wr.cell? ⟨rb, 0, none⟩ = some (.slice RA le.length rc) := by rw [cell_of_row _ _ _ _ _ _ hrv]; rfl
            clear hrv
            by_cases hq : le = []
            · subst hq
              have HN := Lib.hid (show readC s.data.toList = some ⟨xs.getD 0 0, xs.getD 1 0, xs.getD 2 0, xs.getD 3 0, xs.getD 4 0, xs.getD 5 0, xs.getD 6 0, (readPs k q2).1⟩ from by rw [HRC2.out, if_pos rfl])
              have b0 : wr.cell? ⟨c0, 0, none⟩ = some (.int .i64 (xs.getD 0 0)) := by rw [cell_of_row _ _ _ _ _ _ HC0.out]; rfl
              have b1 : wr.cell? ⟨c0, 1, none⟩ = some (.int .i64 (xs.getD 1 0)) := by rw [cell_of_row _ _ _ _ _ _ HC0.out]; rfl
              have b2 : wr.cell? ⟨c0, 2, none⟩ = some (.int .i64 (xs.getD 2 0)) := by rw [cell_of_row _ _ _ _ _ _ HC0.out]; rfl
              have b3 : wr.cell? ⟨c0, 3, none⟩ = some (.int .i64 (xs.getD 3 0)) := by rw [cell_of_row _ _ _ _ _ _ HC0.out]; rfl
              have b4 : wr.cell? ⟨c0, 4, none⟩ = some (.int .i64 (xs.getD 4 0)) := by rw [cell_of_row _ _ _ _ _ _ HC0.out]; rfl
              have b5 : wr.cell? ⟨c0, 5, none⟩ = some (.int .i64 (xs.getD 5 0)) := by rw [cell_of_row _ _ _ _ _ _ HC0.out]; rfl
              have b6 : wr.cell? ⟨c0, 6, none⟩ = some (.int .i64 (xs.getD 6 0)) := by rw [cell_of_row _ _ _ _ _ _ HC0.out]; rfl
              have b7 : wr.cell? ⟨c0, 7, none⟩ = some (.slice A k cp) := by rw [cell_of_row _ _ _ _ _ _ HC0.out]; rfl
              go_wp2_with fail
              refine bodyPost_ret (ref_ret rfl rfl (set8_heap HR00.out rfl _ _ _ _ _ _ _ _) rfl) rfl ?_
              rw [HN.out]
              refine ⟨But.fresh HBE.out (Nat.le_refl _) HBE.out.size (set8_but _ _ _ _ _ _ _ _ _ _), _, rfl, ?_⟩
              have hlen := readPs_len k q2
              show World.ownsRow _ _ _ _ _ (readPs k q2).1.length _
              rw [hlen]
              refine own_base (own_same HO0.out fun i h1 h2 => (set8_but wr w.heap.size _ _ _ _ _ _ _ _).block i h2 (fun e => ?_)) (by have := HW1B.out.size; omega)
              have := HR04.out.2
              have := HBW.out.size
              have := Option.some.inj e
              omega
            · have hlp : 0 < le.length := List.length_pos_iff.2 hq
              have t3 : decide ((0 : Int) < (le.length : Int)) = true := decide_eq_true (by omega)
              have HN := Lib.hid (show readC s.data.toList = none from by rw [HRC2.out, if_neg (fun e => hq (Option.some.inj e))])
              clear hq
              go_wp2_with fail
              refine bodyPost_ret (ref_ret rfl rfl (set8_heap HR00.out rfl _ _ _ _ _ _ _ _) rfl) rfl ?_
              rw [HN.out]
              exact ⟨But.fresh HBE.out (Nat.le_refl _) HBE.out.size (set8_but _ _ _ _ _ _ _ _ _ _), rfl⟩
end Go.Proofs.YtkjajlolfcioiaaGreatDoor.Pack

/- the document's Text of a command, walked. -/
namespace Go.Proofs.YtkjajlolfcioiaaGreatDoor.Pack
open Go Go.RowKit Go.Proofs Go.Proofs.YtkjajlolfcioiaaGreatDoor Go.Proofs.YtkjajlolfcioiaaGreatDoor.Own Go.Proofs.YtkjajlolfcioiaaGreatDoor.Tail Go.Proofs.YtkjajlolfcioiaaGreatDoor.Check Go.Proofs.YtkjajlolfcioiaaGreatDoor.Ctl Go.Proofs.YtkjajlolfcioiaaGreatDoor.Control
theorem cellG {a b : World} {row : Option Nat} {p : Addr} {v : Value} (hg : a.grownBy b row) (hp : row ≠ some p.block) (h : a.cell? p = some v) : b.cell? p = some v :=
  (World.cell?_of_block (hg.block _ (lt_of_cell h) (fun e => hp e.symm))).trans h
theorem src_own {w : World} {base E size n : Nat} {v : Value} {xs : List Value} (h : w.ownsRow base E size v n xs) (h1 : ∀ u ∈ xs, u.oneCell' = true) : Src w size v n xs := by
  obtain ⟨A, cap, rfl, hc, -, hn, hr⟩ := own_form h
  refine ⟨h.1, h1, ?_⟩
  cases A with
  | none => exact .inl ⟨by rw [(hn rfl).1, (hn rfl).2], (hn rfl).2⟩
  | some ad => exact .inr ⟨ad, cap, rfl, (hr ad rfl).2⟩
theorem sliceOfIntT : SliceOf Tryz.prog 30 3 1 8 := sliceOf (z := .int .i64 0) Tryz.underlying30 (by kernel_rfl) rfl (by decide)
/-- a row of ints that is the code's own. -/
abbrev IntsOwn (w : World) (base : Nat) (v : Value) (L : List Int) : Prop := w.ownsRow base 3 1 v L.length (L.map (Value.int .i64))
set_option maxHeartbeats 4000000 in
set_option maxRecDepth 100000 in
theorem text_calls (c : Cmd) (v : Value) (w : World) (hv : PartsAt w v c.parts) (hi : CmdI c) (hl : c.parts.length ≤ 1000) :
    Calls Tryz.prog 46 #[.agg #[.int .i64 c.kind, .int .i64 c.flow, .int .i64 c.att, .int .i64 c.num, .int .i64 c.wk, .int .i64 c.rd, .int .i64 c.kp, v]] w fun e w' => e = .returned (.string ⟨(cmdB c).toArray⟩) ∧ Below w.heap.size w w' := by
  obtain ⟨A, cp, rfl, hc, hr⟩ := hv
  have HR := Lib.hid hr
  have HX := Lib.hid (show ∀ x ∈ cmdNums c ++ partNums c.parts, I64 x from by
    intro x hx
    rcases List.mem_append.1 hx with hx | hx
    · simp only [cmdNums, List.mem_cons, List.not_mem_nil, or_false] at hx
      rcases hx with rfl | rfl | rfl | rfl | rfl | rfl | rfl | rfl
      · exact hi.kind
      · exact hi.flow
      · exact hi.att
      · exact hi.num
      · exact hi.wk
      · exact hi.rd
      · exact hi.kp
      · exact ⟨by omega, by omega⟩
    · obtain ⟨p, hp, hxp⟩ := List.mem_flatMap.1 hx
      simp only [List.mem_cons, List.not_mem_nil, or_false] at hxp
      rcases hxp with rfl | rfl
      · exact (hi.parts p hp).1
      · exact (hi.parts p hp).2)
  clear hr hi
  have HLP := Lib.hid (partNums_len c.parts)
  go_enter Tryz.func46, Tryz.ntmps46
  have hk1 : w.heap.size < (w.alloc (.cells #[.int .i64 c.kind, .int .i64 c.flow, .int .i64 c.att, .int .i64 c.num, .int .i64 c.wk, .int .i64 c.rd, .int .i64 c.kp, .slice A c.parts.length cp] 60)).heap.size := by simp
  go_wp2_with fail
  obtain ⟨W1, hW1⟩ : ∃ W1, w.alloc (.cells #[.int .i64 c.kind, .int .i64 c.flow, .int .i64 c.att, .int .i64 c.num, .int .i64 c.wk, .int .i64 c.rd, .int .i64 c.kp, .slice A c.parts.length cp] 60) = W1 := ⟨_, rfl⟩
  have HB1 := Lib.hid (show Below w.heap.size w W1 from by rw [← hW1]; exact box_below _ _)
  have HP7 := Lib.hid (show W1.cell? ⟨w.heap.size, 7, none⟩ = some (.slice A c.parts.length cp) from by rw [← hW1]; exact cell_new rfl rfl)
  have hs1 : W1.heap.size = w.heap.size + 1 := by rw [← hW1]; simp
  rw [hW1]
  clear hW1 hk1
  obtain ⟨W2, hW2⟩ : ∃ W2, W1.alloc (.cells #[.int .i64 c.kind, .int .i64 c.flow, .int .i64 c.att, .int .i64 c.num, .int .i64 c.wk, .int .i64 c.rd, .int .i64 c.kp, .int .i64 (c.parts.length : Int)] 3) = W2 := ⟨_, rfl⟩
  have HB2 := Lib.hid (show Below W1.heap.size W1 W2 from by rw [← hW2]; exact box_below _ _)
  have HS1 := Lib.hid hs1
  have HO0 := Lib.hid (show IntsOwn W2 W1.heap.size (.slice (some ⟨w.heap.size + 1, 0, none⟩) 8 8) (cmdNums c ++ partNums (c.parts.take 0)) from by
    rw [← hW2, ← hs1]
    refine ⟨by simp [cmdNums, partNums], .inr ⟨W1.heap.size, 8, _, rfl, Nat.le_refl _, heap_new _ _, by simp [cmdNums, partNums], by decide, by simp, ?_⟩⟩
    simp [cmdNums, partNums])
  rw [hW2]
  have HS2 := Lib.hid (show W2.heap.size = w.heap.size + 2 from by rw [← hW2]; simp [hs1])
  clear hW2 hs1
  go_loopw [4, 5] (fun vl vi wr => ∃ k : Nat, k ≤ c.parts.length ∧ vi = .int .i64 (k : Int) ∧ Hid (IntsOwn wr W1.heap.size vl (cmdNums c ++ partNums (c.parts.take k)) ∧ Below W1.heap.size W1 wr)) (fun _ vi _ => c.parts.length - (RowKit.intOf vi).toNat)
  case atStart => exact ⟨0, Nat.zero_le _, rfl, Lib.hid ⟨HO0.out, HB2.out⟩⟩
  case round =>
    clear HO0
    obtain ⟨wo, rfl⟩ : ∃ wo, wo = wr := ⟨wr, rfl⟩
    obtain ⟨k, hk, rfl, HI⟩ := hrel
    have hp7 := kc HI.out.2 HP7.out
    by_cases hlt : k < c.parts.length
    · have l0 : (k : Int) < (c.parts.length : Int) := by omega
      obtain ⟨b, o, ea, hcells⟩ := HR.out (by omega)
      subst ea
      obtain ⟨⟨kd, pn⟩, hx⟩ : ∃ x, c.parts[k]? = some x := ⟨_, List.getElem?_eq_getElem hlt⟩
      have hww : Below w.heap.size w wo := go HB1.out HI.out.2
      have x0 : wo.cell? ⟨b, o + k * 2, none⟩ = some (.int .i64 kd) := kc hww (hcells (k * 2 + 0) _ (flat_get partCells 2 (fun _ => rfl) _ k 0 _ hx (by decide)))
      have x1 : wo.cell? ⟨b, o + k * 2 + 1, none⟩ = some (.int .i64 pn) := kc hww (hcells (k * 2 + 1) _ (flat_get partCells 2 (fun _ => rfl) _ k 1 _ hx (by decide)))
      have hbl := lt_of_cell x0
      have HXK := Lib.hid (show cmdNums c ++ partNums (c.parts.take (k + 1)) = (cmdNums c ++ partNums (c.parts.take k)) ++ [kd, pn] from by
        rw [List.take_add_one, hx]
        simp [partNums])
      have HLN := Lib.hid (show (cmdNums c ++ partNums (c.parts.take k)).length = 8 + 2 * k from by
        rw [List.length_append, partNums_len, List.length_take, Nat.min_eq_left (by omega)]
        rfl)
      have HBW := Lib.hid (show b < w.heap.size from lt_of_cell (hcells (k * 2 + 0) _ (flat_get partCells 2 (fun _ => rfl) _ k 0 _ hx (by decide))))
      obtain ⟨M, hM⟩ : ∃ M, cmdNums c ++ partNums (c.parts.take k) = M := ⟨_, rfl⟩
      rw [hM] at HI HXK HLN
      obtain ⟨Al, cl, rfl, -, -, -, -⟩ := own_form HI.out.1
      clear hcells hx hww hM
      go_wp2_with fail
      have hS0 : (fun X : World => X.cell? ⟨w.heap.size, 7, none⟩ = some (.slice (some ⟨b, o, none⟩) c.parts.length cp) ∧ X.cell? ⟨b, o + k * 2, none⟩ = some (.int .i64 kd) ∧ X.cell? ⟨b, o + k * 2 + 1, none⟩ = some (.int .i64 pn)) wo.drew := ⟨hp7, x0, x1⟩
      refine wp_region_any (by kernel_rfl) ?_
      refine wpAny_of_held (S := fun X : World => X.cell? ⟨w.heap.size, 7, none⟩ = some (.slice (some ⟨b, o, none⟩) c.parts.length cp) ∧ X.cell? ⟨b, o + k * 2, none⟩ = some (.int .i64 kd) ∧ X.cell? ⟨b, o + k * 2 + 1, none⟩ = some (.int .i64 pn)) _ _ _ _ ?_
      refine wpAnyH_take (i := 0) (v := ?_) rfl (by kernel_rfl) (by kernel_rfl) (by kernel_rfl) (fun _ _ _ h => h) (Or.inl ⟨by rfl, ?_⟩) hS0 ?_
      rotate_left
      · intro w hSw; (try dsimp only at hSw); go_simp; (first | done | with_reducible rfl)
      simp only [Act.put, List.getElem_toArray, List.getElem_cons_zero, List.setIfInBounds_toArray, List.set_cons_zero, List.set_cons_succ]
      refine wpAnyH_take (i := 1) (v := ?_) rfl (by kernel_rfl) (by kernel_rfl) (by kernel_rfl) (fun _ _ _ h => h) (Or.inl ⟨by rfl, ?_⟩) hS0 ?_
      rotate_left
      · intro w hSw; (try dsimp only at hSw); go_simp; (first | done | with_reducible rfl)
      simp only [Act.put, List.getElem_toArray, List.getElem_cons_zero, List.getElem_cons_succ, List.setIfInBounds_toArray, List.set_cons_zero, List.set_cons_succ]
      refine wpAnyH_take (i := 2) (v := ?_) rfl (by kernel_rfl) (by kernel_rfl) (by kernel_rfl) (fun _ _ _ h => h) (Or.inl ⟨by rfl, ?_⟩) hS0 ?_
      rotate_left
      · intro w hSw; (try dsimp only at hSw); go_simp; (first | done | with_reducible rfl)
      simp only [Act.put, List.getElem_toArray, List.getElem_cons_zero, List.getElem_cons_succ, List.setIfInBounds_toArray, List.set_cons_zero, List.set_cons_succ]
      refine wpAnyH_take (i := 3) (v := ?_) rfl (by kernel_rfl) (by kernel_rfl) (by kernel_rfl) (fun _ _ _ h => h) (Or.inl ⟨by rfl, ?_⟩) hS0 ?_
      rotate_left
      · intro w hSw; (try dsimp only at hSw); go_simp; (first | done | with_reducible rfl)
      simp only [Act.put, List.getElem_toArray, List.getElem_cons_zero, List.getElem_cons_succ, List.setIfInBounds_toArray, List.set_cons_zero, List.set_cons_succ]
      refine wpAnyH_take (i := 4) (v := ?_) rfl (by kernel_rfl) (by kernel_rfl) (by kernel_rfl) (fun _ _ _ h => h) (Or.inl ⟨by rfl, ?_⟩) hS0 ?_
      rotate_left
      · intro w hSw; (try dsimp only at hSw); go_simp; (first | done | with_reducible rfl)
      simp only [Act.put, List.getElem_toArray, List.getElem_cons_zero, List.getElem_cons_succ, List.setIfInBounds_toArray, List.set_cons_zero, List.set_cons_succ]
      refine wpAnyH_take (i := 5) (v := ?_) rfl (by kernel_rfl) (by kernel_rfl) (by kernel_rfl) (fun _ _ _ h => h) (Or.inl ⟨by rfl, ?_⟩) hS0 ?_
      rotate_left
      · intro w hSw; (try dsimp only at hSw); go_simp; (first | done | with_reducible rfl)
      simp only [Act.put, List.getElem_toArray, List.getElem_cons_zero, List.getElem_cons_succ, List.setIfInBounds_toArray, List.set_cons_zero, List.set_cons_succ]
      refine wpAnyH_take (i := 6) (v := ?_) rfl (by kernel_rfl) (by kernel_rfl) (by kernel_rfl) (fun _ _ _ h => h) (Or.inl ⟨by rfl, ?_⟩) hS0 ?_
      rotate_left
      · intro w hSw; (try dsimp only at hSw); go_simp; (first | done | with_reducible rfl)
      simp only [Act.put, List.getElem_toArray, List.getElem_cons_zero, List.getElem_cons_succ, List.setIfInBounds_toArray, List.set_cons_zero, List.set_cons_succ]
      refine wpAnyH_take (i := 7) (v := ?_) rfl (by kernel_rfl) (by kernel_rfl) (by kernel_rfl) (fun _ _ _ h => h) (Or.inl ⟨by rfl, ?_⟩) hS0 ?_
      rotate_left
      · intro w hSw; (try dsimp only at hSw); go_simp; (first | done | with_reducible rfl)
      simp only [Act.put, List.getElem_toArray, List.getElem_cons_zero, List.getElem_cons_succ, List.setIfInBounds_toArray, List.set_cons_zero, List.set_cons_succ]
      refine wpAnyH_take (i := 8) (v := ?_) rfl (by kernel_rfl) (by kernel_rfl) (by kernel_rfl) (fun _ _ _ h => h) (Or.inl ⟨by rfl, ?_⟩) hS0 ?_
      rotate_left
      · intro w hSw; (try dsimp only at hSw); go_simp; (first | done | with_reducible rfl)
      simp only [Act.put, List.getElem_toArray, List.getElem_cons_zero, List.getElem_cons_succ, List.setIfInBounds_toArray, List.set_cons_zero, List.set_cons_succ]
      refine wpAnyH_take (i := 9) (v := ?_) rfl (by kernel_rfl) (by kernel_rfl) (by kernel_rfl) (fun _ _ _ h => h) (Or.inl ⟨by rfl, ?_⟩) hS0 ?_
      rotate_left
      · intro w hSw; (try dsimp only at hSw); go_simp; (first | done | with_reducible rfl)
      simp only [Act.put, List.getElem_toArray, List.getElem_cons_zero, List.getElem_cons_succ, List.setIfInBounds_toArray, List.set_cons_zero, List.set_cons_succ]
      refine wpAnyH_take (i := 10) (v := ?_) rfl (by kernel_rfl) (by kernel_rfl) (by kernel_rfl) (fun _ _ _ h => h) (Or.inl ⟨by rfl, ?_⟩) hS0 ?_
      rotate_left
      · intro w hSw; (try dsimp only at hSw); go_simp; (first | done | with_reducible rfl)
      simp only [Act.put, List.getElem_toArray, List.getElem_cons_zero, List.getElem_cons_succ, List.setIfInBounds_toArray, List.set_cons_zero, List.set_cons_succ]
      refine wpAnyH_take (i := 11) (v := ?_) rfl (by kernel_rfl) (by kernel_rfl) (by kernel_rfl) (fun _ _ _ h => h) (Or.inl ⟨by rfl, ?_⟩) hS0 ?_
      rotate_left
      · intro w hSw; (try dsimp only at hSw); go_simp; (first | done | with_reducible rfl)
      simp only [Act.put, List.getElem_toArray, List.getElem_cons_zero, List.getElem_cons_succ, List.setIfInBounds_toArray, List.set_cons_zero, List.set_cons_succ]
      refine wpAnyH_take (i := 12) (v := ?_) rfl (by kernel_rfl) (by kernel_rfl) (by kernel_rfl) (fun _ _ _ h => h) (Or.inl ⟨by rfl, ?_⟩) hS0 ?_
      rotate_left
      · intro w hSw; (try dsimp only at hSw); go_simp; (first | done | with_reducible rfl)
      simp only [Act.put, List.getElem_toArray, List.getElem_cons_zero, List.getElem_cons_succ, List.setIfInBounds_toArray, List.set_cons_zero, List.set_cons_succ]
      refine wpAnyH_ready (rs := [13]) (by kernel_rfl) (by simp) ?_
      refine AllReadyH.cons rfl (fun K hK => ?_) AllReadyH.nil
      go_simp
      refine hK.out _ _ ⟨kc (box_below _ _) hS0.1, kc (box_below _ _) hS0.2.1, kc (box_below _ _) hS0.2.2⟩ (fun hS1 => ?_)
      clear hK K
      try simp only [Act.put, List.setIfInBounds_toArray, List.set_cons_zero, List.set_cons_succ]
      refine wpAnyH_ready (rs := [14]) (by kernel_rfl) (by simp) ?_
      refine AllReadyH.cons rfl (fun K hK => ?_) AllReadyH.nil
      have hb9 : Below wo.heap.size wo (wo.drew.alloc (.cells #[.int .i64 kd, .int .i64 pn] 3)) := balloc (Below.refl _ _).drew _
      refine Own.step_app (o := ⟨some 46, _, _, _, _, _⟩) sliceOfIntT (by rfl) (.tmp 32) (.tmp 45) (by rfl) (base := W1.heap.size) (by rfl) (own_kept HI.out.1 hb9) (by rfl) (Src.new wo.drew #[.int .i64 kd, .int .i64 pn] 3 1 2 2 (by simp) (by simp [Value.oneCell'])) (by have := HLN.out; unfold maxLen; omega) (by have := HLN.out; omega) (by have := HI.out.2.size; simp; omega) ?_
      intro v8 w8 ho8 hB8 hg8
      have hne1 : (Value.slice Al M.length cl).ownBlock ≠ some w.heap.size := fun e => absurd (own_blk HI.out.1 _ e) (by have := HS1.out; omega)
      have hne2 : (Value.slice Al M.length cl).ownBlock ≠ some b := fun e => absurd (own_blk HI.out.1 _ e) (by have := HS1.out; have := HBW.out; omega)
      refine hK.out _ _ ⟨cellG hg8 hne1 hS1.1, cellG hg8 hne2 hS1.2.1, cellG hg8 hne2 hS1.2.2⟩ (fun hS2 => ?_)
      clear hK K
      try simp only [Act.put, List.setIfInBounds_toArray, List.set_cons_zero, List.set_cons_succ]
      refine wpAnyH_take (i := 15) (v := ?_) rfl (by kernel_rfl) (by kernel_rfl) (by kernel_rfl) (fun _ _ _ h => h) (Or.inl ⟨by rfl, ?_⟩) hS2 ?_
      rotate_left
      · intro w hSw; (try dsimp only at hSw); go_simp; (first | done | with_reducible rfl)
      simp only [Act.put, List.getElem_toArray, List.getElem_cons_zero, List.getElem_cons_succ, List.setIfInBounds_toArray, List.set_cons_zero, List.set_cons_succ]
      refine wpAnyH_done (by kernel_rfl) ?_ _
      have HO8 := Lib.hid ho8
      have HB8 := Lib.hid ((HI.out.2.trans (hb9.mono HI.out.2.size)).trans hB8)
      clear hS0 hS1 hS2 ho8 hB8 hg8 hb9
      go_wp2
      refine ⟨⟨k + 1, by omega, by simp, Lib.hid ⟨?_, HB8.out⟩⟩, by simp only [RowKit.intOf]; omega⟩
      rw [HXK.out]
      unfold IntsOwn
      rw [List.length_append, List.map_append]
      exact HO8.out
    · obtain rfl : k = c.parts.length := by omega
      have ho := HI.out.1
      rw [List.take_length] at ho
      obtain ⟨ns, hns⟩ : ∃ ns, cmdNums c ++ partNums c.parts = ns := ⟨_, rfl⟩
      rw [hns] at ho HX
      have HCB := Lib.hid (show cmdB c = numsB ns from by rw [← hns, numsB_append]; rfl)
      have hnl : ns.length ≤ 3000 := by
        have := HLP.out
        rw [← hns, List.length_append]
        have : (cmdNums c).length = 8 := rfl
        omega
      have HWR := Lib.hid (show Below w.heap.size w wo from go HB1.out HI.out.2)
      obtain ⟨Al, cl, rfl, -, -, -, -⟩ := own_form ho
      have HOL := Lib.hid ho
      clear hns ho
      go_wp2_with fail
      clear hp7
      go_loopw [3, 6] (fun vb vi wr2 => ∃ k : Nat, k ≤ ns.length ∧ vi = .int .i64 (k : Int) ∧ Hid (wr2.ownsRow wo.heap.size 5 1 vb (numsB (ns.take k)).length (Lib.byteCells (numsB (ns.take k))) ∧ Below wo.heap.size wo wr2)) (fun _ vi _ => ns.length - (RowKit.intOf vi).toNat)
      case atStart => exact ⟨0, Nat.zero_le _, rfl, Lib.hid ⟨own_nil _ _ _ _, Below.refl _ _⟩⟩
      case round =>
        obtain ⟨k, hk, rfl, HJ⟩ := hrel
        by_cases hlt2 : k < ns.length
        · have l0 : (k : Int) < (ns.length : Int) := by omega
          obtain ⟨x, hx⟩ : ∃ x, ns[k]? = some x := ⟨_, List.getElem?_eq_getElem hlt2⟩
          have hoL := own_kept HOL.out HJ.out.2
          obtain ⟨g, rfl⟩ : ∃ g, Al = some ⟨g, 0, none⟩ := by
            rcases hoL.2 with ⟨e, hz⟩ | ⟨g, cap', cur, e, _⟩
            · omega
            · exact ⟨g, by simp only [Value.slice.injEq] at e; exact e.1⟩
          have x0 : wr.cell? ⟨g, k, none⟩ = some (.int .i64 x) := (own_cell hoL (j := k) (by rw [List.getElem?_map, hx]; rfl)).1
          have hbl := lt_of_cell x0
          have HNC := Lib.hid (refnum_calls x (HX.out x (List.mem_of_getElem? hx)) wr)
          have HXK := Lib.hid (show numsB (ns.take (k + 1)) = numsB (ns.take k) ++ numB x from by rw [List.take_add_one, hx]; exact numsB_snoc _ _)
          have HLE := Lib.hid (show (numsB (ns.take k)).length ≤ 30000 ∧ (numB x).length ≤ 10 from by
            have h1 := numsB_len (ns.take k) (fun y hy => HX.out y (List.mem_of_mem_take hy))
            rw [List.length_take] at h1
            exact ⟨by omega, (numB_len (HX.out x (List.mem_of_getElem? hx))).2⟩)
          obtain ⟨Ab, cb, rfl, -, -, -, -⟩ := own_form HJ.out.1
          clear hoL hx
          go_wp2_with fail
          (with_reducible refine HNC.out.mono ?_)
          rintro e w6 ⟨v6, rfl, ho6, hB6⟩
          obtain ⟨A6, c6, rfl, -, -, -, -⟩ := own_form ho6
          have HO6 := Lib.hid ho6
          have HB6 := Lib.hid hB6
          clear ho6 hB6
          go_wp2_with (at_builtin; refine list_app sliceOfByte rfl _ _ rfl (base := wo.heap.size) rfl (own_kept HJ.out.1 HB6.out) rfl (src_own HO6.out (byteOne _)) (by have := HLE.out; unfold maxLen; omega) (by have := HLE.out; omega) (by have h1 := HJ.out.2.size; have h2 := HB6.out.size; omega) ?_; intro v8 w8 ho8 hB8 hg8)
          refine ⟨⟨k + 1, by omega, by simp, Lib.hid ⟨?_, ?_⟩⟩, by simp only [RowKit.intOf]; omega⟩
          · rw [HXK.out, List.length_append]
            have e : Lib.byteCells (numsB (ns.take k) ++ numB x) = Lib.byteCells (numsB (ns.take k)) ++ Lib.byteCells (numB x) := by simp [Lib.byteCells]
            rw [e]
            exact ho8
          · exact (go HJ.out.2 HB6.out).trans hB8
        · obtain rfl : k = ns.length := by omega
          have hb := HJ.out.1
          rw [List.take_length, ← HCB.out] at hb
          obtain ⟨Ab, cb, rfl, -, -, -, -⟩ := own_form hb
          have hcv := conv_bytes (own_bytes hb)
          have HBE := Lib.hid (go HWR.out HJ.out.2)
          clear hb
          go_wp2_with fail
          go_ret
          exact ⟨rfl, HBE.out⟩
end Go.Proofs.YtkjajlolfcioiaaGreatDoor.Pack
