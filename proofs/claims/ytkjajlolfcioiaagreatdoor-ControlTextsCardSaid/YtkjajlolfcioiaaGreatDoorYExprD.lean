/- expr: numbers, walked. -/
import Derived.Test.YtkjajlolfcioiaaGreatDoorYExprC
import Derived.WalkSpells
namespace Go.Proofs.YtkjajlolfcioiaaGreatDoor.Expr
open Go.RowKit Go.Proofs.YtkjajlolfcioiaaGreatDoor Go.Proofs.YtkjajlolfcioiaaGreatDoor.Own Go.Proofs.YtkjajlolfcioiaaGreatDoor.Scan Go.Lib

/-- what stands while a region goes on: the source's cells. -/
theorem kst {w0 X Y : World} {b : Nat} {v0 v1 : Value} (h : Below w0.heap.size w0 X ∧ X.cell? ⟨b, 0, none⟩ = some v0 ∧ X.cell? ⟨b, 1, none⟩ = some v1) (k : Below X.heap.size X Y) :
    Below w0.heap.size w0 Y ∧ Y.cell? ⟨b, 0, none⟩ = some v0 ∧ Y.cell? ⟨b, 1, none⟩ = some v1 := ⟨Own.go h.1 k, kc k h.2.1, kc k h.2.2⟩
theorem kst_a {w0 X : World} {b : Nat} {v0 v1 : Value} (o : Obj) (h : Below w0.heap.size w0 X ∧ X.cell? ⟨b, 0, none⟩ = some v0 ∧ X.cell? ⟨b, 1, none⟩ = some v1) :
    Below w0.heap.size w0 (X.alloc o).drew ∧ (X.alloc o).drew.cell? ⟨b, 0, none⟩ = some v0 ∧ (X.alloc o).drew.cell? ⟨b, 1, none⟩ = some v1 := kst h (balloc (Below.refl _ _) o).drew
theorem kst_b {w0 X : World} {b : Nat} {v0 v1 : Value} (o : Obj) (h : Below w0.heap.size w0 X ∧ X.cell? ⟨b, 0, none⟩ = some v0 ∧ X.cell? ⟨b, 1, none⟩ = some v1) :
    Below w0.heap.size w0 (X.alloc o) ∧ (X.alloc o).cell? ⟨b, 0, none⟩ = some v0 ∧ (X.alloc o).cell? ⟨b, 1, none⟩ = some v1 := kst h (balloc (Below.refl _ _) o)
theorem kst_s {w0 X : World} {b g : Nat} {v0 v1 v : Value} (h : Below w0.heap.size w0 X ∧ X.cell? ⟨b, 0, none⟩ = some v0 ∧ X.cell? ⟨b, 1, none⟩ = some v1) (hg : w0.heap.size ≤ g) (hb : b < w0.heap.size) :
    Below w0.heap.size w0 (X.setCell ⟨g, 0, none⟩ v) ∧ (X.setCell ⟨g, 0, none⟩ v).cell? ⟨b, 0, none⟩ = some v0 ∧ (X.setCell ⟨g, 0, none⟩ v).cell? ⟨b, 1, none⟩ = some v1 :=
  ⟨h.1.setCell hg _, (World.cell?_setCell_far _ _ _ _ (by show g ≠ b; omega)).trans h.2.1, (World.cell?_setCell_far _ _ _ _ (by show g ≠ b; omega)).trans h.2.2⟩
theorem swap_new {a X : World} {o o' : Obj} {B : Nat} (h : Below B a (X.alloc o)) (hB : B ≤ X.heap.size) : Below B a (X.alloc o') :=
  ⟨h.os, h.tape, h.output, by have := h.size; simp at this ⊢; exact this, fun k hk => (Below.heap_alloc X o' k (by omega)).trans ((Below.heap_alloc X o k (by omega)).symm.trans (h.block k hk))⟩
theorem kst_r {w0 X : World} {b : Nat} {v0 v1 : Value} {o o' : Obj} (h : Below w0.heap.size w0 (X.alloc o) ∧ (X.alloc o).cell? ⟨b, 0, none⟩ = some v0 ∧ (X.alloc o).cell? ⟨b, 1, none⟩ = some v1) (hX : w0.heap.size ≤ X.heap.size) (hb : b < w0.heap.size) :
    Below w0.heap.size w0 (X.alloc o') ∧ (X.alloc o').cell? ⟨b, 0, none⟩ = some v0 ∧ (X.alloc o').cell? ⟨b, 1, none⟩ = some v1 :=
  ⟨swap_new h.1 hX, (World.cell?_alloc_lt _ _ _ (by show b < X.heap.size; omega)).trans ((World.cell?_alloc_lt _ _ _ (by show b < X.heap.size; omega)).symm.trans h.2.1), (World.cell?_alloc_lt _ _ _ (by show b < X.heap.size; omega)).trans ((World.cell?_alloc_lt _ _ _ (by show b < X.heap.size; omega)).symm.trans h.2.2)⟩
theorem ext_data (s : ByteArray) (a b : Nat) : (s.extract a b).data.toList = ((L s).drop a).take (b - a) := extract_data s a b

set_option maxRecDepth 100000 in
set_option maxHeartbeats 2000000 in
theorem number_calls (s : ByteArray) (b a p : Nat) (w : World) (hs : s.size ≤ 200) (ha : a < s.size) (hp : p ≤ 64) (h : St w b s a p) (hT : Tab w) (hb : 5 < b) (hl : isDigit s[a] = true) :
    Calls Tryz.prog 199 #[.pointer (some ⟨b, 0, none⟩)] w (ValPost s b a p w) := by
  have hdr : (L s).drop a = s[a] :: (L s).drop (a + 1) := drop_cons (get_L s a ha)
  have hsc := fun opn => scan_number (opn := opn) (parts := p) (c := s[a]) (r := (L s).drop (a + 1)) hl
  rw [← hdr] at hsc
  have HST := Lib.hid h
  have hrun := run_calls 218 isDigit digits_calls enters_num s b a p w hs (by omega) h
  have hpos : 0 < run isDigit ((L s).drop a) := by rw [hdr]; exact run_pos hl
  have hmax : a + run isDigit ((L s).drop a) ≤ s.size := by
    have := run_le isDigit ((L s).drop a)
    rw [List.length_drop, len_L] at this
    omega
  have hdig := take_digits ((L s).drop a)
  obtain ⟨n, hn⟩ : ∃ n, n = run isDigit ((L s).drop a) := ⟨_, rfl⟩
  rw [← hn] at hrun hpos hmax hdig
  have hsc' : ∀ opn, scan true opn ((L s).drop a) p = if 18 < n then 40 else if 64 < p + 1 then 5 else scan false opn ((L s).drop (a + n)) (p + 1) := fun opn => by
    rw [hsc opn, ← hn, List.drop_drop]
  have HSC := Lib.hid hsc'
  have HRUN := Lib.hid hrun
  have HDIG := Lib.hid hdig
  clear hsc hsc' hn hrun hdr hdig hl
  by_cases h18 : 18 < n
  · have h18' : (18 : Int) < n := by omega
    go_enter Tryz.func199, Tryz.ntmps199
    go_wp2_with (go_at_call 217; go_must (refine HRUN.out.mono ?_); rintro e w1 ⟨rfl, m, rfl⟩; obtain ⟨c0, c1, c2, f1, f2⟩ := HST.out)
    go_region
    all_goals
      go_wp2
      go_ret2
      exact ⟨((But.refl b w).drewN _).alloc _, .inl ⟨w.heap.size, 40, rfl, Nat.le_refl _, FaultAt.new _ _ _ _, by decide, fun opn => by rw [HSC.out, if_pos h18]⟩⟩
  · have h18' : ¬ (18 : Int) < n := by omega
    have ha1 : (a : Int) + n ≤ s.size := by omega
    have ha0 : (0 : Int) ≤ (a : Int) + n := by omega
    have ha2 : a + n ≤ s.size := hmax
    have ha3 : (a : Int) ≤ (a : Int) + n := by omega
    have ha4 : (0 : Int) ≤ (a : Int) := by omega
    have ha5 : (a : Int) ≤ s.size := by omega
    have ha6 : a ≤ a + n := by omega
    have hat : ∀ X, Calls Tryz.prog 219 #[.string (s.extract a (a + n))] X fun e w' => (∃ n, e = .returned (.tuple #[.int .i64 n, .nilIface]) ∧ Fits n) ∧ Below X.heap.size X w' := fun X =>
      atoi_calls _ X (by rw [ByteArray.size_extract]; omega) (by rw [ext_data, Nat.add_sub_cancel_left]; exact HDIG.out) (by
        intro e
        have := congrArg List.length e
        rw [ext_data, List.length_take, List.length_drop, len_L] at this
        simp at this
        omega)
    have HAT := Lib.hid hat
    clear hat
    go_enter Tryz.func199, Tryz.ntmps199
    go_wp2_with (go_at_call 217; go_must (refine HRUN.out.mono ?_); rintro e w1 ⟨rfl, hm⟩; have HM := Lib.hid hm; clear hm)
    have hst1 : St w1 b s a p := by
      obtain ⟨m, e⟩ := HM.out
      rw [e]
      exact HST.out.drewN m
    have HST1 := Lib.hid hst1
    have hblt := hst1.lt
    obtain ⟨c0, c1, c2, f1, f2⟩ := hst1
    have hmf : ∀ (fn : Fn) (first cap : Array Value) (X : World), (Instr.makeFunc fn first cap).run Tryz.prog X = .ok (.func fn first cap) X := fun _ _ _ _ => rfl
    have hT1 : Tab w1 := by
      obtain ⟨m, e⟩ := HM.out
      rw [e]
      exact hT.below (bdrewN (Below.refl _ _) m)
    have hB1 : But b w w1 := by
      obtain ⟨m, e⟩ := HM.out
      rw [e]
      exact (But.refl b w).drewN m
    have hwr : IntKind.i64.wrap ((a : Int) + n) = (a : Int) + n := by rw [IntKind.wrap_i64]; omega
    have htn : ((a : Int) + n).toNat = a + n := by omega
    go_region_held3 (fun w' => Below w1.heap.size w1 w' ∧ w'.cell? ⟨b, 0, none⟩ = some (.string s) ∧ w'.cell? ⟨b, 1, none⟩ = some (.int .i64 a)) (first | assumption | exact ⟨⟨rfl, rfl, rfl, Nat.le_refl _, fun _ _ => rfl⟩, c0, c1⟩ | exact kst_a _ (by assumption) | exact kst_b _ (by assumption) | exact kst (by assumption) hB2 | exact kst_s (by assumption) (by first | (have h9 := hB2.size; simp at h9; omega) | omega) hblt | exact kst_r (by assumption) (by have h9 := hB2.size; simp at h9 <;> omega) hblt)
      ((first
        | (go_at_call 219; (with_reducible refine (HAT.out ((w1.alloc (.cells #[.int .i64 0] 3)).drew)).mono ?_); rintro e w2 ⟨⟨x, rfl, hx⟩, hB2⟩
           have hz := kc hB2 (p := ⟨w1.heap.size, 0, none⟩) (v := .int .i64 0) (cell_new rfl rfl)
           have hzf := kf hB2 (p := ⟨w1.heap.size, 0, none⟩) (v := .int .i64 0) (f := false) (cell_new rfl rfl) (by simp))
        | (go_at_call 219; refine (HAT.out _).mono ?_; rintro e w2 ⟨⟨x, rfl, hx⟩, hB2⟩)))
    · have hK : Below w1.heap.size w1 (w2.alloc (Obj.cells #[Value.int IntKind.i64 x] 3)) := And.left (by assumption : Below w1.heap.size w1 (w2.alloc (Obj.cells #[Value.int IntKind.i64 x] 3)) ∧ _)
      have hX : (w2.alloc (Obj.cells #[Value.int IntKind.i64 x] 3)).cell? ⟨w2.heap.size, 0, none⟩ = some (.int .i64 x) := cell_new rfl rfl
      have hgb : w2.heap.size ≠ b := by have h9 := hB2.size; simp at h9; omega
      have HST3 := Lib.hid (HST1.out.below hK)
      have HK := Lib.hid hK
      have HX := Lib.hid hx
      have hB0 : But b w (w2.alloc (Obj.cells #[Value.int IntKind.i64 x] 3)) := hB1.below hK
      have HT3 := Lib.hid (hT1.below hK)
      clear hK hx
      by_cases h64 : 64 < p + 1
      · go_wp2_with (go_at_call 191; go_must (refine (part_many n hs hmax hp HST3.out h64).mono ?_); rintro e w4 ⟨f, rfl, hf, hF, hB4⟩)
        go_ret2
        exact ⟨hB0.trans hB4, .inl ⟨f, 5, rfl, Nat.le_trans hB0.size hf, hF, by decide, fun opn => by rw [HSC.out, if_neg h18, if_pos h64]⟩⟩
      · go_wp2_with (first
          | (go_at_call 191; go_must (refine (part_ok n hs hmax hp HST3.out h64).mono ?_); rintro e w4 ⟨rfl, hst4, hB4⟩; have hX4 := hB4.cell (p := ⟨w2.heap.size, 0, none⟩) hgb hX)
          | (go_at_call 221; go_must (refine (itoa_calls x _ HX.out (HT3.out.but hB4 hb)).mono ?_); rintro e w5 ⟨⟨t, rfl, ht⟩, hB5⟩))
        go_ret2
        have hsz : w.heap.size ≤ w5.heap.size := Nat.le_trans (hB0.trans hB4).size hB5.size
        refine ⟨((hB0.trans hB4).below hB5).alloc _, .inr ⟨_, a + n, p + 1, rfl, hsz, by omega, by omega, by omega, by omega, (hst4.below hB5).below (balloc (Below.refl _ _) _), ?_, fun opn => by rw [HSC.out, if_neg h18, if_neg h64]⟩⟩
        exact (ExprAt.new _ _ _ _ _ _ _ 26 (by omega)).more (by omega)
    · have hK : Below w1.heap.size w1 (w2.setCell ⟨w1.heap.size, 0, none⟩ (Value.int IntKind.i64 x)) := And.left (by assumption : Below w1.heap.size w1 (w2.setCell ⟨w1.heap.size, 0, none⟩ (Value.int IntKind.i64 x)) ∧ _)
      have hX : (w2.setCell ⟨w1.heap.size, 0, none⟩ (Value.int IntKind.i64 x)).cell? ⟨w1.heap.size, 0, none⟩ = some (.int .i64 x) := World.cell?_setCell_same _ _ _ hz
      have hgb : w1.heap.size ≠ b := by omega
      have HST3 := Lib.hid (HST1.out.below hK)
      have HK := Lib.hid hK
      have HX := Lib.hid hx
      have hB0 : But b w (w2.setCell ⟨w1.heap.size, 0, none⟩ (Value.int IntKind.i64 x)) := hB1.below hK
      have HT3 := Lib.hid (hT1.below hK)
      clear hK hx
      by_cases h64 : 64 < p + 1
      · go_wp2_with (go_at_call 191; go_must (refine (part_many n hs hmax hp HST3.out h64).mono ?_); rintro e w4 ⟨f, rfl, hf, hF, hB4⟩)
        go_ret2
        exact ⟨hB0.trans hB4, .inl ⟨f, 5, rfl, Nat.le_trans hB0.size hf, hF, by decide, fun opn => by rw [HSC.out, if_neg h18, if_pos h64]⟩⟩
      · go_wp2_with (first
          | (go_at_call 191; go_must (refine (part_ok n hs hmax hp HST3.out h64).mono ?_); rintro e w4 ⟨rfl, hst4, hB4⟩; have hX4 := hB4.cell (p := ⟨w1.heap.size, 0, none⟩) hgb hX)
          | (go_at_call 221; go_must (refine (itoa_calls x _ HX.out (HT3.out.but hB4 hb)).mono ?_); rintro e w5 ⟨⟨t, rfl, ht⟩, hB5⟩))
        go_ret2
        have hsz : w.heap.size ≤ w5.heap.size := Nat.le_trans (hB0.trans hB4).size hB5.size
        refine ⟨((hB0.trans hB4).below hB5).alloc _, .inr ⟨_, a + n, p + 1, rfl, hsz, by omega, by omega, by omega, by omega, (hst4.below hB5).below (balloc (Below.refl _ _) _), ?_, fun opn => by rw [HSC.out, if_neg h18, if_neg h64]⟩⟩
        exact (ExprAt.new _ _ _ _ _ _ _ 26 (by omega)).more (by omega)
end Go.Proofs.YtkjajlolfcioiaaGreatDoor.Expr
