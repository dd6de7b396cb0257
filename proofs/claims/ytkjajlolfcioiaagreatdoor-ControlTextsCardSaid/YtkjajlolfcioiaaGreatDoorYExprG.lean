/- expr: wholes, walked. -/
import Derived.Test.YtkjajlolfcioiaaGreatDoorYExprF
import Derived.WalkSpells
namespace Go.Proofs.YtkjajlolfcioiaaGreatDoor.Expr
open Go.RowKit Go.Proofs.YtkjajlolfcioiaaGreatDoor Go.Proofs.YtkjajlolfcioiaaGreatDoor.Own Go.Proofs.YtkjajlolfcioiaaGreatDoor.Scan Go.Lib

theorem operator_z {s : ByteArray} {b a p : Nat} {w : World} (hs : s.size ≤ 200) (ha : a ≤ s.size) (h : St w b s a p) :
    Calls Tryz.prog 189 #[.pointer (some ⟨b, 0, none⟩)] w fun e w' => ∃ k z, a ≤ k ∧ k ≤ s.size ∧ Hid ((L s).drop k = skipL ((L s).drop a)) ∧ e = .returned (.string z) ∧ Hid (z = ⟨(opT ((L s).drop k)).toArray⟩) ∧ St w' b s k p ∧ But b w w' :=
  (operator_calls s b a p w hs ha h).mono fun _ _ ⟨k, h1, h2, h3, he, hst, hB⟩ => ⟨k, _, h1, h2, Lib.hid h3, he, Lib.hid rfl, hst, hB⟩
theorem binary_z {t : List UInt8} {z : ByteArray} (hz : z = ⟨(opT t).toArray⟩) (w : World) :
    Calls Tryz.prog 190 #[.string z] w fun e w' => ∃ (n : Nat) (fv : Value), e = .returned (.tuple #[.int .i64 n, fv]) ∧ Hid (n = rankB (opT t)) ∧ (fv = .nilFunc ∨ ∃ k, fv = .func (.func k) #[] #[]) ∧ w' = w := by
  subst hz
  exact (binary_calls t w).mono fun _ _ ⟨fv, he, hf, hw⟩ => ⟨_, fv, he, Lib.hid rfl, hf, hw⟩
theorem k4 {X Y : World} {p1 p2 p3 p4 : Addr} {v1 v2 v3 v4 : Value} (h : X.cell? p1 = some v1 ∧ X.cell? p2 = some v2 ∧ X.cell? p3 = some v3 ∧ X.cell? p4 = some v4) (k : Below X.heap.size X Y) :
    Y.cell? p1 = some v1 ∧ Y.cell? p2 = some v2 ∧ Y.cell? p3 = some v3 ∧ Y.cell? p4 = some v4 := ⟨kc k h.1, kc k h.2.1, kc k h.2.2.1, kc k h.2.2.2⟩
theorem k4_a {X : World} {p1 p2 p3 p4 : Addr} {v1 v2 v3 v4 : Value} (o : Obj) (h : X.cell? p1 = some v1 ∧ X.cell? p2 = some v2 ∧ X.cell? p3 = some v3 ∧ X.cell? p4 = some v4) :
    (X.alloc o).cell? p1 = some v1 ∧ (X.alloc o).cell? p2 = some v2 ∧ (X.alloc o).cell? p3 = some v3 ∧ (X.alloc o).cell? p4 = some v4 := k4 h (balloc (Below.refl _ _) o)
theorem k4_d {X : World} {p1 p2 p3 p4 : Addr} {v1 v2 v3 v4 : Value} (h : X.cell? p1 = some v1 ∧ X.cell? p2 = some v2 ∧ X.cell? p3 = some v3 ∧ X.cell? p4 = some v4) :
    X.drew.cell? p1 = some v1 ∧ X.drew.cell? p2 = some v2 ∧ X.drew.cell? p3 = some v3 ∧ X.drew.cell? p4 = some v4 := k4 h (Below.refl _ _).drew
theorem cat (x y : ByteArray) (m : Nat) (h : x.size + y.size ≤ m) (hm : m ≤ 8388608) : ∃ z : ByteArray, z.size ≤ m ∧ ∀ X : World, (Op.stringOp .add x y).run Tryz.prog X = .ok (.string z) X :=
  ⟨x ++ y, by rw [ByteArray.size_append]; exact h, fun X => run_string_add_sum X x y (by omega)⟩
theorem one_size (c : UInt8) : (ByteArray.mk #[c]).size = 1 := rfl
/-- the text of two and an operator. -/
theorem cats (tx ty z : ByteArray) (m : Nat) (h : tx.size + ty.size + z.size + 4 ≤ m) (hm : m ≤ 8388608) : ∃ A1 A2 A3 A4 A5 A6 : ByteArray, A6.size ≤ m ∧
    (∀ X : World, (Op.stringOp .add ⟨#[40]⟩ tx).run Tryz.prog X = .ok (.string A1) X) ∧ (∀ X : World, (Op.stringOp .add A1 ⟨#[32]⟩).run Tryz.prog X = .ok (.string A2) X) ∧
    (∀ X : World, (Op.stringOp .add A2 z).run Tryz.prog X = .ok (.string A3) X) ∧ (∀ X : World, (Op.stringOp .add A3 ⟨#[32]⟩).run Tryz.prog X = .ok (.string A4) X) ∧
    (∀ X : World, (Op.stringOp .add A4 ty).run Tryz.prog X = .ok (.string A5) X) ∧ (∀ X : World, (Op.stringOp .add A5 ⟨#[41]⟩).run Tryz.prog X = .ok (.string A6) X) := by
  obtain ⟨A1, a1, k1⟩ := cat ⟨#[40]⟩ tx (tx.size + 1) (by rw [one_size]; omega) (by omega)
  obtain ⟨A2, a2, k2⟩ := cat A1 ⟨#[32]⟩ (tx.size + 2) (by rw [one_size]; omega) (by omega)
  obtain ⟨A3, a3, k3⟩ := cat A2 z (tx.size + z.size + 2) (by omega) (by omega)
  obtain ⟨A4, a4, k4⟩ := cat A3 ⟨#[32]⟩ (tx.size + z.size + 3) (by rw [one_size]; omega) (by omega)
  obtain ⟨A5, a5, k5⟩ := cat A4 ty (tx.size + z.size + ty.size + 3) (by omega) (by omega)
  obtain ⟨A6, a6, k6⟩ := cat A5 ⟨#[41]⟩ (tx.size + z.size + ty.size + 4) (by rw [one_size]; omega) (by omega)
  exact ⟨A1, A2, A3, A4, A5, A6, by omega, k1, k2, k3, k4, k5, k6⟩
theorem rank_le (op : List UInt8) : rankB op ≤ 5 := by
  unfold rankB
  repeat (first | (split; omega) | omega)
theorem opT_len (t : List UInt8) : (opT t).length ≤ 2 ∧ (opT t).length ≤ t.length := by
  have h1 := opT_pre t
  have h2 := congrArg List.length h1
  rw [List.length_take] at h2
  refine ⟨?_, by omega⟩
  rcases opT_is t with h | ⟨c, _, h⟩ | ⟨u, hu, h⟩
  · rw [h]; simp
  · rw [h]; simp
  · rw [h]
    unfold twos at hu
    simp only [List.mem_cons, List.not_mem_nil, or_false] at hu
    rcases hu with rfl | rfl | rfl | rfl | rfl | rfl <;> simp
theorem op_head {t : List UInt8} (h : 0 < rankB (opT t)) : ∃ c r, t = c :: r := by
  rcases t with _ | ⟨c, r⟩
  · exact absurd h (by decide)
  · exact ⟨c, r, rfl⟩

set_option maxRecDepth 100000 in
set_option maxHeartbeats 4000000 in
theorem whole_calls (s : ByteArray) (b a p r : Nat) (ri : Int) (w : World) (hri : ri = r) (hs : s.size ≤ 200) (hp : p ≤ 64) (hr1 : 1 ≤ r) (hr6 : r ≤ 6) (h : St w b s a p) (hT : Tab w) (hb : 5 < b)
    (hv : Calls Tryz.prog 188 #[.pointer (some ⟨b, 0, none⟩)] w (Reads s b a p (fun _ => True) w)) (ih : Iw s b a) :
    Calls Tryz.prog 175 #[.pointer (some ⟨b, 0, none⟩), .int .i64 ri] w (Reads s b a p (Ends s r) w) := by
  have HV := Lib.hid hv
  have HIH := Lib.hid ih
  have HT := Lib.hid hT
  have hrl : ri ≤ r := by omega
  have hrg : (r : Int) ≤ ri := by omega
  have hbw := h.lt
  clear hv ih hT hri
  go_enter Tryz.func175, Tryz.ntmps175
  go_wp2_with fail
  refine HV.out.mono ?_
  rintro e w1 ⟨v, f, rfl, hB1, hq⟩
  rcases hq with ⟨fb, code, rfl, rfl, q1, q2, q3, q4⟩ | ⟨x, a', p', rfl, rfl, q1, q2, q3, q4, q5, q6, q7, _, q8⟩
  · have HQ4 := Lib.hid q4
    clear q4
    go_wp2
    go_loopw [6] (fun v wr => v = .pointer none ∧ wr = w1) (fun _ _ => 0)
    case atStart => exact ⟨rfl, rfl⟩
    case round =>
      obtain ⟨rfl, rfl⟩ := hrel
      go_wp2
      go_ret2
      exact ⟨_, _, rfl, hB1, .inl ⟨fb, code, rfl, rfl, q1, q2, q3, HQ4.out⟩⟩
  · have HQ8 := Lib.hid q8
    clear q8
    go_wp2
    go_loopw [6] (fun v wr => ∃ (x a' p' : Nat), v = .pointer (some ⟨x, 0, none⟩) ∧ w.heap.size ≤ x ∧ a < a' ∧ a' ≤ s.size ∧ p < p' ∧ p' ≤ 64 ∧ St wr b s a' p' ∧ ExprAt wr x (26 * (p' - p)) ∧ But b w wr ∧ Hid (∀ opn, scan true opn ((L s).drop a) p = scan false opn ((L s).drop a') p')) (fun _ wr => s.size - posOf wr b)
    case atStart => exact ⟨x, a', p', rfl, q1, q2, q3, q4, q5, q6, q7, hB1, HQ8⟩
    case round =>
      clear q1 q2 q3 q4 q5 q6 q7 HQ8 hB1
      obtain ⟨x, a', p', rfl, q1, q2, q3, q4, q5, q6, q7, hB, HQ⟩ := hrel
      have HST0 := Lib.hid q6
      go_wp2_with fail
      refine (operator_z hs q3 q6).mono ?_
      rintro e w2 ⟨k, z, hk1, hk2, HK, rfl, HZ, hst2, hB2⟩
      go_wp2_with fail
      refine (binary_z HZ.out _).mono ?_
      rintro e w3 ⟨n, fv, rfl, HR, hfv, rfl⟩
      have hn5 : n ≤ 5 := by rw [HR.out]; exact rank_le _
      rcases hfv with rfl | ⟨kk, rfl⟩
      · by_cases hlt : n < r
        · have hlt' : (n : Int) < ri := by omega
          go_wp2
          go_ret2
          refine ⟨_, _, rfl, (hB.trans hB2).alloc _, .inr ⟨x, k, p', rfl, rfl, q1, by omega, hk2, q4, q5, hst2.below (balloc (Below.refl _ _) _), (q7.but hB2 (by omega)).but ((But.refl b _).alloc _) (by omega), ⟨by rw [← HR.out]; exact hlt, by rw [HK.out, skipL_skipL]⟩, fun opn => by rw [HQ.out, HK.out, scan_skip]⟩⟩
        · have hlt' : ¬ (n : Int) < ri := by omega
          have hn0 : 0 < rankB (opT ((L s).drop k)) := by rw [← HR.out]; omega
          obtain ⟨c, t, hct⟩ := op_head hn0
          have hc32 : ¬ c = 32 := skip_head (l := (L s).drop a') (by rw [← HK.out]; exact hct)
          have hzs : z.size = (opT ((L s).drop k)).length := by rw [HZ.out]; rfl
          have hz2 := opT_len ((L s).drop k)
          have hz1 := rank_pos hn0
          rw [← hzs, List.length_drop, len_L] at hz2
          rw [← hzs] at hz1
          have hsc : ∀ opn, scan false opn ((L s).drop a') p' = if 64 < p' + 1 then 5 else scan true opn ((L s).drop (k + z.size)) (p' + 1) := fun opn => by
            rw [← scan_skip, ← HK.out, hzs, ← List.drop_drop, hct, scan_binary hc32 (by rw [← hct]; exact hn0)]
          have HSC := Lib.hid hsc
          have HSTA := Lib.hid (hst2.below (balloc (Below.refl _ _) (.cells #[.nilFunc] 130)))
          have HBA := Lib.hid ((hB.trans hB2).alloc (.cells #[.nilFunc] 130))
          have HXA := Lib.hid ((q7.but hB2 (by omega)).but ((But.refl b _).alloc (.cells #[.nilFunc] 130)) (by omega))
          have hkm : k + z.size ≤ s.size := by omega
          clear hsc hzs hct hc32 hn0 q6 q7 hst2 hB2
          by_cases h64 : 64 < p' + 1
          · go_wp2_with (go_at_call 191; go_must (refine (part_many z.size hs hkm q5 HSTA.out h64).mono ?_); rintro e w4 ⟨f, rfl, hf, hF, hB4⟩)
            go_ret2
            exact ⟨_, _, rfl, HBA.out.trans hB4, .inl ⟨f, 5, rfl, rfl, Nat.le_trans HBA.out.size hf, hF, by decide, fun opn => by rw [HQ.out, HSC.out, if_pos h64]⟩⟩
          · go_wp2_with (go_at_call 191; go_must (refine (part_ok z.size hs hkm q5 HSTA.out h64).mono ?_); rintro e w4 ⟨rfl, hst4, hB4⟩)
            have HB4 := Lib.hid (HBA.out.trans hB4)
            have HX4 := Lib.hid (HXA.out.but hB4 (by omega))
            refine (HIH.out (k + z.size) (p' + 1) (n + 1) ((n : Int) + 1) _ (by omega) (by omega) hkm (by omega) (by omega) (by omega) hst4 (HT.out.but HB4.out hb)).mono ?_
            rintro e w5 ⟨v, f, rfl, hB5, hq⟩
            rcases hq with ⟨fb, code, rfl, rfl, u1, u2, u3, u4⟩ | ⟨y, a2, p2, rfl, rfl, u1, u2, u3, u4, u5, u6, u7, _, u8⟩
            · have HU4 := Lib.hid u4
              clear u4
              go_wp2
              go_ret2
              exact ⟨_, _, rfl, HB4.out.trans hB5, .inl ⟨fb, code, rfl, rfl, Nat.le_trans HB4.out.size u1, u2, u3, fun opn => by rw [HQ.out, HSC.out, if_neg h64, HU4.out]⟩⟩
            · have HU8 := Lib.hid u8
              have HU6 := Lib.hid u6
              have hx5 := HX4.out.but hB5 (by omega)
              have HB5 := Lib.hid (HB4.out.trans hB5)
              obtain ⟨fnx, cx1, cx2, tx, nx, x0, x1, x2, x3⟩ := hx5
              obtain ⟨fny, cy1, cy2, ty, ny, y0, y1, y2, y3⟩ := u7
              have hlx : x < w5.heap.size := lt_of_cell (a := ⟨x, 0, none⟩) x0
              have hly : y < w5.heap.size := lt_of_cell (a := ⟨y, 0, none⟩) y0
              obtain ⟨A1, A2, A3, A4, A5, A6, hA6, ka1, ka2, ka3, ka4, ka5, ka6⟩ := cats tx ty z (26 * (p2 - p)) (by omega) (by omega)
              clear u8 u6 hB5 hB4
              go_wp2
              go_region
              all_goals
                go_wp2
                go_region_held3 (fun w' => w'.cell? ⟨x, 1, none⟩ = some (.string tx) ∧ w'.cell? ⟨x, 2, none⟩ = some (.int .i64 nx) ∧ w'.cell? ⟨y, 1, none⟩ = some (.string ty) ∧ w'.cell? ⟨y, 2, none⟩ = some (.int .i64 ny)) (first | assumption | exact k4_d (k4_d (k4_a _ (k4_a _ ⟨x1, x3, y1, y3⟩))) | exact k4_a _ (by assumption) | exact k4_d (by assumption)) (fail)
                go_wp2
                have hsw := HB5.out.size
                refine ⟨⟨_, a2, p2, rfl, ?_, by omega, u3, by omega, u5, HU6.out.below ?_, expr_new ?_ hA6, HB5.out.below ?_, Lib.hid fun opn => by rw [HQ.out, HSC.out, if_neg h64, HU8.out]⟩, done_less HST0.out (HU6.out.below ?_) (by omega) u3⟩
                · omega
                · repeat (first | exact Below.refl _ _ | refine balloc ?_ _ | refine Below.drew ?_ | refine bdrewN ?_ _)
                · simp
                · repeat (first | exact Below.refl _ _ | refine balloc ?_ _ | refine Below.drew ?_ | refine bdrewN ?_ _)
                · repeat (first | exact Below.refl _ _ | refine balloc ?_ _ | refine Below.drew ?_ | refine bdrewN ?_ _)
      · by_cases hlt : n < r
        · have hlt' : (n : Int) < ri := by omega
          go_wp2
          go_ret2
          refine ⟨_, _, rfl, (hB.trans hB2).alloc _, .inr ⟨x, k, p', rfl, rfl, q1, by omega, hk2, q4, q5, hst2.below (balloc (Below.refl _ _) _), (q7.but hB2 (by omega)).but ((But.refl b _).alloc _) (by omega), ⟨by rw [← HR.out]; exact hlt, by rw [HK.out, skipL_skipL]⟩, fun opn => by rw [HQ.out, HK.out, scan_skip]⟩⟩
        · have hlt' : ¬ (n : Int) < ri := by omega
          have hn0 : 0 < rankB (opT ((L s).drop k)) := by rw [← HR.out]; omega
          obtain ⟨c, t, hct⟩ := op_head hn0
          have hc32 : ¬ c = 32 := skip_head (l := (L s).drop a') (by rw [← HK.out]; exact hct)
          have hzs : z.size = (opT ((L s).drop k)).length := by rw [HZ.out]; rfl
          have hz2 := opT_len ((L s).drop k)
          have hz1 := rank_pos hn0
          rw [← hzs, List.length_drop, len_L] at hz2
          rw [← hzs] at hz1
          have hsc : ∀ opn, scan false opn ((L s).drop a') p' = if 64 < p' + 1 then 5 else scan true opn ((L s).drop (k + z.size)) (p' + 1) := fun opn => by
            rw [← scan_skip, ← HK.out, hzs, ← List.drop_drop, hct, scan_binary hc32 (by rw [← hct]; exact hn0)]
          have HSC := Lib.hid hsc
          have HSTA := Lib.hid (hst2.below (balloc (Below.refl _ _) (.cells #[.func (.func kk) #[] #[]] 130)))
          have HBA := Lib.hid ((hB.trans hB2).alloc (.cells #[.func (.func kk) #[] #[]] 130))
          have HXA := Lib.hid ((q7.but hB2 (by omega)).but ((But.refl b _).alloc (.cells #[.func (.func kk) #[] #[]] 130)) (by omega))
          have hkm : k + z.size ≤ s.size := by omega
          clear hsc hzs hct hc32 hn0 q6 q7 hst2 hB2
          by_cases h64 : 64 < p' + 1
          · go_wp2_with (go_at_call 191; go_must (refine (part_many z.size hs hkm q5 HSTA.out h64).mono ?_); rintro e w4 ⟨f, rfl, hf, hF, hB4⟩)
            go_ret2
            exact ⟨_, _, rfl, HBA.out.trans hB4, .inl ⟨f, 5, rfl, rfl, Nat.le_trans HBA.out.size hf, hF, by decide, fun opn => by rw [HQ.out, HSC.out, if_pos h64]⟩⟩
          · go_wp2_with (go_at_call 191; go_must (refine (part_ok z.size hs hkm q5 HSTA.out h64).mono ?_); rintro e w4 ⟨rfl, hst4, hB4⟩)
            have HB4 := Lib.hid (HBA.out.trans hB4)
            have HX4 := Lib.hid (HXA.out.but hB4 (by omega))
            refine (HIH.out (k + z.size) (p' + 1) (n + 1) ((n : Int) + 1) _ (by omega) (by omega) hkm (by omega) (by omega) (by omega) hst4 (HT.out.but HB4.out hb)).mono ?_
            rintro e w5 ⟨v, f, rfl, hB5, hq⟩
            rcases hq with ⟨fb, code, rfl, rfl, u1, u2, u3, u4⟩ | ⟨y, a2, p2, rfl, rfl, u1, u2, u3, u4, u5, u6, u7, _, u8⟩
            · have HU4 := Lib.hid u4
              clear u4
              go_wp2
              go_ret2
              exact ⟨_, _, rfl, HB4.out.trans hB5, .inl ⟨fb, code, rfl, rfl, Nat.le_trans HB4.out.size u1, u2, u3, fun opn => by rw [HQ.out, HSC.out, if_neg h64, HU4.out]⟩⟩
            · have HU8 := Lib.hid u8
              have HU6 := Lib.hid u6
              have hx5 := HX4.out.but hB5 (by omega)
              have HB5 := Lib.hid (HB4.out.trans hB5)
              obtain ⟨fnx, cx1, cx2, tx, nx, x0, x1, x2, x3⟩ := hx5
              obtain ⟨fny, cy1, cy2, ty, ny, y0, y1, y2, y3⟩ := u7
              have hlx : x < w5.heap.size := lt_of_cell (a := ⟨x, 0, none⟩) x0
              have hly : y < w5.heap.size := lt_of_cell (a := ⟨y, 0, none⟩) y0
              obtain ⟨A1, A2, A3, A4, A5, A6, hA6, ka1, ka2, ka3, ka4, ka5, ka6⟩ := cats tx ty z (26 * (p2 - p)) (by omega) (by omega)
              clear u8 u6 hB5 hB4
              go_wp2
              go_region
              all_goals
                go_wp2
                go_region_held3 (fun w' => w'.cell? ⟨x, 1, none⟩ = some (.string tx) ∧ w'.cell? ⟨x, 2, none⟩ = some (.int .i64 nx) ∧ w'.cell? ⟨y, 1, none⟩ = some (.string ty) ∧ w'.cell? ⟨y, 2, none⟩ = some (.int .i64 ny)) (first | assumption | exact k4_d (k4_d (k4_a _ (k4_a _ ⟨x1, x3, y1, y3⟩))) | exact k4_a _ (by assumption) | exact k4_d (by assumption)) (fail)
                go_wp2
                have hsw := HB5.out.size
                refine ⟨⟨_, a2, p2, rfl, ?_, by omega, u3, by omega, u5, HU6.out.below ?_, expr_new ?_ hA6, HB5.out.below ?_, Lib.hid fun opn => by rw [HQ.out, HSC.out, if_neg h64, HU8.out]⟩, done_less HST0.out (HU6.out.below ?_) (by omega) u3⟩
                · omega
                · repeat (first | exact Below.refl _ _ | refine balloc ?_ _ | refine Below.drew ?_ | refine bdrewN ?_ _)
                · simp
                · repeat (first | exact Below.refl _ _ | refine balloc ?_ _ | refine Below.drew ?_ | refine bdrewN ?_ _)
                · repeat (first | exact Below.refl _ _ | refine balloc ?_ _ | refine Below.drew ?_ | refine bdrewN ?_ _)
end Go.Proofs.YtkjajlolfcioiaaGreatDoor.Expr

/- expr: values and wholes, all. -/
namespace Go.Proofs.YtkjajlolfcioiaaGreatDoor.Expr
open Go.RowKit Go.Proofs.YtkjajlolfcioiaaGreatDoor Go.Proofs.YtkjajlolfcioiaaGreatDoor.Own Go.Proofs.YtkjajlolfcioiaaGreatDoor.Scan Go.Lib

theorem value_any (s : ByteArray) (b a p : Nat) (w : World) (hs : s.size ≤ 200) (ha : a ≤ s.size) (hp : p ≤ 64) (h : St w b s a p) (hT : Tab w) (hb : 5 < b) (ihv : Ih s b a) (ihw : Iw s b a) :
    Calls Tryz.prog 188 #[.pointer (some ⟨b, 0, none⟩)] w (Reads s b a p (fun _ => True) w) := by
  rcases hn : skipL ((L s).drop a) with _ | ⟨c, r⟩
  · exact value_none s b a p w hs ha h hn
  · cases hd : isDigit c
    · cases hl : isLetter c
      · by_cases h1 : opT (c :: r) = [45]
        · exact value_sign s b a p w hs ha hp h hT hb c r hn hd hl true h1 ihv
        · by_cases h2 : opT (c :: r) = [33]
          · exact value_sign s b a p w hs ha hp h hT hb c r hn hd hl false h2 ihv
          · by_cases h3 : opT (c :: r) = [40]
            · exact value_open s b a p w hs ha hp h hT hb c r hn hd hl h3 ihw
            · exact value_bad s b a p w hs ha h c r hn hd hl h1 h2 h3
      · exact value_letter s b a p w hs ha hp h c r hn hl
    · exact value_digit s b a p w hs ha hp h hT hb c r hn hd

theorem reads_all (s : ByteArray) (b : Nat) (hs : s.size ≤ 200) (hb : 5 < b) : ∀ n a : Nat, s.size - a ≤ n → a ≤ s.size →
    (∀ (p : Nat) (X : World), p ≤ 64 → St X b s a p → Tab X → Calls Tryz.prog 188 #[.pointer (some ⟨b, 0, none⟩)] X (Reads s b a p (fun _ => True) X)) ∧
    (∀ (p r : Nat) (ri : Int) (X : World), ri = r → p ≤ 64 → 1 ≤ r → r ≤ 6 → St X b s a p → Tab X → Calls Tryz.prog 175 #[.pointer (some ⟨b, 0, none⟩), .int .i64 ri] X (Reads s b a p (Ends s r) X)) := by
  intro n
  induction n with
  | zero =>
    intro a h1 ha
    have ihv : Ih s b a := fun a2 p2 X k1 k2 => absurd k2 (by omega)
    have ihw : Iw s b a := fun a2 p2 r ri X _ k1 k2 => absurd k2 (by omega)
    refine ⟨fun p X hp hst hT => value_any s b a p X hs ha hp hst hT hb ihv ihw, fun p r ri X hri hp hr1 hr6 hst hT => ?_⟩
    exact whole_calls s b a p r ri X hri hs hp hr1 hr6 hst hT hb (value_any s b a p X hs ha hp hst hT hb ihv ihw) ihw
  | succ n ih =>
    intro a h1 ha
    have ihv : Ih s b a := fun a2 p2 X k1 k2 k3 k4 k5 => (ih a2 (by omega) k2).1 p2 X k3 k4 k5
    have ihw : Iw s b a := fun a2 p2 r ri X k0 k1 k2 k3 k4 k5 k6 k7 => (ih a2 (by omega) k2).2 p2 r ri X k0 k3 k4 k5 k6 k7
    refine ⟨fun p X hp hst hT => value_any s b a p X hs ha hp hst hT hb ihv ihw, fun p r ri X hri hp hr1 hr6 hst hT => ?_⟩
    exact whole_calls s b a p r ri X hri hs hp hr1 hr6 hst hT hb (value_any s b a p X hs ha hp hst hT hb ihv ihw) ihw
theorem whole_all (s : ByteArray) (b a p r : Nat) (ri : Int) (w : World) (hs : s.size ≤ 200) (ha : a ≤ s.size) (hri : ri = r) (hp : p ≤ 64) (hr1 : 1 ≤ r) (hr6 : r ≤ 6) (h : St w b s a p) (hT : Tab w) (hb : 5 < b) :
    Calls Tryz.prog 175 #[.pointer (some ⟨b, 0, none⟩), .int .i64 ri] w (Reads s b a p (Ends s r) w) :=
  (reads_all s b hs hb _ a (Nat.le_refl _) ha).2 p r ri w hri hp hr1 hr6 h hT
end Go.Proofs.YtkjajlolfcioiaaGreatDoor.Expr

/- expr: Parse, walked. -/
namespace Go.Proofs.YtkjajlolfcioiaaGreatDoor.Expr
open Go.RowKit Go.Proofs.YtkjajlolfcioiaaGreatDoor Go.Proofs.YtkjajlolfcioiaaGreatDoor.Own Go.Proofs.YtkjajlolfcioiaaGreatDoor.Scan Go.Lib

/-- what expr.Parse comes to: a code of error alone is said. -/
def Parsed (s : ByteArray) (w : World) (e : Ending) (w' : World) : Prop :=
  ∃ v n, e = .returned (.tuple #[v, .int .i64 n, .int .i64 (exprE (L s))]) ∧ Below w.heap.size w w' ∧ ((exprE (L s) ≠ 0 ∧ v = .pointer none) ∨ (exprE (L s) = 0 ∧ ∃ x, v = .pointer (some ⟨x, 0, none⟩) ∧ w.heap.size ≤ x ∧ ExprAt w' x 1664))

theorem St.new (w : World) (s : ByteArray) (T : TypeId) : St (w.alloc (.cells #[.string s, .int .i64 0, .int .i64 0] T)) w.heap.size s 0 0 where
  c0 := cell_new rfl rfl
  c1 := cell_new rfl rfl
  c2 := cell_new rfl rfl
  f1 := by simp only [World.frozen?, heap_new]; rfl
  f2 := by simp only [World.frozen?, heap_new]; rfl
set_option maxRecDepth 100000 in
set_option maxHeartbeats 4000000 in
theorem parse_calls (s : ByteArray) (w : World) (hT : Tab w) (hb : 5 < w.heap.size) : Calls Tryz.prog 148 #[.string s] w (Parsed s w) := by
  have HT := Lib.hid hT
  clear hT
  by_cases h200 : 200 < s.size
  · have hi : (200 : Int) < (s.size : Int) := by omega
    have hx : exprE (L s) = 2 := by unfold exprE; rw [len_L, if_pos h200]
    go_enter Tryz.func148, Tryz.ntmps148
    go_wp2
    go_ret3
    refine ⟨.pointer none, 0, ?_, Below.refl _ _, .inl ⟨by rw [hx]; decide, rfl⟩⟩
    rw [hx]
    rfl
  · have hi : ¬ (200 : Int) < (s.size : Int) := by omega
    have hx : exprE (L s) = scan true 0 ((L s).drop 0) 0 := by unfold exprE; rw [len_L, if_neg h200]; rfl
    have HX := Lib.hid hx
    clear hx
    go_enter Tryz.func148, Tryz.ntmps148
    go_wp2_with fail
    refine (whole_all s w.heap.size 0 0 1 1 _ (by omega) (by omega) rfl (by omega) (by omega) (by omega) (St.new w s _) (HT.out.below (balloc (Below.refl _ _) _)) hb).mono ?_
    rintro e w1 ⟨v, f, rfl, hB, hq⟩
    have hBB : Below w.heap.size w w1 := But.fresh (balloc (Below.refl _ _) _) (Nat.le_refl _) (by simp) hB
    rcases hq with ⟨fb, code, rfl, rfl, q1, ⟨⟨fn, q2⟩, q2b⟩, q3, q4⟩ | ⟨x, a', p', rfl, rfl, q1, q2, q3, q4, q5, q6, q7, ⟨qr, qs⟩, q8⟩
    · have HQ := Lib.hid (HX.out.trans (q4 0))
      clear q4
      have hfl : fb < w1.heap.size := lt_of_cell (a := ⟨fb, 0, none⟩) q2
      go_wp2
      go_region
      all_goals
        go_wp2
        go_ret3
        refine ⟨.pointer none, fn, ?_, hBB.drew, .inl ⟨by rw [HQ.out]; exact q3, rfl⟩⟩
        rw [HQ.out]
        rfl
    · rcases hd : (L s).drop a' with _ | ⟨c, r⟩
      · have HQ := Lib.hid (HX.out.trans ((q8 0).trans (by rw [hd, scan_end, if_neg (by simp)])))
        have ha : skipL ((L s).drop a') = [] := by rw [hd]; rfl
        clear q8
        go_wp2_with (go_at_call 176; go_must (refine (skip_none (by omega) q3 q6 ha).mono ?_); rintro e w2 ⟨rfl, hst2, hB2⟩)
        go_ret3
        refine ⟨.pointer (some ⟨x, 0, none⟩), 0, ?_, But.fresh hBB (Nat.le_refl _) hBB.size hB2, .inr ⟨HQ.out, x, rfl, ?_, ?_⟩⟩
        · rw [HQ.out]
          rfl
        · have := hBB.size
          simp at q1
          omega
        · refine (q7.but hB2 ?_).more (by omega)
          simp at q1
          omega
      · have hs2 : skipL ((L s).drop a') = c :: r := by rw [qs, hd]
        have HQ := Lib.hid (HX.out.trans ((q8 0).trans (by rw [hd, scan_over (skip_head hs2) (by rw [← hd]; omega)])))
        clear q8
        go_wp2_with (go_at_call 176; go_must (refine (skip_some (by omega) q3 q6 hs2).mono ?_); rintro e w2 ⟨k, hk1, hk2, hk3, rfl, ⟨c0, c1, c2, f1, f2⟩, hB2⟩)
        have hB3 : Below w.heap.size w w2 := But.fresh hBB (Nat.le_refl _) hBB.size hB2
        go_region
        all_goals
          go_wp2
          go_ret3
          refine ⟨.pointer none, k, ?_, (hB3.alloc hB3.size _).drew, .inl ⟨by rw [HQ.out]; decide, rfl⟩⟩
          rw [HQ.out]
          rfl
end Go.Proofs.YtkjajlolfcioiaaGreatDoor.Expr
