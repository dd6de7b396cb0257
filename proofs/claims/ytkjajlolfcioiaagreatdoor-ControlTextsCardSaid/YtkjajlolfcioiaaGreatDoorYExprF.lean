/- expr: values in parentheses, walked. -/
import Derived.Test.YtkjajlolfcioiaaGreatDoorYExprE
import Derived.WalkSpells
namespace Go.Proofs.YtkjajlolfcioiaaGreatDoor.Expr
open Go.RowKit Go.Proofs.YtkjajlolfcioiaaGreatDoor Go.Proofs.YtkjajlolfcioiaaGreatDoor.Own Go.Proofs.YtkjajlolfcioiaaGreatDoor.Scan Go.Lib

/-- behind a whole of rank r: no operator of that rank, or more. -/
def Ends (s : ByteArray) (r : Nat) (a : Nat) : Prop := rankB (opT ((L s).drop a)) < r ∧ skipL ((L s).drop a) = (L s).drop a
/-- what a reading of wholes further on comes to. -/
def Iw (s : ByteArray) (b a : Nat) : Prop :=
  ∀ (a2 p2 r : Nat) (ri : Int) (X : World), ri = r → a < a2 → a2 ≤ s.size → p2 ≤ 64 → 1 ≤ r → r ≤ 6 → St X b s a2 p2 → Tab X → Calls Tryz.prog 175 #[.pointer (some ⟨b, 0, none⟩), .int .i64 ri] X (Reads s b a2 p2 (Ends s r) X)
theorem fault_reads2 {s : ByteArray} {b a p g : Nat} {R : Nat → Prop} {w X : World} {n code : Int} {T : TypeId} {e : Ending} (he : e = .returned (.tuple #[.pointer none, .pointer (some ⟨g, 0, none⟩)])) (hg : g = X.heap.size) (hB : But b w X) (hc : code ≠ 0) (h : ∀ opn, scan true opn ((L s).drop a) p = code) :
    Reads s b a p R w e (X.alloc (.cells #[.int .i64 n, .int .i64 code] T)) := by
  rw [he]
  exact fault_reads hg hB hc h
theorem eq_of_end {s : ByteArray} {a : Nat} (h : (L s).drop a = []) (ha : a ≤ s.size) : a = s.size := by
  rw [List.drop_eq_nil_iff, len_L] at h
  omega
theorem same_drop {s : ByteArray} {a k : Nat} {l : List UInt8} (h : (L s).drop a = l) (h2 : (L s).drop k = l) (ha : a ≤ s.size) (hk : k ≤ s.size) : k = a := by
  have e1 := congrArg List.length h
  have e2 := congrArg List.length h2
  rw [List.length_drop, len_L] at e1 e2
  omega
set_option maxRecDepth 100000 in
set_option maxHeartbeats 4000000 in
theorem value_open (s : ByteArray) (b a p : Nat) (w : World) (hs : s.size ≤ 200) (ha : a ≤ s.size) (hp : p ≤ 64) (h : St w b s a p) (hT : Tab w) (hb : 5 < b) (c : UInt8) (r : List UInt8) (hn : skipL ((L s).drop a) = c :: r)
    (hd : isDigit c = false) (hl : isLetter c = false) (h1 : opT (c :: r) = [40]) (ih : Iw s b a) :
    Calls Tryz.prog 188 #[.pointer (some ⟨b, 0, none⟩)] w (Reads s b a p (fun _ => True) w) := by
  have hc32 := skip_head hn
  have hsc : ∀ opn, scan true opn ((L s).drop a) p = scan true (opn + 1) r p := fun opn => by
    rw [← scan_skip, hn, scan_open hd hl hc32 h1]
  have HSC := Lib.hid hsc
  have HN := Lib.hid hn
  obtain ⟨x, hx⟩ : ∃ x : ByteArray, x = ⟨(opT (c :: r)).toArray⟩ := ⟨_, rfl⟩
  have hxl : x.toList = [40] := by rw [hx, toList_data]; exact h1
  have t45 : (x.toList == [45]) = false := by rw [hxl]; decide
  have t33 : (x.toList == [33]) = false := by rw [hxl]; decide
  have t40 : (x.toList == [40]) = true := by rw [hxl]; decide
  have HX := Lib.hid hx
  have ho := other_byte hd hl
  have HC32 := Lib.hid hc32
  have HIH := Lib.hid ih
  clear hsc hn hx hxl h1 hd hl hc32 ih
  go_enter Tryz.func188, Tryz.ntmps188
  go_wp2_with (go_at_call 176; go_must (refine (skip_some hs ha h HN.out).mono ?_); rintro e w1 ⟨k, hk1, hk2, hdr, rfl, hst, hB⟩; have hck := at_drop hdr hk2; have HDR := Lib.hid hdr; have HST := Lib.hid hst; have HCK := Lib.hid hck; clear hdr hck; obtain ⟨c0, c1, c2, f1, f2⟩ := hst)
  have hi0 : (0 : Int) ≤ (k : Int) := by omega
  have hi1 : (k : Int) < s.size := by omega
  have hok : ((s[k].toNat : Int) < 48 ∨ (57 < (s[k].toNat : Int) ∧ (s[k].toNat : Int) < 65) ∨ (90 < (s[k].toNat : Int) ∧ (s[k].toNat : Int) < 97) ∨ 122 < (s[k].toNat : Int)) := by rw [HCK.out]; exact ho
  clear ho
  have hdr1 : (L s).drop (k + 1) = r := drop_next HDR.out
  have HDR1 := Lib.hid hdr1
  clear hdr1
  rcases hok with o1 | ⟨o1, o2⟩ | ⟨o1, o2⟩ | o1
  all_goals
    go_quiet (fail)
    go_wp2_with (go_at_call 189; go_must (refine (operator_at hs (by omega) (HST.out.drewN _) HDR.out HC32.out HX.out).mono ?_); rintro e w2 ⟨rfl, hst2, hB2⟩; have hbl := hst2.lt; have HST2 := Lib.hid hst2; obtain ⟨d0, d1, d2, g1, g2⟩ := hst2)
    have hB02 := (hB.drewN nq).trans hB2
    have hst2' : St (w2.setCell ⟨b, 1, none⟩ (.int .i64 (↑k + 1))) b s (k + 1) p := by simpa using HST2.out.setAt (k + 1)
    have hst3 := hst2'.below (balloc (Below.refl _ _) (.cells #[.string x] 9))
    have HB03 := Lib.hid ((hB02.setCell 1 (.int .i64 (↑k + 1))).alloc (.cells #[.string x] 9))
    have HT3 := Lib.hid (hT.but HB03.out hb)
    clear hB2 hB02 hst2'
    refine (HIH.out (k + 1) p 1 1 _ rfl (by omega) (by omega) hp (by omega) (by omega) hst3 HT3.out).mono ?_
    rintro e w5 ⟨v, f, rfl, hB5, hq⟩
    have HB05 := Lib.hid (HB03.out.trans hB5)
    rcases hq with ⟨fb, code, rfl, rfl, q1, q2, q3, q4⟩ | ⟨y, a', p', rfl, rfl, q1, q2, q3, q4, q5, q6, q7, ⟨q9, q10⟩, q8⟩
    · go_wp2
      go_ret2
      exact ⟨_, _, rfl, HB05.out, .inl ⟨fb, code, rfl, rfl, Nat.le_trans HB03.out.size q1, q2, q3, fun opn => by rw [HSC.out, ← HDR1.out, q4]⟩⟩
    · have hT5 := HT3.out.but hB5 hb
      have hxb : y ≠ b := by
        have h8 := HB03.out.size
        have h9 := hbl
        simp at q1
        omega
      rcases hdr5 : (L s).drop a' with _ | ⟨c5, r5⟩
      · have ha5 := eq_of_end hdr5 q3
        have HD5 := Lib.hid hdr5
        have hsk5 : skipL ((L s).drop a') = [] := by rw [hdr5]; rfl
        have HSK5 := Lib.hid hsk5
        clear hsk5 hdr5 q9 q10
        go_wp2_with (go_at_call 176; go_must (refine (skip_none hs q3 q6 HSK5.out).mono ?_); rintro e w6 ⟨rfl, hst6, hB6⟩; obtain ⟨e0, e1, e2, k1, k2⟩ := hst6)
        go_region
        all_goals
          go_wp2
          go_ret2
          exact fault_reads (by simp) (HB05.out.trans hB6).drew (by decide) (fun opn => by rw [HSC.out, ← HDR1.out, q8, HD5.out, scan_end, if_pos (.inr (by omega))])
      · have HD5 := Lib.hid hdr5
        rw [hdr5] at q9 q10
        have hc5 := skip_head q10
        have HSK5 := Lib.hid (show skipL ((L s).drop a') = c5 :: r5 by rw [hdr5]; exact q10)
        have HR5 := Lib.hid q9
        have HC5 := Lib.hid hc5
        obtain ⟨z, hz⟩ : ∃ z : ByteArray, z = ⟨(opT (c5 :: r5)).toArray⟩ := ⟨_, rfl⟩
        have hzl : z.toList = opT (c5 :: r5) := by rw [hz, toList_data]
        have HZ := Lib.hid hz
        clear hdr5 q9 q10 hc5 hz
        by_cases h41 : opT (c5 :: r5) = [41]
        · have u41 : (z.toList == [41]) = true := by rw [hzl, h41]; decide
          have HH := Lib.hid h41
          clear hzl h41
          go_wp2_with (first
            | (go_at_call 176; go_must (refine (skip_some hs q3 q6 HSK5.out).mono ?_); rintro e w6 ⟨k6, hk61, hk62, hdr6, rfl, hst6, hB6⟩; have hk6 := same_drop HD5.out hdr6 q3 (by omega); subst hk6; clear hdr6)
            | (go_at_call 189; go_must (refine (operator_at hs q3 hst6 HD5.out HC5.out HZ.out).mono ?_); rintro e w7 ⟨rfl, hst7, hB7⟩; have HST7 := Lib.hid hst7; obtain ⟨e0, e1, e2, k1, k2⟩ := hst7))
          go_ret2
          have hB57 := (HB05.out.trans hB6).trans hB7
          refine ⟨_, _, rfl, hB57.setCell 1 _, .inr ⟨y, k6 + 1, p', rfl, rfl, Nat.le_trans HB03.out.size q1, by omega, by omega, q4, q5, by simpa using HST7.out.setAt (k6 + 1), ((q7.but hB6 hxb).but hB7 hxb).but ((But.refl b w7).setCell 1 _) hxb, trivial, fun opn => ?_⟩⟩
          rw [HSC.out, ← HDR1.out, q8, HD5.out, scan_close HC5.out HH.out, drop_next HD5.out]
        · have u41 : (z.toList == [41]) = false := by rw [hzl, beq_eq_false_iff_ne]; exact h41
          have HH := Lib.hid h41
          clear hzl h41
          go_wp2_with (first
            | (go_at_call 176; go_must (refine (skip_some hs q3 q6 HSK5.out).mono ?_); rintro e w6 ⟨k6, hk61, hk62, hdr6, rfl, hst6, hB6⟩; have hk6 := same_drop HD5.out hdr6 q3 (by omega); subst hk6; clear hdr6)
            | (go_at_call 189; go_must (refine (operator_at hs q3 hst6 HD5.out HC5.out HZ.out).mono ?_); rintro e w7 ⟨rfl, hst7, hB7⟩; obtain ⟨e0, e1, e2, k1, k2⟩ := hst7))
          go_region
          all_goals
            go_wp2
            go_ret2
            refine fault_reads2 (g := w7.heap.size) (code := 40) ?_ (by simp) ((HB05.out.trans hB6).trans hB7).drew (by decide) (fun opn => by rw [HSC.out, ← HDR1.out, q8, HD5.out, scan_stray HC5.out (by have := HR5.out; omega) HH.out])
            rfl
end Go.Proofs.YtkjajlolfcioiaaGreatDoor.Expr
