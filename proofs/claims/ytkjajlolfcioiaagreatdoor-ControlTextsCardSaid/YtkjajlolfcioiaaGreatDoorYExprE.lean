/- expr: values and wholes, walked. -/
import Derived.Test.YtkjajlolfcioiaaGreatDoorYExprD
import Derived.WalkSpells
namespace Go.Proofs.YtkjajlolfcioiaaGreatDoor.Expr
open Go.RowKit Go.Proofs.YtkjajlolfcioiaaGreatDoor Go.Proofs.YtkjajlolfcioiaaGreatDoor.Own Go.Proofs.YtkjajlolfcioiaaGreatDoor.Scan Go.Lib

/-- an error that all see. -/
def Bad (s : ByteArray) (a p : Nat) (w w' : World) (v f : Value) : Prop :=
  ∃ fb code, v = .pointer none ∧ f = .pointer (some ⟨fb, 0, none⟩) ∧ w.heap.size ≤ fb ∧ FaultAt w' fb code ∧ code ≠ 0 ∧ ∀ opn, scan true opn ((L s).drop a) p = code
/-- an expression, and a place from which all goes on. -/
def Good (s : ByteArray) (b a p : Nat) (w w' : World) (v f : Value) (R : Nat → Prop) : Prop :=
  ∃ x a' p', v = .pointer (some ⟨x, 0, none⟩) ∧ f = .pointer none ∧ w.heap.size ≤ x ∧ a < a' ∧ a' ≤ s.size ∧ p < p' ∧ p' ≤ 64 ∧ St w' b s a' p' ∧ ExprAt w' x (26 * (p' - p)) ∧ R a' ∧ ∀ opn, scan true opn ((L s).drop a) p = scan false opn ((L s).drop a') p'
def Reads (s : ByteArray) (b a p : Nat) (R : Nat → Prop) (w : World) (e : Ending) (w' : World) : Prop :=
  ∃ v f, e = .returned (.tuple #[v, f]) ∧ But b w w' ∧ (Bad s a p w w' v f ∨ Good s b a p w w' v f R)
theorem Reads.of_val {s : ByteArray} {b a p : Nat} {w : World} {e : Ending} {w' : World} (h : ValPost s b a p w e w') : Reads s b a p (fun _ => True) w e w' := by
  obtain ⟨hB, ⟨f, code, rfl, h1, h2, h3, h4⟩ | ⟨x, a', p', rfl, h1, h2, h3, h4, h5, h6, h7, h8⟩⟩ := h
  · exact ⟨_, _, rfl, hB, .inl ⟨f, code, rfl, rfl, h1, h2, h3, h4⟩⟩
  · exact ⟨_, _, rfl, hB, .inr ⟨x, a', p', rfl, rfl, h1, h2, h3, h4, h5, h6, h7, trivial, h8⟩⟩
/-- blanks ahead. -/
theorem Reads.skip {s : ByteArray} {b a k p : Nat} {R : Nat → Prop} {w w1 : World} {e : Ending} {w' : World} (h : Reads s b k p R w1 e w') (hk : (L s).drop k = skipL ((L s).drop a)) (hak : a ≤ k) (hB : But b w w1) : Reads s b a p R w e w' := by
  have hsc : ∀ opn, scan true opn ((L s).drop k) p = scan true opn ((L s).drop a) p := fun opn => by rw [hk, scan_skip]
  obtain ⟨v, f, he, hB2, ⟨fb, code, h1, h2, h3, h4, h5, h6⟩ | ⟨x, a', p', h1, h2, h3, h4, h5, h6, h7, h8, h9, h10, h11⟩⟩ := h
  · exact ⟨v, f, he, hB.trans hB2, .inl ⟨fb, code, h1, h2, Nat.le_trans hB.size h3, h4, h5, fun opn => by rw [← hsc, h6]⟩⟩
  · exact ⟨v, f, he, hB.trans hB2, .inr ⟨x, a', p', h1, h2, Nat.le_trans hB.size h3, by omega, h5, h6, h7, h8, h9, h10, fun opn => by rw [← hsc, h11]⟩⟩
theorem fault_reads {s : ByteArray} {b a p g : Nat} {R : Nat → Prop} {w X : World} {n code : Int} {T : TypeId} (hg : g = X.heap.size) (hB : But b w X) (hc : code ≠ 0) (h : ∀ opn, scan true opn ((L s).drop a) p = code) :
    Reads s b a p R w (.returned (.tuple #[.pointer none, .pointer (some ⟨g, 0, none⟩)])) (X.alloc (.cells #[.int .i64 n, .int .i64 code] T)) := by
  subst hg
  exact ⟨_, _, rfl, hB.alloc _, .inl ⟨X.heap.size, code, rfl, rfl, hB.size, FaultAt.new _ _ _ _, hc, h⟩⟩

set_option maxRecDepth 100000 in
set_option maxHeartbeats 2000000 in
theorem value_none (s : ByteArray) (b a p : Nat) (w : World) (hs : s.size ≤ 200) (ha : a ≤ s.size) (h : St w b s a p) (hn : skipL ((L s).drop a) = []) :
    Calls Tryz.prog 188 #[.pointer (some ⟨b, 0, none⟩)] w (Reads s b a p (fun _ => True) w) := by
  have hsc : ∀ opn, scan true opn ((L s).drop a) p = 41 := fun opn => by
    rw [← scan_skip, hn, scan_end, if_pos (.inl rfl)]
  have HSC := Lib.hid hsc
  have HN := Lib.hid hn
  clear hsc hn
  go_enter Tryz.func188, Tryz.ntmps188
  go_wp2_with (go_at_call 176; go_must (refine (skip_none hs ha h HN.out).mono ?_); rintro e w1 ⟨rfl, hst, hB⟩; obtain ⟨c0, c1, c2, f1, f2⟩ := hst)
  go_region
  all_goals
    go_wp2
    go_ret2
    exact fault_reads (by simp) (hB.drew) (by decide) HSC.out
set_option maxRecDepth 100000 in
set_option maxHeartbeats 2000000 in
theorem value_digit (s : ByteArray) (b a p : Nat) (w : World) (hs : s.size ≤ 200) (ha : a ≤ s.size) (hp : p ≤ 64) (h : St w b s a p) (hT : Tab w) (hb : 5 < b) (c : UInt8) (r : List UInt8) (hn : skipL ((L s).drop a) = c :: r) (hd : isDigit c = true) :
    Calls Tryz.prog 188 #[.pointer (some ⟨b, 0, none⟩)] w (Reads s b a p (fun _ => True) w) := by
  have HN := Lib.hid hn
  clear hn
  have hc256 : c.toNat < 256 := c.toNat_lt
  have hd1 : 48 ≤ c.toNat ∧ c.toNat ≤ 57 := by unfold isDigit at hd; rwa [decide_eq_true_eq] at hd
  have HD := Lib.hid hd
  clear hd
  go_enter Tryz.func188, Tryz.ntmps188
  go_wp2_with (go_at_call 176; go_must (refine (skip_some hs ha h HN.out).mono ?_); rintro e w1 ⟨k, hk1, hk2, hdr, rfl, hst, hB⟩; have hck := at_drop hdr hk2; have HDR := Lib.hid hdr; have HST := Lib.hid hst; have HCK := Lib.hid hck; clear hdr hck; obtain ⟨c0, c1, c2, f1, f2⟩ := hst)
  have hi0 : (0 : Int) ≤ (k : Int) := by omega
  have hi1 : (k : Int) < s.size := by omega
  have hk48 : (48 : Int) ≤ (s[k].toNat : Int) := by rw [HCK.out]; omega
  have hk57 : (s[k].toNat : Int) ≤ 57 := by rw [HCK.out]; omega
  go_quiet (fail)
  go_wp2_with (go_at_call 199; go_must (refine (number_calls s b k p _ hs hk2 hp (HST.out.drewN _) ((hT.but hB hb).below (bdrewN (Below.refl _ _) _)) hb (by rw [HCK.out]; exact HD.out)).mono ?_); rintro e w2 hv; obtain ⟨v, f, rfl, hq⟩ := Reads.of_val hv; have HQ := Lib.hid hq; clear hq hv)
  go_ret2
  exact Reads.skip ⟨v, f, rfl, HQ.out⟩ (by rw [HDR.out, HN.out]) hk1 (hB.drewN _)
set_option maxRecDepth 100000 in
set_option maxHeartbeats 2000000 in
theorem value_letter (s : ByteArray) (b a p : Nat) (w : World) (hs : s.size ≤ 200) (ha : a ≤ s.size) (hp : p ≤ 64) (h : St w b s a p) (c : UInt8) (r : List UInt8) (hn : skipL ((L s).drop a) = c :: r) (hl : isLetter c = true) :
    Calls Tryz.prog 188 #[.pointer (some ⟨b, 0, none⟩)] w (Reads s b a p (fun _ => True) w) := by
  have HN := Lib.hid hn
  clear hn
  have hc256 : c.toNat < 256 := c.toNat_lt
  have hl1 : (97 ≤ c.toNat ∧ c.toNat ≤ 122) ∨ (65 ≤ c.toNat ∧ c.toNat ≤ 90) := by unfold isLetter at hl; rwa [decide_eq_true_eq] at hl
  have HL := Lib.hid hl
  clear hl
  go_enter Tryz.func188, Tryz.ntmps188
  go_wp2_with (go_at_call 176; go_must (refine (skip_some hs ha h HN.out).mono ?_); rintro e w1 ⟨k, hk1, hk2, hdr, rfl, hst, hB⟩; have hck := at_drop hdr hk2; have HDR := Lib.hid hdr; have HST := Lib.hid hst; have HCK := Lib.hid hck; clear hdr hck; obtain ⟨c0, c1, c2, f1, f2⟩ := hst)
  have hi0 : (0 : Int) ≤ (k : Int) := by omega
  have hi1 : (k : Int) < s.size := by omega
  rcases hl1 with ⟨l1, l2⟩ | ⟨l1, l2⟩
  · have hk1' : (97 : Int) ≤ (s[k].toNat : Int) := by rw [HCK.out]; omega
    have hk2' : (s[k].toNat : Int) ≤ 122 := by rw [HCK.out]; omega
    go_quiet (fail)
    go_wp2_with (go_at_call 200; go_must (refine (name_calls s b k p _ hs hk2 hp (HST.out.drewN _) (by rw [HCK.out]; exact HL.out)).mono ?_); rintro e w2 hv; obtain ⟨v, f, rfl, hq⟩ := Reads.of_val hv; have HQ := Lib.hid hq; clear hq hv)
    go_ret2
    exact Reads.skip ⟨v, f, rfl, HQ.out⟩ (by rw [HDR.out, HN.out]) hk1 (hB.drewN _)
  · have hk1' : (65 : Int) ≤ (s[k].toNat : Int) := by rw [HCK.out]; omega
    have hk2' : (s[k].toNat : Int) ≤ 90 := by rw [HCK.out]; omega
    go_quiet (fail)
    go_wp2_with (go_at_call 200; go_must (refine (name_calls s b k p _ hs hk2 hp (HST.out.drewN _) (by rw [HCK.out]; exact HL.out)).mono ?_); rintro e w2 hv; obtain ⟨v, f, rfl, hq⟩ := Reads.of_val hv; have HQ := Lib.hid hq; clear hq hv)
    go_ret2
    exact Reads.skip ⟨v, f, rfl, HQ.out⟩ (by rw [HDR.out, HN.out]) hk1 (hB.drewN _)
theorem skip_head {l : List UInt8} {c : UInt8} {r : List UInt8} (h : skipL l = c :: r) : ¬ c = 32 := by
  intro e
  have h2 := skipL_skipL l
  rw [h] at h2
  unfold skipL at h2
  rw [List.dropWhile_cons_of_pos (by simp [e])] at h2
  have h3 := congrArg List.length h2
  have h4 := (List.dropWhile_suffix (fun c : UInt8 => c == 32) (l := r)).length_le
  simp only [List.length_cons] at h3
  omega
/-- the word of signs, at a place where no blank stands. -/
theorem operator_at {s : ByteArray} {b k p : Nat} {w : World} (hs : s.size ≤ 200) (hk : k ≤ s.size) (h : St w b s k p) {c : UInt8} {r : List UInt8} (hd : (L s).drop k = c :: r) (hc : ¬ c = 32) {x : ByteArray} (hx : x = ⟨(opT (c :: r)).toArray⟩) :
    Calls Tryz.prog 189 #[.pointer (some ⟨b, 0, none⟩)] w fun e w' => e = .returned (.string x) ∧ St w' b s k p ∧ But b w w' :=
  (operator_calls s b k p w hs hk h).mono fun e w' ⟨k2, h1, h2, h3, he, hst, hB⟩ => by
    have hsk : skipL ((L s).drop k) = (L s).drop k := by
      rw [hd]; unfold skipL; rw [List.dropWhile_cons_of_neg (by simpa using hc)]
    rw [hsk] at h3
    have hlen := congrArg List.length h3
    rw [List.length_drop, List.length_drop, len_L] at hlen
    obtain rfl : k2 = k := by omega
    rw [hd] at he
    subst hx
    exact ⟨he, hst, hB⟩
/-- where a byte that is neither digit nor letter lies. -/
theorem other_byte {c : UInt8} (hd : isDigit c = false) (hl : isLetter c = false) : (c.toNat : Int) < 48 ∨ (57 < (c.toNat : Int) ∧ (c.toNat : Int) < 65) ∨ (90 < (c.toNat : Int) ∧ (c.toNat : Int) < 97) ∨ 122 < (c.toNat : Int) := by
  unfold isDigit at hd
  unfold isLetter at hl
  rw [decide_eq_false_iff_not] at hd hl
  omega
set_option maxRecDepth 100000 in
set_option maxHeartbeats 4000000 in
theorem value_bad (s : ByteArray) (b a p : Nat) (w : World) (hs : s.size ≤ 200) (ha : a ≤ s.size) (h : St w b s a p) (c : UInt8) (r : List UInt8) (hn : skipL ((L s).drop a) = c :: r)
    (hd : isDigit c = false) (hl : isLetter c = false) (h1 : ¬ opT (c :: r) = [45]) (h2 : ¬ opT (c :: r) = [33]) (h3 : ¬ opT (c :: r) = [40]) :
    Calls Tryz.prog 188 #[.pointer (some ⟨b, 0, none⟩)] w (Reads s b a p (fun _ => True) w) := by
  have hc32 := skip_head hn
  have hsc : ∀ opn, scan true opn ((L s).drop a) p = 40 := fun opn => by rw [← scan_skip, hn, scan_bad hd hl hc32 h1 h2 h3]
  have HSC := Lib.hid hsc
  have HN := Lib.hid hn
  obtain ⟨x, hx⟩ : ∃ x : ByteArray, x = ⟨(opT (c :: r)).toArray⟩ := ⟨_, rfl⟩
  have hxl : x.toList = opT (c :: r) := by rw [hx, toList_data]
  have t45 : (x.toList == [45]) = false := by rw [hxl, beq_eq_false_iff_ne]; exact h1
  have t33 : (x.toList == [33]) = false := by rw [hxl, beq_eq_false_iff_ne]; exact h2
  have t40 : (x.toList == [40]) = false := by rw [hxl, beq_eq_false_iff_ne]; exact h3
  have HX := Lib.hid hx
  have ho := other_byte hd hl
  have HC32 := Lib.hid hc32
  clear hsc hn hx hxl h1 h2 h3 hd hl hc32
  go_enter Tryz.func188, Tryz.ntmps188
  go_wp2_with (go_at_call 176; go_must (refine (skip_some hs ha h HN.out).mono ?_); rintro e w1 ⟨k, hk1, hk2, hdr, rfl, hst, hB⟩; have hck := at_drop hdr hk2; have HDR := Lib.hid hdr; have HST := Lib.hid hst; have HCK := Lib.hid hck; clear hdr hck; obtain ⟨c0, c1, c2, f1, f2⟩ := hst)
  have hi0 : (0 : Int) ≤ (k : Int) := by omega
  have hi1 : (k : Int) < s.size := by omega
  have hok : ((s[k].toNat : Int) < 48 ∨ (57 < (s[k].toNat : Int) ∧ (s[k].toNat : Int) < 65) ∨ (90 < (s[k].toNat : Int) ∧ (s[k].toNat : Int) < 97) ∨ 122 < (s[k].toNat : Int)) := by rw [HCK.out]; exact ho
  clear ho
  rcases hok with o1 | ⟨o1, o2⟩ | ⟨o1, o2⟩ | o1
  all_goals
    go_quiet (fail)
    go_wp2_with (go_at_call 189; go_must (refine (operator_at hs (by omega) (HST.out.drewN _) HDR.out HC32.out HX.out).mono ?_); rintro e w2 ⟨rfl, hst2, hB2⟩; have hbl := hst2.lt; obtain ⟨d0, d1, d2, g1, g2⟩ := hst2)
    go_region
    all_goals
      go_wp2
      go_ret2
      exact fault_reads (by simp) (((hB.drewN _).trans hB2).alloc _).drew (by decide) HSC.out
theorem expr_new {X : World} {g : Nat} {fn : Fn} {c1 c2 : Array Value} {t : ByteArray} {n : Int} {T : TypeId} {B : Nat} (hg : g = X.heap.size) (hB : t.size ≤ B) : ExprAt (X.alloc (.cells #[.func fn c1 c2, .string t, .int .i64 n] T)) g B := by
  subst hg
  exact ExprAt.new X fn c1 c2 t n T B hB
/-- what a reading further on comes to. -/
def Ih (s : ByteArray) (b a : Nat) : Prop :=
  ∀ (a2 p2 : Nat) (X : World), a < a2 → a2 ≤ s.size → p2 ≤ 64 → St X b s a2 p2 → Tab X → Calls Tryz.prog 188 #[.pointer (some ⟨b, 0, none⟩)] X (Reads s b a2 p2 (fun _ => True) X)
set_option maxRecDepth 100000 in
set_option maxHeartbeats 4000000 in
theorem value_sign (s : ByteArray) (b a p : Nat) (w : World) (hs : s.size ≤ 200) (ha : a ≤ s.size) (hp : p ≤ 64) (h : St w b s a p) (hT : Tab w) (hb : 5 < b) (c : UInt8) (r : List UInt8) (hn : skipL ((L s).drop a) = c :: r)
    (hd : isDigit c = false) (hl : isLetter c = false) (q : Bool) (h1 : opT (c :: r) = [if q then 45 else 33]) (ih : Ih s b a) :
    Calls Tryz.prog 188 #[.pointer (some ⟨b, 0, none⟩)] w (Reads s b a p (fun _ => True) w) := by
  have hc32 := skip_head hn
  have hsc : ∀ opn, scan true opn ((L s).drop a) p = if 64 < p + 1 then 5 else scan true opn r (p + 1) := fun opn => by
    rw [← scan_skip, hn, scan_sign hd hl hc32 (by rw [h1]; cases q <;> simp)]
  have HSC := Lib.hid hsc
  have HN := Lib.hid hn
  obtain ⟨x, hx⟩ : ∃ x : ByteArray, x = ⟨(opT (c :: r)).toArray⟩ := ⟨_, rfl⟩
  have hxl : x.toList = [if q then 45 else 33] := by rw [hx, toList_data]; exact h1
  have hxs : x.size = 1 := by rw [hx, h1]; rfl
  have t45 : (x.toList == [45]) = q := by rw [hxl]; cases q <;> decide
  have t33 : (x.toList == [33]) = !q := by rw [hxl]; cases q <;> decide
  have HX := Lib.hid hx
  have HXS := Lib.hid hxs
  have ho := other_byte hd hl
  have HC32 := Lib.hid hc32
  have HIH := Lib.hid ih
  clear hsc hn hx hxl hxs h1 hd hl hc32 ih
  go_enter Tryz.func188, Tryz.ntmps188
  go_wp2_with (go_at_call 176; go_must (refine (skip_some hs ha h HN.out).mono ?_); rintro e w1 ⟨k, hk1, hk2, hdr, rfl, hst, hB⟩; have hck := at_drop hdr hk2; have HDR := Lib.hid hdr; have HST := Lib.hid hst; have HCK := Lib.hid hck; clear hdr hck; obtain ⟨c0, c1, c2, f1, f2⟩ := hst)
  have hi0 : (0 : Int) ≤ (k : Int) := by omega
  have hi1 : (k : Int) < s.size := by omega
  have hok : ((s[k].toNat : Int) < 48 ∨ (57 < (s[k].toNat : Int) ∧ (s[k].toNat : Int) < 65) ∨ (90 < (s[k].toNat : Int) ∧ (s[k].toNat : Int) < 97) ∨ 122 < (s[k].toNat : Int)) := by rw [HCK.out]; exact ho
  clear ho
  have hdr1 : (L s).drop (k + 1) = r := drop_next HDR.out
  have HDR1 := Lib.hid hdr1
  clear hdr1
  have hmf : ∀ (fn : Fn) (first cap : Array Value) (X : World), (Instr.makeFunc fn first cap).run Tryz.prog X = .ok (.func fn first cap) X := fun _ _ _ _ => rfl
  cases q
  all_goals
    simp only [Bool.not_true, Bool.not_false] at t33
    rcases hok with o1 | ⟨o1, o2⟩ | ⟨o1, o2⟩ | o1
    all_goals
      go_quiet (fail)
      go_wp2_with (go_at_call 189; go_must (refine (operator_at hs (by omega) (HST.out.drewN _) HDR.out HC32.out HX.out).mono ?_); rintro e w2 ⟨rfl, hst2, hB2⟩; have hbl := hst2.lt; have HST2 := Lib.hid (hst2.below (balloc (Below.refl _ _) (.cells #[.string x] 9))))
      have hB02 := (hB.drewN nq).trans hB2
      have HB02 := Lib.hid (hB02.alloc (.cells #[.string x] 9))
      have hT2 := Lib.hid (hT.but HB02.out hb)
      clear hB2 hst2 hB02
      by_cases h64 : 64 < p + 1
      · go_wp2_with (go_at_call 191; go_must (refine (part_many 1 hs (by omega) hp HST2.out h64).mono ?_); rintro e w4 ⟨f, rfl, hf, hF, hB4⟩)
        go_ret2
        exact ⟨_, _, rfl, HB02.out.trans hB4, .inl ⟨f, 5, rfl, rfl, Nat.le_trans HB02.out.size hf, hF, by decide, fun opn => by rw [HSC.out, if_pos h64]⟩⟩
      · go_wp2_with (go_at_call 191; go_must (refine (part_ok 1 hs (by omega) hp HST2.out h64).mono ?_); rintro e w4 ⟨rfl, hst4, hB4⟩; have hT4 := hT2.out.but hB4 hb; have hX4 := hB4.cell (p := ⟨w2.heap.size, 0, none⟩) (v := .string x) (by show w2.heap.size ≠ b; omega) (cell_new rfl rfl))
        refine (HIH.out (k + 1) (p + 1) _ (by omega) (by omega) (by omega) hst4 hT4).mono ?_
        rintro e w5 ⟨v, f, rfl, hB5, hq⟩
        rcases hq with ⟨fb, code, rfl, rfl, q1, q2, q3, q4⟩ | ⟨y, a', p', rfl, rfl, q1, q2, q3, q4, q5, q6, q7, _, q8⟩
        · go_wp2
          go_ret2
          exact ⟨_, _, rfl, (HB02.out.trans hB4).trans hB5, .inl ⟨fb, code, rfl, rfl, Nat.le_trans (HB02.out.trans hB4).size q1, q2, q3, fun opn => by rw [HSC.out, if_neg h64, ← HDR1.out, q4]⟩⟩
        · have hX5 := hB5.cell (p := ⟨w2.heap.size, 0, none⟩) (by show w2.heap.size ≠ b; omega) hX4
          have hyl := q7
          obtain ⟨fn, cc1, cc2, t, n, y1, y2, y3, y4⟩ := hyl
          have hl1 : w2.heap.size < w5.heap.size := lt_of_cell (a := ⟨w2.heap.size, 0, none⟩) hX5
          have hl2 : y < w5.heap.size := lt_of_cell (a := ⟨y, 0, none⟩) y1
          have hxs1 : x.size ≤ 1 := by rw [HXS.out]; exact Nat.le_refl _
          have hts : t.size ≤ 1664 := by omega
          go_wp2
          go_region
          all_goals
            go_wp2
            go_ret2
            refine ⟨_, _, rfl, ((((HB02.out.trans hB4).trans hB5).alloc _).drew).alloc _, .inr ⟨_, a', p', rfl, rfl, ?_, by omega, q3, by omega, q5, ((q6.below (balloc (Below.refl _ _) _)).below (Below.refl _ _).drew).below (balloc (Below.refl _ _) _), ?_, trivial, fun opn => by rw [HSC.out, if_neg h64, ← HDR1.out, q8]⟩⟩
            · have := ((HB02.out.trans hB4).trans hB5).size
              simp
              omega
            · refine expr_new (by simp) ?_
              rw [ByteArray.size_append]
              omega
end Go.Proofs.YtkjajlolfcioiaaGreatDoor.Expr
