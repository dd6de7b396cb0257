/- expr: the reading of words, walked. -/
import Derived.Test.YtkjajlolfcioiaaGreatDoorProg
import Derived.Test.YtkjajlolfcioiaaGreatDoorYOwn
import Derived.Test.YtkjajlolfcioiaaGreatDoorYScan
import Derived.WalkSpells
namespace Go.Proofs.YtkjajlolfcioiaaGreatDoor.Expr
open Go.RowKit Go.Proofs.YtkjajlolfcioiaaGreatDoor Go.Proofs.YtkjajlolfcioiaaGreatDoor.Own Go.Proofs.YtkjajlolfcioiaaGreatDoor.Scan Go.Lib

/-- a source that is read: its text, how far, how many parts. -/
structure St (w : World) (b : Nat) (s : ByteArray) (at_ parts : Nat) : Prop where
  c0 : w.cell? ⟨b, 0, none⟩ = some (.string s)
  c1 : w.cell? ⟨b, 1, none⟩ = some (.int .i64 at_)
  c2 : w.cell? ⟨b, 2, none⟩ = some (.int .i64 parts)
  f1 : w.frozen? ⟨b, 1, none⟩ = false
  f2 : w.frozen? ⟨b, 2, none⟩ = false
theorem St.below {w w' : World} {b : Nat} {s : ByteArray} {a p : Nat} (h : St w b s a p) (k : Below w.heap.size w w') : St w' b s a p :=
  ⟨kc k h.c0, kc k h.c1, kc k h.c2, kf k h.c1 h.f1, kf k h.c2 h.f2⟩
theorem St.drewN {w : World} {b : Nat} {s : ByteArray} {a p : Nat} (h : St w b s a p) (n : Nat) : St (w.drewN n) b s a p := h.below (bdrewN (Below.refl _ _) n)
theorem St.lt {w : World} {b : Nat} {s : ByteArray} {a p : Nat} (h : St w b s a p) : b < w.heap.size := lt_of_cell (a := ⟨b, 0, none⟩) h.c0
theorem St.setAt {w : World} {b : Nat} {s : ByteArray} {a p : Nat} (h : St w b s a p) (a' : Nat) : St (w.setCell ⟨b, 1, none⟩ (.int .i64 a')) b s a' p where
  c0 := (World.cell?_setCell_other _ ⟨b, 1, none⟩ ⟨b, 0, none⟩ _ (fun e => by cases e)).trans h.c0
  c1 := World.cell?_setCell_same _ _ _ h.c1
  c2 := (World.cell?_setCell_other _ ⟨b, 1, none⟩ ⟨b, 2, none⟩ _ (fun e => by cases e)).trans h.c2
  f1 := (World.frozen?_setCell _ _ _ _).trans h.f1
  f2 := (World.frozen?_setCell _ _ _ _).trans h.f2
theorem St.setParts {w : World} {b : Nat} {s : ByteArray} {a p : Nat} (h : St w b s a p) (p' : Nat) : St (w.setCell ⟨b, 2, none⟩ (.int .i64 p')) b s a p' where
  c0 := (World.cell?_setCell_other _ ⟨b, 2, none⟩ ⟨b, 0, none⟩ _ (fun e => by cases e)).trans h.c0
  c1 := (World.cell?_setCell_other _ ⟨b, 2, none⟩ ⟨b, 1, none⟩ _ (fun e => by cases e)).trans h.c1
  c2 := World.cell?_setCell_same _ _ _ h.c2
  f1 := (World.frozen?_setCell _ _ _ _).trans h.f1
  f2 := (World.frozen?_setCell _ _ _ _).trans h.f2

abbrev L (s : ByteArray) : List UInt8 := s.data.toList
theorem len_L (s : ByteArray) : (L s).length = s.size := Array.length_toList
theorem get_L (s : ByteArray) (k : Nat) (h : k < s.size) : (L s)[k]? = some s[k] := by
  rw [List.getElem?_eq_getElem (by rw [len_L]; exact h)]
  rfl

/-- how far a source is read, out of its world. -/
def posOf (w : World) (b : Nat) : Nat := match w.cell? ⟨b, 1, none⟩ with | some v => (intOf v).toNat | none => 0
theorem posOf_st {w : World} {b : Nat} {s : ByteArray} {a p : Nat} (h : St w b s a p) : posOf w b = a := by
  unfold posOf
  rw [h.c1]
  simp [intOf]
theorem done_less {n k k' : Nat} {w w' : World} {b : Nat} {s : ByteArray} {p p' : Nat} (h : St w b s k p) (h' : St w' b s k' p') (hk : k < k') (hn : k' ≤ n) : n - posOf w' b < n - posOf w b := by
  rw [posOf_st h, posOf_st h']
  omega

def SkipPost (s : ByteArray) (b a p : Nat) (w : World) (e : Ending) (w' : World) : Prop :=
  ∃ a', a ≤ a' ∧ a' ≤ s.size ∧ (L s).drop a' = skipL ((L s).drop a) ∧ e = .returned (.bool (decide (a' < s.size))) ∧ St w' b s a' p ∧ But b w w'

set_option maxHeartbeats 1000000 in
theorem skip_calls (s : ByteArray) (b a p : Nat) (w : World) (hs : s.size ≤ 200) (ha : a ≤ s.size) (h : St w b s a p) : Calls Tryz.prog 176 #[.pointer (some ⟨b, 0, none⟩)] w (SkipPost s b a p w) := by
  go_enter Tryz.func176, Tryz.ntmps176
  go_wp2
  go_loopw [] (fun wr => ∃ k : Nat, a ≤ k ∧ k ≤ s.size ∧ Hid (skipL ((L s).drop k) = skipL ((L s).drop a)) ∧ St wr b s k p ∧ But b w wr) (fun wr => s.size - posOf wr b)
  case atStart => exact ⟨a, Nat.le_refl _, ha, Lib.hid rfl, h, But.refl _ _⟩
  case round =>
    obtain ⟨k, hk1, hk2, hsk, hst, hB⟩ := hrel
    have HST := Lib.hid hst
    obtain ⟨c0, c1, c2, f1, f2⟩ := hst
    by_cases hlt : k < s.size
    · have hlt' := decide_eq_true (show (k : Int) < s.size by omega)
      by_cases hb : s[k] = 32
      · have hbt : ((s[k].toNat : Int) == 32) = true := by rw [hb]; rfl
        have hsn : skipL ((L s).drop k) = skipL ((L s).drop (k + 1)) := skip_step (by rw [get_L s k hlt, hb])
        have HSN := Lib.hid hsn
        clear hsn hb
        go_wp2
        go_quiet (fail)
        go_wp2
        have hst2 : St ((wr.drewN nq).setCell ⟨b, 1, none⟩ (.int .i64 (↑k + 1))) b s (k + 1) p := by simpa using (HST.out.drewN nq).setAt (k + 1)
        go_roundw
        case rel => exact ⟨k + 1, by omega, by omega, Lib.hid (by rw [← HSN.out]; exact hsk.out), hst2, (hB.drewN _).setCell 1 _⟩
        case measure => exact done_less HST.out hst2 (by omega) (by omega)
      · have hbt : ((s[k].toNat : Int) == 32) = false := by
          rw [beq_eq_false_iff_ne]
          intro e
          exact hb (UInt8.toNat_inj.1 (by simpa using (by omega : s[k].toNat = 32)))
        have hsn : skipL ((L s).drop k) = (L s).drop k := skip_stop (get_L s k hlt) hb
        have HSN := Lib.hid hsn
        clear hsn hb
        go_wp2
        go_quiet (fail)
        go_wp2
        go_quiet (fail)
        go_wp2
        go_ret
        exact ⟨k, hk1, hk2, by rw [← HSN.out]; exact hsk.out, by rw [decide_eq_true hlt]; rfl, ((HST.out.drewN _).drewN _), ((hB.drewN _).drewN _)⟩
    · obtain rfl : k = s.size := by omega
      have hlt' := decide_eq_false (show ¬ (s.size : Int) < s.size by omega)
      have hsn : skipL ((L s).drop s.size) = (L s).drop s.size := by
        rw [← len_L s, skip_end, List.drop_length]
      have HSN := Lib.hid hsn
      clear hsn
      go_wp2
      go_quiet (fail)
      go_wp2
      go_quiet (fail)
      go_wp2
      go_ret
      exact ⟨s.size, hk1, hk2, by rw [← HSN.out]; exact hsk.out, by rw [decide_eq_false (Nat.lt_irrefl _)]; rfl, ((HST.out.drewN _).drewN _), ((hB.drewN _).drewN _)⟩

theorem digits_calls (c : UInt8) (w : World) : Calls Tryz.prog 218 #[.int .u8 c.toNat] w fun e w' => e = .returned (.bool (isDigit c)) ∧ w' = w := by
  have hc : c.toNat < 256 := c.toNat_lt
  by_cases h1 : 48 ≤ c.toNat
  · by_cases h2 : c.toNat ≤ 57
    · have e : isDigit c = true := decide_eq_true ⟨h1, h2⟩
      rw [e]
      go_enter Tryz.func218, Tryz.ntmps218
      go_wp2
      go_ret
      exact ⟨by simp <;> omega, rfl⟩
    · have e : isDigit c = false := decide_eq_false (by omega)
      rw [e]
      go_enter Tryz.func218, Tryz.ntmps218
      go_wp2
      go_ret
      exact ⟨by simp <;> omega, rfl⟩
  · have e : isDigit c = false := decide_eq_false (by omega)
    rw [e]
    go_enter Tryz.func218, Tryz.ntmps218
    go_wp2
    go_ret
    exact ⟨by simp <;> omega, rfl⟩
theorem letters_calls (c : UInt8) (w : World) : Calls Tryz.prog 222 #[.int .u8 c.toNat] w fun e w' => e = .returned (.bool (isLetter c)) ∧ w' = w := by
  have hc : c.toNat < 256 := c.toNat_lt
  by_cases h1 : 97 ≤ c.toNat
  · by_cases h2 : c.toNat ≤ 122
    · have e : isLetter c = true := decide_eq_true (.inl ⟨h1, h2⟩)
      rw [e]
      go_enter Tryz.func222, Tryz.ntmps222
      go_wp2
      go_ret
      exact ⟨by simp <;> omega, rfl⟩
    · have e : isLetter c = false := decide_eq_false (by omega)
      rw [e]
      go_enter Tryz.func222, Tryz.ntmps222
      go_wp2
      all_goals (go_ret; exact ⟨by simp <;> omega, rfl⟩)
  · by_cases h3 : 65 ≤ c.toNat ∧ c.toNat ≤ 90
    · have e : isLetter c = true := decide_eq_true (.inr h3)
      obtain ⟨h4, h5⟩ := h3
      rw [e]
      go_enter Tryz.func222, Tryz.ntmps222
      go_wp2
      all_goals (go_ret; exact ⟨by simp <;> omega, rfl⟩)
    · have e : isLetter c = false := decide_eq_false (by omega)
      rw [e]
      go_enter Tryz.func222, Tryz.ntmps222
      go_wp2
      all_goals (go_ret; exact ⟨by simp <;> omega, rfl⟩)

theorem more_drewN {w wr : World} (h : ∃ m, wr = w.drewN m) (n : Nat) : ∃ m, wr.drewN n = w.drewN m := by
  obtain ⟨m, rfl⟩ := h
  exact ⟨m + n, World.drewN_drewN _ _ _⟩
set_option maxHeartbeats 1000000 in
set_option maxRecDepth 100000 in
theorem run_calls (K : Nat) (q : UInt8 → Bool) (hK : ∀ (c : UInt8) (X : World), Calls Tryz.prog K #[.int .u8 c.toNat] X fun e w' => e = .returned (.bool (q c)) ∧ w' = X)
    (hE : ∀ (args : Array Value) (X : World), (callFunc K args).run Tryz.prog X = .ok (.enter K args) X)
    (s : ByteArray) (b a p : Nat) (w : World) (hs : s.size ≤ 200) (ha : a ≤ s.size) (h : St w b s a p) :
    Calls Tryz.prog 217 #[.pointer (some ⟨b, 0, none⟩), .func (.func K) #[] #[]] w fun e w' => e = .returned (.int .i64 (run q ((L s).drop a) : Nat)) ∧ ∃ n, w' = w.drewN n := by
  have HST := Lib.hid h
  clear h
  go_enter Tryz.func217, Tryz.ntmps217
  go_wp2
  go_loopw [5] (fun i wr => ∃ n : Nat, a + n ≤ s.size ∧ i = .int .i64 (n : Int) ∧ Hid (run q ((L s).drop a) = n + run q ((L s).drop (a + n))) ∧ Hid (∃ m, wr = w.drewN m)) (fun i _ => s.size - (intOf i).toNat)
  case atStart => exact ⟨0, by omega, rfl, Lib.hid (by simp), Lib.hid ⟨0, rfl⟩⟩
  case round =>
    obtain ⟨n, hn, rfl, hr, hw⟩ := hrel
    have hst : St wr b s a p := by
      obtain ⟨m, e⟩ := hw.out
      rw [e]
      exact HST.out.drewN m
    obtain ⟨c0, c1, c2, f1, f2⟩ := hst
    have hn0 : (0 : Int) ≤ (a : Int) + n := by omega
    by_cases hlt : a + n < s.size
    · have hlt' : (a : Int) + n < s.size := by omega
      obtain ⟨bq, hbq⟩ : ∃ x, x = q s[a + n] := ⟨_, rfl⟩
      have hk := fun X : World => hK s[a + n] X
      rw [← hbq] at hk
      have HBQ := Lib.hid hbq
      have HK := Lib.hid hk
      clear hbq hk hK
      cases bq
      · go_wp2
        go_quiet (exact Calls.quiet_of_same (HK.out _))
        go_wp2
        go_ret
        exact ⟨by rw [run_stop (get_L s _ hlt) HBQ.out.symm hr.out]; rfl, more_drewN hw.out nq⟩
      · go_wp2
        go_quiet (exact Calls.quiet_of_same (HK.out _))
        go_wp2
        go_roundw
        case rel => exact ⟨n + 1, by omega, by go_num, Lib.hid (run_step (get_L s _ hlt) HBQ.out.symm hr.out), Lib.hid (more_drewN hw.out nq)⟩
        case measure => simp [intOf]; omega
    · have hlt' : ¬ (a : Int) + n < s.size := by omega
      have hltd := decide_eq_false hlt'
      go_wp2
      go_quiet (fail)
      go_wp2
      go_ret
      exact ⟨by rw [run_over (by rw [len_L]; omega) hr.out]; rfl, more_drewN hw.out nq⟩

/-- where reading gave up, and why. -/
def FaultAt (w : World) (f : Nat) (code : Int) : Prop := (∃ n : Int, w.cell? ⟨f, 0, none⟩ = some (.int .i64 n)) ∧ w.cell? ⟨f, 1, none⟩ = some (.int .i64 code)
def PartPost (s : ByteArray) (b a p n : Nat) (w : World) (e : Ending) (w' : World) : Prop :=
  But b w w' ∧ ((64 < p + 1 ∧ ∃ f, w.heap.size ≤ f ∧ e = .returned (.pointer (some ⟨f, 0, none⟩)) ∧ FaultAt w' f 5) ∨ (¬ 64 < p + 1 ∧ e = .returned (.pointer none) ∧ St w' b s (a + n) (p + 1)))
set_option maxHeartbeats 1000000 in
theorem part_calls (s : ByteArray) (b a p n : Nat) (w : World) (hs : s.size ≤ 200) (ha : a + n ≤ s.size) (hp : p ≤ 64) (h : St w b s a p) :
    Calls Tryz.prog 191 #[.pointer (some ⟨b, 0, none⟩), .int .i64 n] w (PartPost s b a p n w) := by
  have HST := Lib.hid h
  have hb := h.lt
  obtain ⟨c0, c1, c2, f1, f2⟩ := h
  by_cases h64 : 64 < p + 1
  · have h64' : (64 : Int) < (p : Int) + 1 := by omega
    go_enter Tryz.func191, Tryz.ntmps191
    go_wp2
    go_ret
    exact ⟨((But.refl b w).setCell 2 _).alloc _, .inl ⟨h64, w.heap.size, Nat.le_refl _, by simp, ⟨_, cell_new (by simp) rfl⟩, cell_new (by simp) rfl⟩⟩
  · have h64' : ¬ (64 : Int) < (p : Int) + 1 := by omega
    go_enter Tryz.func191, Tryz.ntmps191
    go_wp2
    go_ret
    exact ⟨((But.refl b w).setCell 2 _).setCell 1 _, .inr ⟨h64, rfl, by simpa using (HST.out.setParts (p + 1)).setAt (a + n)⟩⟩
theorem skip_none {s : ByteArray} {b a p : Nat} {w : World} (hs : s.size ≤ 200) (ha : a ≤ s.size) (h : St w b s a p) (hn : skipL ((L s).drop a) = []) :
    Calls Tryz.prog 176 #[.pointer (some ⟨b, 0, none⟩)] w fun e w' => e = .returned (.bool false) ∧ St w' b s s.size p ∧ But b w w' :=
  (skip_calls s b a p w hs ha h).mono fun e w' ⟨k, h1, h2, h3, he, hst, hB⟩ => by
    rw [hn, List.drop_eq_nil_iff, len_L] at h3
    obtain rfl : k = s.size := by omega
    rw [decide_eq_false (Nat.lt_irrefl _)] at he
    exact ⟨he, hst, hB⟩
theorem skip_some {s : ByteArray} {b a p : Nat} {w : World} (hs : s.size ≤ 200) (ha : a ≤ s.size) (h : St w b s a p) {c : UInt8} {r : List UInt8} (hn : skipL ((L s).drop a) = c :: r) :
    Calls Tryz.prog 176 #[.pointer (some ⟨b, 0, none⟩)] w fun e w' => ∃ k, a ≤ k ∧ k < s.size ∧ (L s).drop k = c :: r ∧ e = .returned (.bool true) ∧ St w' b s k p ∧ But b w w' :=
  (skip_calls s b a p w hs ha h).mono fun e w' ⟨k, h1, h2, h3, he, hst, hB⟩ => by
    rw [hn] at h3
    have hk : k < s.size := by
      apply Decidable.byContradiction
      intro hk
      rw [List.drop_eq_nil_of_le (by rw [len_L]; omega)] at h3
      cases h3
    rw [decide_eq_true hk] at he
    exact ⟨k, h1, hk, h3, he, hst, hB⟩
theorem at_drop {s : ByteArray} {k : Nat} {c : UInt8} {r : List UInt8} (h : (L s).drop k = c :: r) (hk : k < s.size) : s[k] = c := by
  have h2 := get_L s k hk
  have h3 : ((L s).drop k)[0]? = some c := by rw [h]; rfl
  rw [List.getElem?_drop, Nat.add_zero, h2] at h3
  exact Option.some.inj h3
theorem drop_next {s : ByteArray} {k : Nat} {c : UInt8} {r : List UInt8} (h : (L s).drop k = c :: r) : (L s).drop (k + 1) = r := by
  rw [← List.drop_drop, h]
  rfl
theorem drop_len {s : ByteArray} {k : Nat} {r : List UInt8} (h : (L s).drop k = r) (hk : k ≤ s.size) : k + r.length = s.size := by
  rw [← h, List.length_drop, len_L]
  omega

def OpPost (s : ByteArray) (b a p : Nat) (w : World) (e : Ending) (w' : World) : Prop :=
  ∃ k, a ≤ k ∧ k ≤ s.size ∧ (L s).drop k = skipL ((L s).drop a) ∧ e = .returned (.string ⟨(opT ((L s).drop k)).toArray⟩) ∧ St w' b s k p ∧ But b w w'
set_option maxHeartbeats 1000000 in
theorem operator_none (s : ByteArray) (b a p : Nat) (w : World) (hs : s.size ≤ 200) (ha : a ≤ s.size) (h : St w b s a p) (hn : skipL ((L s).drop a) = []) :
    Calls Tryz.prog 189 #[.pointer (some ⟨b, 0, none⟩)] w (OpPost s b a p w) := by
  have HN := Lib.hid hn
  clear hn
  go_enter Tryz.func189, Tryz.ntmps189
  go_wp2_with (go_at_call 176; go_must (refine (skip_none hs ha h HN.out).mono ?_); rintro e w1 ⟨rfl, hst, hB⟩)
  go_ret
  exact ⟨s.size, ha, Nat.le_refl _, by rw [HN.out, List.drop_eq_nil_iff, len_L]; exact Nat.le_refl _, by rw [List.drop_eq_nil_of_le (by rw [len_L]; exact Nat.le_refl _)]; rfl, hst, hB⟩
end Go.Proofs.YtkjajlolfcioiaaGreatDoor.Expr
