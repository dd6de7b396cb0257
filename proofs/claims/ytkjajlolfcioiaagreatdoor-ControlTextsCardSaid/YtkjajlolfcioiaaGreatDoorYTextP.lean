/- the document's Num, walked: a number's bytes. -/
import Derived.Test.YtkjajlolfcioiaaGreatDoorYPackA
import Derived.Test.YtkjajlolfcioiaaGreatDoorYPackP
import Derived.Test.YtkjajlolfcioiaaGreatDoorYPackD
namespace Go.Proofs.YtkjajlolfcioiaaGreatDoor.Pack
open Go Go.RowKit Go.Proofs Go.Proofs.YtkjajlolfcioiaaGreatDoor Go.Proofs.YtkjajlolfcioiaaGreatDoor.Own Go.Proofs.YtkjajlolfcioiaaGreatDoor.Check
set_option maxHeartbeats 1000000 in
set_option maxRecDepth 100000 in
theorem refnum_calls (x : Int) (hx : I64 x) (w : World) :
    Calls Tryz.prog 95 #[.int .i64 x] w fun e w' => ∃ v', e = .returned v' ∧ w'.ownsRow w.heap.size 5 1 v' (numB x).length (Lib.byteCells (numB x)) ∧ Below w.heap.size w w' := by
  obtain ⟨z, hzz⟩ : ∃ z, Lib.zigzag x = z := ⟨_, rfl⟩
  have hz64 : z < 18446744073709551616 := by rw [← hzz]; exact Lib.zigzag_lt hx.1 hx.2
  have HN := Lib.hid (show numB x = Lib.uvarint z from by unfold numB; rw [hzz])
  have HLEN := Lib.hid (Lib.uvarint_length64 hz64)
  have HZ1 := Lib.hid (show 0 ≤ x → IntKind.u64.wrap (2 * IntKind.u64.wrap x) = (z : Int) from by
    intro h
    obtain ⟨h0, h1⟩ := hx
    rw [IntKind.wrap_u64, IntKind.wrap_u64, ← hzz]
    unfold Lib.zigzag
    rw [if_pos h]
    omega)
  have HZ2 := Lib.hid (show ¬ 0 ≤ x → IntKind.u64.wrap (IntKind.u64.wrap (2 * IntKind.u64.wrap (wrap64 (-wrap64 (x + 1)))) + 1) = (z : Int) from by
    intro h
    obtain ⟨h0, h1⟩ := hx
    rw [IntKind.wrap_u64, IntKind.wrap_u64, IntKind.wrap_u64, ← hzz]
    unfold wrap64
    unfold Lib.zigzag
    rw [if_neg h]
    omega)
  have HX := Lib.hid hx
  have HZB := Lib.hid hz64
  clear hzz hx hz64
  go_enter Tryz.func95, Tryz.ntmps95
  by_cases hn : 0 ≤ x
  · have t0 : decide (x < 0) = false := decide_eq_false (by omega)
    have t1 : decide (0 ≤ x) = true := decide_eq_true (by omega)
    have HNN := Lib.hid hn
    clear hn
    go_wp2_with fail
    rw [HZ1.out HNN.out]
    clear t0 t1
    go_loopw [3, 4] (fun vz vb wr => ∃ (y : Nat) (pre : List UInt8), vz = .int .u64 (y : Int) ∧ y ≤ z ∧ Hid (Lib.uvarint z = pre ++ Lib.uvarint y ∧ wr.ownsRow w.heap.size 5 1 vb pre.length (Lib.byteCells pre) ∧ Below w.heap.size w wr)) (fun vz _ _ => (RowKit.intOf vz).toNat)
    case atStart => exact ⟨z, [], rfl, Nat.le_refl _, Lib.hid ⟨rfl, own_nil _ _ _ _, Below.refl _ _⟩⟩
    case round =>
      obtain ⟨y, pre, rfl, hy, HI⟩ := hrel
      have hpl : pre.length ≤ 10 := by
        have h2 := congrArg List.length HI.out.1
        rw [List.length_append] at h2
        have := HLEN.out
        omega
      by_cases h128 : 128 ≤ y
      · have hw8 : IntKind.u8.wrap ((y : Int) % 128 + 128) = ((y % 128 + 128 : Nat) : Int) := by rw [IntKind.wrap_u8]; omega
        have t1 : decide ((128 : Int) ≤ (y : Int)) = true := decide_eq_true (by omega)
        have hq : IntKind.u64.wrap ((y : Int) / 128) = ((y / 128 : Nat) : Int) := by have := HZB.out; rw [IntKind.wrap_u64]; omega
        go_wp2_with (at_builtin; refine list_app sliceOfByte rfl _ _ rfl (base := w.heap.size) rfl (own_kept HI.out.2.1 ((Below.refl _ _).alloc (Nat.le_refl _) _)) rfl (Src.new wr #[.int .u8 ((y % 128 + 128 : Nat) : Int)] 5 1 1 1 rfl (by intro u hu; simp at hu; subst hu; rfl)) (by unfold maxLen; omega) (by omega) (by have := HI.out.2.2.size; simp; omega) ?_; intro v7 w7 ho7 hB7 hg7)
        have hb : Below w.heap.size w (wr.alloc (.cells #[.int .u8 ((y % 128 + 128 : Nat) : Int)] 5)) := HI.out.2.2.alloc HI.out.2.2.size _
        refine ⟨⟨y / 128, pre ++ [(y % 128 + 128).toUInt8], by simp, by omega, Lib.hid ⟨?_, ?_, hb.trans hB7⟩⟩, by simp only [RowKit.intOf]; omega⟩
        · rw [HI.out.1, Lib.uvarint_big h128]
          simp
        · rw [Lib.byteCells_snoc pre (by omega), List.length_append, List.length_singleton]
          simpa using ho7
      · have hsm : Lib.uvarint y = [y.toUInt8] := Lib.uvarint_small (by omega)
        have hw8 : IntKind.u8.wrap (y : Int) = (y : Int) := by rw [IntKind.wrap_u8]; omega
        have t1 : decide ((128 : Int) ≤ (y : Int)) = false := decide_eq_false (by omega)
        have HSM := Lib.hid hsm
        clear hsm
        go_wp2_with (at_builtin; refine list_app sliceOfByte rfl _ _ rfl (base := w.heap.size) rfl (own_kept HI.out.2.1 ((Below.refl _ _).alloc (Nat.le_refl _) _)) rfl (Src.new wr #[.int .u8 (y : Int)] 5 1 1 1 rfl (by intro u hu; simp at hu; subst hu; rfl)) (by unfold maxLen; omega) (by omega) (by have := HI.out.2.2.size; simp; omega) ?_; intro v7 w7 ho7 hB7 hg7)
        go_ret
        have hnb : numB x = pre ++ [y.toUInt8] := by rw [HN.out, HI.out.1, HSM.out]
        refine ⟨_, rfl, ?_, (HI.out.2.2.alloc HI.out.2.2.size _).trans hB7⟩
        rw [hnb, Lib.byteCells_snoc _ (by omega)]
        simpa [Lib.byteCells, Nat.add_assoc] using ho7
  · have t0 : decide (x < 0) = true := decide_eq_true (by omega)
    have t1 : decide (0 ≤ x) = false := decide_eq_false (by omega)
    have HNN := Lib.hid hn
    clear hn
    go_wp2_with fail
    rw [HZ2.out HNN.out]
    clear t0 t1
    go_loopw [3, 4] (fun vz vb wr => ∃ (y : Nat) (pre : List UInt8), vz = .int .u64 (y : Int) ∧ y ≤ z ∧ Hid (Lib.uvarint z = pre ++ Lib.uvarint y ∧ wr.ownsRow w.heap.size 5 1 vb pre.length (Lib.byteCells pre) ∧ Below w.heap.size w wr)) (fun vz _ _ => (RowKit.intOf vz).toNat)
    case atStart => exact ⟨z, [], rfl, Nat.le_refl _, Lib.hid ⟨rfl, own_nil _ _ _ _, Below.refl _ _⟩⟩
    case round =>
      obtain ⟨y, pre, rfl, hy, HI⟩ := hrel
      have hpl : pre.length ≤ 10 := by
        have h2 := congrArg List.length HI.out.1
        rw [List.length_append] at h2
        have := HLEN.out
        omega
      by_cases h128 : 128 ≤ y
      · have hw8 : IntKind.u8.wrap ((y : Int) % 128 + 128) = ((y % 128 + 128 : Nat) : Int) := by rw [IntKind.wrap_u8]; omega
        have t1 : decide ((128 : Int) ≤ (y : Int)) = true := decide_eq_true (by omega)
        have hq : IntKind.u64.wrap ((y : Int) / 128) = ((y / 128 : Nat) : Int) := by have := HZB.out; rw [IntKind.wrap_u64]; omega
        go_wp2_with (at_builtin; refine list_app sliceOfByte rfl _ _ rfl (base := w.heap.size) rfl (own_kept HI.out.2.1 ((Below.refl _ _).alloc (Nat.le_refl _) _)) rfl (Src.new wr #[.int .u8 ((y % 128 + 128 : Nat) : Int)] 5 1 1 1 rfl (by intro u hu; simp at hu; subst hu; rfl)) (by unfold maxLen; omega) (by omega) (by have := HI.out.2.2.size; simp; omega) ?_; intro v7 w7 ho7 hB7 hg7)
        have hb : Below w.heap.size w (wr.alloc (.cells #[.int .u8 ((y % 128 + 128 : Nat) : Int)] 5)) := HI.out.2.2.alloc HI.out.2.2.size _
        refine ⟨⟨y / 128, pre ++ [(y % 128 + 128).toUInt8], by simp, by omega, Lib.hid ⟨?_, ?_, hb.trans hB7⟩⟩, by simp only [RowKit.intOf]; omega⟩
        · rw [HI.out.1, Lib.uvarint_big h128]
          simp
        · rw [Lib.byteCells_snoc pre (by omega), List.length_append, List.length_singleton]
          simpa using ho7
      · have hsm : Lib.uvarint y = [y.toUInt8] := Lib.uvarint_small (by omega)
        have hw8 : IntKind.u8.wrap (y : Int) = (y : Int) := by rw [IntKind.wrap_u8]; omega
        have t1 : decide ((128 : Int) ≤ (y : Int)) = false := decide_eq_false (by omega)
        have HSM := Lib.hid hsm
        clear hsm
        go_wp2_with (at_builtin; refine list_app sliceOfByte rfl _ _ rfl (base := w.heap.size) rfl (own_kept HI.out.2.1 ((Below.refl _ _).alloc (Nat.le_refl _) _)) rfl (Src.new wr #[.int .u8 (y : Int)] 5 1 1 1 rfl (by intro u hu; simp at hu; subst hu; rfl)) (by unfold maxLen; omega) (by omega) (by have := HI.out.2.2.size; simp; omega) ?_; intro v7 w7 ho7 hB7 hg7)
        go_ret
        have hnb : numB x = pre ++ [y.toUInt8] := by rw [HN.out, HI.out.1, HSM.out]
        refine ⟨_, rfl, ?_, (HI.out.2.2.alloc HI.out.2.2.size _).trans hB7⟩
        rw [hnb, Lib.byteCells_snoc _ (by omega)]
        simpa [Lib.byteCells, Nat.add_assoc] using ho7
end Go.Proofs.YtkjajlolfcioiaaGreatDoor.Pack

/- The document's way to take a number off bytes, in plain words: it is pack's. No program here. -/
namespace Go.Proofs.YtkjajlolfcioiaaGreatDoor.Pack
open Go

/-- how many bytes go on. -/
def scanB : List UInt8 → Nat
  | [] => 0
  | c :: r => if 128 ≤ c.toNat then scanB r + 1 else 0
/-- the bytes' number, the last byte first. -/
def hor : List UInt8 → Nat
  | [] => 0
  | c :: r => c.toNat % 128 + 128 * hor r
theorem scanB_le : ∀ l : List UInt8, scanB l ≤ l.length
  | [] => Nat.le_refl _
  | c :: r => by
    have := scanB_le r
    unfold scanB
    split <;> simp <;> omega
theorem scanB_big : ∀ (l : List UInt8) (i : Nat) (c : UInt8), i < scanB l → l[i]? = some c → 128 ≤ c.toNat
  | [], _, _, h, _ => by simp [scanB] at h
  | d :: r, 0, c, h, e => by
    simp at e
    subst e
    unfold scanB at h
    split at h
    · assumption
    · omega
  | d :: r, i + 1, c, h, e => by
    simp at e
    unfold scanB at h
    split at h
    · exact scanB_big r i c (by omega) e
    · omega
theorem scanB_end : ∀ (l : List UInt8) (c : UInt8), l[scanB l]? = some c → c.toNat < 128
  | [], _, e => by simp [scanB] at e
  | d :: r, c, e => by
    unfold scanB at e
    split at e
    · simp at e
      exact scanB_end r c e
    · simp at e
      subst e
      omega
/-- from where the scan is, it stops or goes on. -/
theorem scanB_eq {l : List UInt8} {n : Nat} (h1 : ∀ i c, i < n → l[i]? = some c → 128 ≤ c.toNat) (h2 : ∀ c, l[n]? = some c → c.toNat < 128) (hn : n ≤ l.length) : scanB l = n := by
  rcases Nat.lt_trichotomy (scanB l) n with h | h | h
  · obtain ⟨c, hc⟩ : ∃ c, l[scanB l]? = some c := ⟨_, List.getElem?_eq_getElem (by omega)⟩
    have := scanB_end l c hc
    have := h1 _ c h hc
    omega
  · exact h
  · have := scanB_le l
    obtain ⟨c, hc⟩ : ∃ c, l[n]? = some c := ⟨_, List.getElem?_eq_getElem (by omega)⟩
    have := h2 c hc
    have := scanB_big l n c h hc
    omega
/-- the document's refusal. -/
def badB (l : List UInt8) (i : Nat) : Prop :=
  l.length ≤ scanB l ∨ 9 < i + scanB l ∨ (0 < i + scanB l ∧ ∃ c, l[scanB l]? = some c ∧ c.toNat = 0) ∨ (i + scanB l = 9 ∧ ∃ c, l[scanB l]? = some c ∧ c.toNat ≠ 1)
theorem badB_more {c : UInt8} {r : List UInt8} {i : Nat} (h : 128 ≤ c.toNat) : badB (c :: r) i ↔ badB r (i + 1) := by
  have e : scanB (c :: r) = scanB r + 1 := by rw [scanB, if_pos h]
  unfold badB
  rw [e]
  simp only [List.length_cons, List.getElem?_cons_succ]
  rw [show i + (scanB r + 1) = i + 1 + scanB r by omega]
  constructor
  · rintro (h | h | h | h)
    · exact .inl (by omega)
    · exact .inr (.inl h)
    · exact .inr (.inr (.inl h))
    · exact .inr (.inr (.inr h))
  · rintro (h | h | h | h)
    · exact .inl (by omega)
    · exact .inr (.inl h)
    · exact .inr (.inr (.inl h))
    · exact .inr (.inr (.inr h))
theorem take_bad : ∀ (l : List UInt8) (i acc : Nat), i ≤ 9 → badB l i → takeL i acc l = none
  | [], _, _, _, _ => rfl
  | c :: r, i, acc, hi, h => by
    rw [takeL]
    by_cases hc : 128 ≤ c.toNat
    · have h2 := (badB_more hc).1 h
      by_cases h9 : i = 9
      · rw [if_pos (.inl ⟨h9, by omega⟩)]
      · rw [if_neg (by omega), if_neg (by omega)]
        exact take_bad r (i + 1) _ (by omega) h2
    · have e : scanB (c :: r) = 0 := by rw [scanB, if_neg hc]
      unfold badB at h
      rw [e] at h
      simp at h
      rw [if_pos]
      rcases h with h | h | h
      · omega
      · exact .inr h
      · exact .inl h
theorem take_good : ∀ (l : List UInt8) (i acc : Nat), i ≤ 9 → ¬ badB l i → takeL i acc l = some (acc + hor (l.take (scanB l + 1)) * 2 ^ (7 * i), l.drop (scanB l + 1))
  | [], i, acc, hi, h => absurd (.inl (by simp [scanB])) h
  | c :: r, i, acc, hi, h => by
    rw [takeL]
    have hq : 2 ^ (7 * (i + 1)) = 128 * 2 ^ (7 * i) := by rw [show 7 * (i + 1) = 7 + 7 * i by omega, Nat.pow_add]
    by_cases hc : 128 ≤ c.toNat
    · have e : scanB (c :: r) = scanB r + 1 := by rw [scanB, if_pos hc]
      have h2 := fun hb => h ((badB_more hc).2 hb)
      by_cases h9 : i = 9
      · exact absurd (.inr (.inl (by omega))) h
      · rw [if_neg (by omega), if_neg (by omega), take_good r (i + 1) _ (by omega) h2, e, hq]
        have e1 : (c :: r).take (scanB r + 1 + 1) = c :: r.take (scanB r + 1) := rfl
        have e2 : (c :: r).drop (scanB r + 1 + 1) = r.drop (scanB r + 1) := rfl
        rw [e1, e2, hor]
        congr 2
        generalize hor (r.take (scanB r + 1)) = H
        generalize 2 ^ (7 * i) = P
        rw [Nat.add_mul, show 128 * H * P = H * (128 * P) from by rw [Nat.mul_comm 128 H, Nat.mul_assoc]]
        omega
    · have e : scanB (c :: r) = 0 := by rw [scanB, if_neg hc]
      unfold badB at h
      rw [e] at h ⊢
      simp at h
      rw [if_neg, if_pos (by omega)]
      · show some (acc + c.toNat * 2 ^ (7 * i), r) = some (acc + (c.toNat % 128 + 128 * 0) * 2 ^ (7 * i), r)
        rw [Nat.mod_eq_of_lt (by omega)]
        rfl
      · rintro (⟨h1, h2⟩ | ⟨h1, h2⟩)
        · exact h2 (h.2.2 h1)
        · exact h.2.1 h1 h2
/-- the number that is taken fits. -/
theorem hor_lt {l : List UInt8} (h : ¬ badB l 0) : hor (l.take (scanB l + 1)) < 18446744073709551616 := by
  have := (takeL_lt l 0 0 _ _ (by omega) (by decide) (take_good l 0 0 (by omega) h)).1
  simpa using this
theorem hor_drop : ∀ (p : List UInt8) (i : Nat), hor (p.drop i) ≤ hor p
  | [], i => by simp
  | c :: r, 0 => Nat.le_refl _
  | c :: r, i + 1 => by
    have := hor_drop r i
    show hor (r.drop i) ≤ _
    rw [hor]
    omega
theorem hor_step {p : List UInt8} {i : Nat} {c : UInt8} (h : p[i]? = some c) : hor (p.drop i) = c.toNat % 128 + 128 * hor (p.drop (i + 1)) := by
  obtain ⟨h1, h2⟩ := List.getElem?_eq_some_iff.1 h
  rw [List.drop_eq_getElem_cons h1, h2, hor]
theorem readN_bad {l : List UInt8} (h : badB l 0) : readN (some l) = (0, none) := by
  have e : readN (some l) = match takeL 0 0 l with
    | none => (0, none)
    | some (z, r) => (Lib.unzigzag z, some r) := rfl
  rw [e, take_bad l 0 0 (by omega) h]
theorem readN_good {l : List UInt8} (h : ¬ badB l 0) : readN (some l) = (Lib.unzigzag (hor (l.take (scanB l + 1))), some (l.drop (scanB l + 1))) := by
  have e : readN (some l) = match takeL 0 0 l with
    | none => (0, none)
    | some (z, r) => (Lib.unzigzag z, some r) := rfl
  rw [e, take_good l 0 0 (by omega) h]
  simp
end Go.Proofs.YtkjajlolfcioiaaGreatDoor.Pack

/- the document's Take, walked: the number with which bytes begin. -/
namespace Go.Proofs.YtkjajlolfcioiaaGreatDoor.Pack
open Go Go.RowKit Go.Proofs Go.Proofs.YtkjajlolfcioiaaGreatDoor Go.Proofs.YtkjajlolfcioiaaGreatDoor.Own Go.Proofs.YtkjajlolfcioiaaGreatDoor.Check
def TakePost (l : List UInt8) (w : World) (e : Ending) (w' : World) : Prop := w' = w ∧
  ((badB l 0 ∧ e = .returned (.tuple #[.int .i64 0, .int .i64 0])) ∨ (¬ badB l 0 ∧ e = .returned (.tuple #[.int .i64 (Lib.unzigzag (hor (l.take (scanB l + 1)))), .int .i64 ((scanB l : Int) + 1)])))
set_option maxHeartbeats 1000000 in
set_option maxRecDepth 100000 in
theorem take_calls (v : Value) (l : List UInt8) (w : World) (h : BytesAt w v l) (hl : l.length ≤ 1000000) :
    Calls Tryz.prog 121 #[v] w (TakePost l w) := by
  obtain ⟨A, c0, rfl, hc0, hr⟩ := h
  have HR := Lib.hid hr
  have HL := Lib.hid hl
  clear hr hl
  go_enter Tryz.func121, Tryz.ntmps121
  go_wp2_with fail
  go_loopw [4] (fun iv wr => wr = w ∧ ∃ n : Nat, n ≤ l.length ∧ iv = .int .i64 (n : Int) ∧ Hid (∀ i c, i < n → l[i]? = some c → 128 ≤ c.toNat)) (fun iv _ => l.length - (RowKit.intOf iv).toNat)
  case atStart => exact ⟨rfl, 0, Nat.zero_le _, rfl, Lib.hid fun i c hi => absurd hi (by omega)⟩
  case round =>
    obtain ⟨hwr, n, hn, rfl, HI⟩ := hrel
    subst hwr
    by_cases hlt : n < l.length
    · have l0 : (n : Int) < (l.length : Int) := by omega
      obtain ⟨b, o, e, hrow⟩ := HR.out (by omega)
      subst e
      obtain ⟨c, hc⟩ : ∃ c, l[n]? = some c := ⟨_, List.getElem?_eq_getElem hlt⟩
      have d := hrow n (.int .u8 (c.toNat : Int)) (by unfold Lib.byteCells; rw [List.getElem?_map, hc]; rfl)
      have hbl := lt_of_cell d
      have HC := Lib.hid hc
      have HROW := Lib.hid hrow
      have hcl : c.toNat < 256 := c.toNat_lt
      have HCL := Lib.hid hcl
      clear hc hrow hcl
      by_cases h128 : 128 ≤ c.toNat
      · have t1 : decide ((128 : Int) ≤ (c.toNat : Int)) = true := decide_eq_true (by omega)
        have hl := HL.out
        go_wp2_with fail
        refine ⟨⟨trivial, n + 1, by omega, by simp, Lib.hid ?_⟩, ?_⟩
        · intro i c' hi hc'
          by_cases e : i = n
          · subst e
            obtain rfl := Option.some.inj (HC.out.symm.trans hc')
            exact h128
          · exact HI.out i c' (by omega) hc'
        · simp only [RowKit.intOf]
          omega
      · have t1 : decide ((128 : Int) ≤ (c.toNat : Int)) = false := decide_eq_false (by omega)
        have HSC := Lib.hid (show scanB l = n from scanB_eq HI.out (fun c' hc' => by obtain rfl := Option.some.inj (HC.out.symm.trans hc'); omega) hn)
        have t2 : decide ((l.length : Int) ≤ (n : Int)) = false := decide_eq_false (by omega)
        have p2 : ¬ l.length ≤ n := by omega
        clear h128
        by_cases h9 : 9 < n
        · have t3 : decide ((9 : Int) < (n : Int)) = true := decide_eq_true (by omega)
          have HB := Lib.hid (show badB l 0 from .inr (.inl (by rw [HSC.out]; omega)))
          clear h9
          go_wp2_with fail
          go_ret2
          exact ⟨rfl, .inl ⟨HB.out, rfl⟩⟩
        · have t3 : decide ((9 : Int) < (n : Int)) = false := decide_eq_false (by omega)
          by_cases h0 : n = 0
          · subst h0
            have HG := Lib.hid (show ¬ badB l 0 from by
              unfold badB
              rw [HSC.out, HC.out]
              rintro (h | h | ⟨h, -⟩ | ⟨h, -⟩) <;> omega)
            have d0 : wr.cell? ⟨b, o, none⟩ = some (.int .u8 (c.toNat : Int)) := d
            have p9 : ¬ l = [] := fun e => by rw [e] at hlt; simp at hlt
            clear h9 d
            obtain ⟨p, hp⟩ : ∃ p, l.take (scanB l + 1) = p := ⟨_, rfl⟩
            have HP := Lib.hid (show (∀ k, k < 0 + 1 → p[k]? = l[k]?) ∧ p.length = 0 + 1 ∧ hor p < 18446744073709551616 from by
              have hsc := HSC.out
              rw [hsc] at hp
              refine ⟨fun k hk => by rw [← hp, List.getElem?_take, if_pos hk], by rw [← hp, List.length_take]; omega, ?_⟩
              have := hor_lt HG.out
              rwa [hsc, hp] at this)
            have HPE := Lib.hid hp
            clear hp
            go_wp2_with fail
            go_loopw [5, 6] (fun zv iv wr2 => wr2 = wr ∧ ∃ (k : Nat) (i : Int), k ≤ 0 + 1 ∧ iv = .int .i64 i ∧ i + 1 = (k : Int) ∧ zv = .int .u64 ((hor (p.drop k) : Nat) : Int)) (fun _ iv _ => (RowKit.intOf iv + 1).toNat)
            case atStart => exact ⟨rfl, 0 + 1, _, Nat.le_refl _, rfl, rfl, by rw [List.drop_of_length_le (by have := HP.out.2.1; omega)]; rfl⟩
            case round =>
              obtain ⟨hwr2, k, i, hk, rfl, hik, rfl⟩ := hrel
              subst hwr2
              cases k with
              | zero =>
                obtain rfl : i = -1 := by omega
                have HZE := Lib.hid (show hor (l.take (scanB l + 1)) = hor (p.drop 0) from by rw [HPE.out]; rfl)
                have hz64 : hor (p.drop 0) < 18446744073709551616 := HP.out.2.2
                generalize hor (p.drop 0) = z at hz64 HZE
                have g1 : IntKind.u64.wrap ((z : Int) / 2) = (z : Int) / 2 := by rw [IntKind.wrap_u64]; omega
                have g2 : wrap64 ((z : Int) / 2) = (z : Int) / 2 := by unfold wrap64; omega
                by_cases hev : z % 2 = 0
                · have e1 : ((z : Int) % 2 == 0) = true := by rw [beq_iff_eq]; omega
                  have e2 : (z : Int) % 2 = 0 := by omega
                  have HU := Lib.hid (show Lib.unzigzag z = wrap64 ((z : Int) / 2) from by rw [g2]; unfold Lib.unzigzag; rw [if_pos hev]; omega)
                  clear hz64 hev
                  go_wp2_with fail
                  go_ret2
                  refine ⟨rfl, .inr ⟨HG.out, ?_⟩⟩
                  rw [HZE.out, HU.out, HSC.out]
                  rfl
                · have e1 : ((z : Int) % 2 == 0) = false := by rw [beq_eq_false_iff_ne]; omega
                  have e2 : ¬ (z : Int) % 2 = 0 := by omega
                  have g3 : wrap64 (-((z : Int) / 2)) = -((z : Int) / 2) := by unfold wrap64; omega
                  have g4 : wrap64 (-((z : Int) / 2) - 1) = -((z : Int) / 2) - 1 := by unfold wrap64; omega
                  have HU := Lib.hid (show Lib.unzigzag z = wrap64 (-((z : Int) / 2) - 1) from by rw [g4]; unfold Lib.unzigzag; rw [if_neg hev]; omega)
                  clear hz64 hev
                  go_wp2_with fail
                  go_ret2
                  refine ⟨rfl, .inr ⟨HG.out, ?_⟩⟩
                  rw [HZE.out, HU.out, HSC.out]
                  rfl
              | succ k =>
                obtain rfl : i = (k : Int) := by omega
                obtain ⟨ck, hck⟩ : ∃ ck, l[k]? = some ck := ⟨_, List.getElem?_eq_getElem (by omega)⟩
                have dk := HROW.out k (.int .u8 (ck.toNat : Int)) (by unfold Lib.byteCells; rw [List.getElem?_map, hck]; rfl)
                have hck2 := (HP.out.1 k (by omega)).trans hck
                have hst := hor_step hck2
                have hle := hor_drop p k
                have hlt := HP.out.2.2
                have hc8 : ck.toNat < 256 := ck.toNat_lt
                have hkl : k < l.length := by omega
                have hl := HL.out
                have l1 : (k : Int) < (l.length : Int) := by omega
                obtain ⟨Z1, hZ1⟩ : ∃ Z, hor (p.drop (k + 1)) = Z := ⟨_, rfl⟩
                obtain ⟨Z0, hZ0⟩ : ∃ Z, hor (p.drop k) = Z := ⟨_, rfl⟩
                rw [hZ1, hZ0] at hst
                rw [hZ0] at hle
                rw [hZ1]
                have g1 : IntKind.u64.wrap ((Z1 : Int) * 128) = (Z1 : Int) * 128 := by rw [IntKind.wrap_u64]; omega
                have g2 : IntKind.u64.wrap (ck.toNat : Int) = (ck.toNat : Int) := by rw [IntKind.wrap_u64]; omega
                have g4 : IntKind.u64.wrap ((Z1 : Int) * 128 + (ck.toNat : Int) % 128) = (Z0 : Int) := by rw [IntKind.wrap_u64]; omega
                have HZ0 := Lib.hid hZ0
                clear hck hck2 hst hle hlt hZ1 hZ0 hc8
                go_wp2_with fail
                refine ⟨⟨trivial, k, _, by omega, rfl, by omega, by rw [HZ0.out]⟩, by simp only [RowKit.intOf]; omega⟩
          · have p4 : 0 < n := by omega
            have t4 : decide (0 < n) = true := decide_eq_true p4
            by_cases hz : c.toNat = 0
            · have t5 : ((c.toNat : Int) == 0) = true := by rw [hz]; rfl
              have p5 : (c.toNat : Int) = 0 := by omega
              have HB := Lib.hid (show badB l 0 from .inr (.inr (.inl ⟨by rw [HSC.out]; omega, c, by rw [HSC.out]; exact HC.out, hz⟩)))
              clear hz h0 h9
              go_wp2_with fail
              go_ret2
              exact ⟨rfl, .inl ⟨HB.out, rfl⟩⟩
            · have p5 : ¬ (c.toNat : Int) = 0 := by omega
              have t5 : ((c.toNat : Int) == 0) = false := by rw [beq_eq_false_iff_ne]; exact p5
              by_cases hn9 : n = 9
              · subst hn9
                have p3 : (9 : Int) < (l.length : Int) := by omega
                clear l0 t4 p4 t3
                by_cases h1 : c.toNat = 1
                · have t7 : ((c.toNat : Int) == 1) = true := by rw [h1]; rfl
                  have t8 : ((c.toNat : Int) != 1) = false := by rw [h1]; rfl
                  have p7 : (c.toNat : Int) = 1 := by omega
                  have HG := Lib.hid (show ¬ badB l 0 from by
                    unfold badB
                    rw [HSC.out, HC.out]
                    rintro (h | h | ⟨h, c', e, h2⟩ | ⟨h, c', e, h2⟩)
                    · omega
                    · omega
                    · obtain rfl := Option.some.inj e; omega
                    · obtain rfl := Option.some.inj e; omega)
                  clear hz h0 h9 h1
                  obtain ⟨p, hp⟩ : ∃ p, l.take (scanB l + 1) = p := ⟨_, rfl⟩
                  have HP := Lib.hid (show (∀ k, k < 9 + 1 → p[k]? = l[k]?) ∧ p.length = 9 + 1 ∧ hor p < 18446744073709551616 from by
                    have hsc := HSC.out
                    rw [hsc] at hp
                    refine ⟨fun k hk => by rw [← hp, List.getElem?_take, if_pos hk], by rw [← hp, List.length_take]; omega, ?_⟩
                    have := hor_lt HG.out
                    rwa [hsc, hp] at this)
                  have HPE := Lib.hid hp
                  clear hp
                  go_wp2_with fail
                  go_loopw [5, 6] (fun zv iv wr2 => wr2 = wr ∧ ∃ (k : Nat) (i : Int), k ≤ 9 + 1 ∧ iv = .int .i64 i ∧ i + 1 = (k : Int) ∧ zv = .int .u64 ((hor (p.drop k) : Nat) : Int)) (fun _ iv _ => (RowKit.intOf iv + 1).toNat)
                  case atStart => exact ⟨rfl, 9 + 1, _, Nat.le_refl _, rfl, rfl, by rw [List.drop_of_length_le (by have := HP.out.2.1; omega)]; rfl⟩
                  case round =>
                    obtain ⟨hwr2, k, i, hk, rfl, hik, rfl⟩ := hrel
                    subst hwr2
                    cases k with
                    | zero =>
                      obtain rfl : i = -1 := by omega
                      have HZE := Lib.hid (show hor (l.take (scanB l + 1)) = hor (p.drop 0) from by rw [HPE.out]; rfl)
                      have hz64 : hor (p.drop 0) < 18446744073709551616 := HP.out.2.2
                      generalize hor (p.drop 0) = z at hz64 HZE
                      have g1 : IntKind.u64.wrap ((z : Int) / 2) = (z : Int) / 2 := by rw [IntKind.wrap_u64]; omega
                      have g2 : wrap64 ((z : Int) / 2) = (z : Int) / 2 := by unfold wrap64; omega
                      by_cases hev : z % 2 = 0
                      · have e1 : ((z : Int) % 2 == 0) = true := by rw [beq_iff_eq]; omega
                        have e2 : (z : Int) % 2 = 0 := by omega
                        have HU := Lib.hid (show Lib.unzigzag z = wrap64 ((z : Int) / 2) from by rw [g2]; unfold Lib.unzigzag; rw [if_pos hev]; omega)
                        clear hz64 hev
                        go_wp2_with fail
                        go_ret2
                        refine ⟨rfl, .inr ⟨HG.out, ?_⟩⟩
                        rw [HZE.out, HU.out, HSC.out]
                        rfl
                      · have e1 : ((z : Int) % 2 == 0) = false := by rw [beq_eq_false_iff_ne]; omega
                        have e2 : ¬ (z : Int) % 2 = 0 := by omega
                        have g3 : wrap64 (-((z : Int) / 2)) = -((z : Int) / 2) := by unfold wrap64; omega
                        have g4 : wrap64 (-((z : Int) / 2) - 1) = -((z : Int) / 2) - 1 := by unfold wrap64; omega
                        have HU := Lib.hid (show Lib.unzigzag z = wrap64 (-((z : Int) / 2) - 1) from by rw [g4]; unfold Lib.unzigzag; rw [if_neg hev]; omega)
                        clear hz64 hev
                        go_wp2_with fail
                        go_ret2
                        refine ⟨rfl, .inr ⟨HG.out, ?_⟩⟩
                        rw [HZE.out, HU.out, HSC.out]
                        rfl
                    | succ k =>
                      obtain rfl : i = (k : Int) := by omega
                      obtain ⟨ck, hck⟩ : ∃ ck, l[k]? = some ck := ⟨_, List.getElem?_eq_getElem (by omega)⟩
                      have dk := HROW.out k (.int .u8 (ck.toNat : Int)) (by unfold Lib.byteCells; rw [List.getElem?_map, hck]; rfl)
                      have hck2 := (HP.out.1 k (by omega)).trans hck
                      have hst := hor_step hck2
                      have hle := hor_drop p k
                      have hlt := HP.out.2.2
                      have hc8 : ck.toNat < 256 := ck.toNat_lt
                      have hkl : k < l.length := by omega
                      have hl := HL.out
                      have l1 : (k : Int) < (l.length : Int) := by omega
                      obtain ⟨Z1, hZ1⟩ : ∃ Z, hor (p.drop (k + 1)) = Z := ⟨_, rfl⟩
                      obtain ⟨Z0, hZ0⟩ : ∃ Z, hor (p.drop k) = Z := ⟨_, rfl⟩
                      rw [hZ1, hZ0] at hst
                      rw [hZ0] at hle
                      rw [hZ1]
                      have g1 : IntKind.u64.wrap ((Z1 : Int) * 128) = (Z1 : Int) * 128 := by rw [IntKind.wrap_u64]; omega
                      have g2 : IntKind.u64.wrap (ck.toNat : Int) = (ck.toNat : Int) := by rw [IntKind.wrap_u64]; omega
                      have g4 : IntKind.u64.wrap ((Z1 : Int) * 128 + (ck.toNat : Int) % 128) = (Z0 : Int) := by rw [IntKind.wrap_u64]; omega
                      have HZ0 := Lib.hid hZ0
                      clear hck hck2 hst hle hlt hZ1 hZ0 hc8
                      go_wp2_with fail
                      refine ⟨⟨trivial, k, _, by omega, rfl, by omega, by rw [HZ0.out]⟩, by simp only [RowKit.intOf]; omega⟩
                · have p7 : ¬ (c.toNat : Int) = 1 := by omega
                  have t7 : ((c.toNat : Int) == 1) = false := by rw [beq_eq_false_iff_ne]; exact p7
                  have t8 : ((c.toNat : Int) != 1) = true := by rw [bne_iff_ne]; exact p7
                  have HB := Lib.hid (show badB l 0 from .inr (.inr (.inr ⟨by have := HSC.out; omega, c, by rw [HSC.out]; exact HC.out, h1⟩)))
                  clear hz h0 h9 h1
                  go_wp2_with fail
                  go_ret2
                  exact ⟨rfl, .inl ⟨HB.out, rfl⟩⟩
              · have p6 : ¬ (n : Int) = 9 := by omega
                have t6 : ((n : Int) == 9) = false := by rw [beq_eq_false_iff_ne]; exact p6
                have HG := Lib.hid (show ¬ badB l 0 from by
                  unfold badB
                  rw [HSC.out, HC.out]
                  rintro (h | h | ⟨h, c', e, h2⟩ | ⟨h, c', e, h2⟩)
                  · omega
                  · omega
                  · obtain rfl := Option.some.inj e; omega
                  · omega)
                clear hz h0 h9 hn9
                obtain ⟨p, hp⟩ : ∃ p, l.take (scanB l + 1) = p := ⟨_, rfl⟩
                have HP := Lib.hid (show (∀ k, k < n + 1 → p[k]? = l[k]?) ∧ p.length = n + 1 ∧ hor p < 18446744073709551616 from by
                  have hsc := HSC.out
                  rw [hsc] at hp
                  refine ⟨fun k hk => by rw [← hp, List.getElem?_take, if_pos hk], by rw [← hp, List.length_take]; omega, ?_⟩
                  have := hor_lt HG.out
                  rwa [hsc, hp] at this)
                have HPE := Lib.hid hp
                clear hp
                go_wp2_with fail
                go_loopw [5, 6] (fun zv iv wr2 => wr2 = wr ∧ ∃ (k : Nat) (i : Int), k ≤ n + 1 ∧ iv = .int .i64 i ∧ i + 1 = (k : Int) ∧ zv = .int .u64 ((hor (p.drop k) : Nat) : Int)) (fun _ iv _ => (RowKit.intOf iv + 1).toNat)
                case atStart => exact ⟨rfl, n + 1, _, Nat.le_refl _, rfl, rfl, by rw [List.drop_of_length_le (by have := HP.out.2.1; omega)]; rfl⟩
                case round =>
                  obtain ⟨hwr2, k, i, hk, rfl, hik, rfl⟩ := hrel
                  subst hwr2
                  cases k with
                  | zero =>
                    obtain rfl : i = -1 := by omega
                    have HZE := Lib.hid (show hor (l.take (scanB l + 1)) = hor (p.drop 0) from by rw [HPE.out]; rfl)
                    have hz64 : hor (p.drop 0) < 18446744073709551616 := HP.out.2.2
                    generalize hor (p.drop 0) = z at hz64 HZE
                    have g1 : IntKind.u64.wrap ((z : Int) / 2) = (z : Int) / 2 := by rw [IntKind.wrap_u64]; omega
                    have g2 : wrap64 ((z : Int) / 2) = (z : Int) / 2 := by unfold wrap64; omega
                    by_cases hev : z % 2 = 0
                    · have e1 : ((z : Int) % 2 == 0) = true := by rw [beq_iff_eq]; omega
                      have e2 : (z : Int) % 2 = 0 := by omega
                      have HU := Lib.hid (show Lib.unzigzag z = wrap64 ((z : Int) / 2) from by rw [g2]; unfold Lib.unzigzag; rw [if_pos hev]; omega)
                      clear hz64 hev
                      go_wp2_with fail
                      go_ret2
                      refine ⟨rfl, .inr ⟨HG.out, ?_⟩⟩
                      rw [HZE.out, HU.out, HSC.out]
                      show Ending.returned (.tuple #[_, .int .i64 (wrap64 ((n : Int) + 1))]) = _
                      rw [show wrap64 ((n : Int) + 1) = (n : Int) + 1 from by have := HL.out; unfold wrap64; omega]
                      rfl
                    · have e1 : ((z : Int) % 2 == 0) = false := by rw [beq_eq_false_iff_ne]; omega
                      have e2 : ¬ (z : Int) % 2 = 0 := by omega
                      have g3 : wrap64 (-((z : Int) / 2)) = -((z : Int) / 2) := by unfold wrap64; omega
                      have g4 : wrap64 (-((z : Int) / 2) - 1) = -((z : Int) / 2) - 1 := by unfold wrap64; omega
                      have HU := Lib.hid (show Lib.unzigzag z = wrap64 (-((z : Int) / 2) - 1) from by rw [g4]; unfold Lib.unzigzag; rw [if_neg hev]; omega)
                      clear hz64 hev
                      go_wp2_with fail
                      go_ret2
                      refine ⟨rfl, .inr ⟨HG.out, ?_⟩⟩
                      rw [HZE.out, HU.out, HSC.out]
                      show Ending.returned (.tuple #[_, .int .i64 (wrap64 ((n : Int) + 1))]) = _
                      rw [show wrap64 ((n : Int) + 1) = (n : Int) + 1 from by have := HL.out; unfold wrap64; omega]
                      rfl
                  | succ k =>
                    obtain rfl : i = (k : Int) := by omega
                    obtain ⟨ck, hck⟩ : ∃ ck, l[k]? = some ck := ⟨_, List.getElem?_eq_getElem (by omega)⟩
                    have dk := HROW.out k (.int .u8 (ck.toNat : Int)) (by unfold Lib.byteCells; rw [List.getElem?_map, hck]; rfl)
                    have hck2 := (HP.out.1 k (by omega)).trans hck
                    have hst := hor_step hck2
                    have hle := hor_drop p k
                    have hlt := HP.out.2.2
                    have hc8 : ck.toNat < 256 := ck.toNat_lt
                    have hkl : k < l.length := by omega
                    have hl := HL.out
                    have l1 : (k : Int) < (l.length : Int) := by omega
                    obtain ⟨Z1, hZ1⟩ : ∃ Z, hor (p.drop (k + 1)) = Z := ⟨_, rfl⟩
                    obtain ⟨Z0, hZ0⟩ : ∃ Z, hor (p.drop k) = Z := ⟨_, rfl⟩
                    rw [hZ1, hZ0] at hst
                    rw [hZ0] at hle
                    rw [hZ1]
                    have g1 : IntKind.u64.wrap ((Z1 : Int) * 128) = (Z1 : Int) * 128 := by rw [IntKind.wrap_u64]; omega
                    have g2 : IntKind.u64.wrap (ck.toNat : Int) = (ck.toNat : Int) := by rw [IntKind.wrap_u64]; omega
                    have g4 : IntKind.u64.wrap ((Z1 : Int) * 128 + (ck.toNat : Int) % 128) = (Z0 : Int) := by rw [IntKind.wrap_u64]; omega
                    have HZ0 := Lib.hid hZ0
                    clear hck hck2 hst hle hlt hZ1 hZ0 hc8
                    go_wp2_with fail
                    refine ⟨⟨trivial, k, _, by omega, rfl, by omega, by rw [HZ0.out]⟩, by simp only [RowKit.intOf]; omega⟩
    · obtain rfl : n = l.length := by omega
      have t2 : decide ((l.length : Int) ≤ (l.length : Int)) = true := decide_eq_true (by omega)
      have HSC := Lib.hid (show scanB l = l.length from scanB_eq HI.out (fun c' hc' => by simp at hc') (Nat.le_refl _))
      have HB := Lib.hid (show badB l 0 from .inl (by rw [HSC.out]; omega))
      go_wp2_with fail
      go_ret2
      exact ⟨rfl, .inl ⟨HB.out, rfl⟩⟩
end Go.Proofs.YtkjajlolfcioiaaGreatDoor.Pack

/- the document's reader, walked. -/
namespace Go.Proofs.YtkjajlolfcioiaaGreatDoor.Pack
open Go Go.RowKit Go.Proofs Go.Proofs.YtkjajlolfcioiaaGreatDoor Go.Proofs.YtkjajlolfcioiaaGreatDoor.Own Go.Proofs.YtkjajlolfcioiaaGreatDoor.Tail Go.Proofs.YtkjajlolfcioiaaGreatDoor.Check Go.Proofs.YtkjajlolfcioiaaGreatDoor.Ctl Go.Proofs.YtkjajlolfcioiaaGreatDoor.Control
/-- the document's reader in memory. -/
def RfAt (w : World) (rb : Nat) : Rd → Prop
  | none => ∃ v, w.heap[rb]? = some (.cells #[v, .bool true] 155)
  | some l => ∃ v, w.heap[rb]? = some (.cells #[v, .bool false] 155) ∧ BytesAt w v l ∧ ∀ ad n c, v = .slice (some ad) n c → ad.block < rb
theorem RfAt.lt {w : World} {rb : Nat} {q : Rd} (h : RfAt w rb q) : rb < w.heap.size := by
  cases q with
  | none => exact (Array.getElem?_eq_some_iff.1 h.choose_spec).1
  | some l => exact (Array.getElem?_eq_some_iff.1 h.choose_spec.1).1
theorem RfAt.keep {w w' : World} {rb : Nat} {q : Rd} (h : RfAt w rb q) (k : ∀ i, i ≤ rb → w'.heap[i]? = w.heap[i]?) : RfAt w' rb q := by
  cases q with
  | none =>
    obtain ⟨v, h1⟩ := h
    exact ⟨v, (k rb (Nat.le_refl _)).trans h1⟩
  | some l =>
    obtain ⟨v, h1, ⟨A, c, e, hc, hr⟩, h3⟩ := h
    refine ⟨v, (k rb (Nat.le_refl _)).trans h1, ⟨A, c, e, hc, fun h0 => ?_⟩, h3⟩
    obtain ⟨b, o, ea, hcells⟩ := hr h0
    refine ⟨b, o, ea, fun j u hj => ?_⟩
    have hb : b < rb := h3 ⟨b, o, none⟩ l.length c (by rw [e, ea])
    exact (World.cell?_of_block (k b (by omega))).trans (hcells j u hj)
theorem RfAt.below {w w' : World} {rb : Nat} {q : Rd} (h : RfAt w rb q) (k : Below w.heap.size w w') : RfAt w' rb q :=
  h.keep fun i hi => k.block i (Nat.lt_of_le_of_lt hi h.lt)
theorem RfAt.set {w : World} {rb c0 i : Nat} {q : Rd} {u : Value} (h : RfAt w rb q) (hne : rb < c0) : RfAt (w.setCell ⟨c0, i, none⟩ u) rb q :=
  h.keep fun j hj => Below.heap_setCell _ _ _ _ (fun e => by have e : j = c0 := e; omega)
theorem rf_drop {w : World} {rb b0 o0 c : Nat} {l : List UInt8} (h : w.heap[rb]? = some (.cells #[.slice (some ⟨b0, o0, none⟩) l.length c, .bool false] 155)) (hA : BytesAt w (.slice (some ⟨b0, o0, none⟩) l.length c) l) (k : Nat) (A' : Option Addr) (c' : Nat)
    (h1 : l.length - (k + 1) ≤ c') (h2 : 0 < l.length - (k + 1) → A' = some ⟨b0, o0 + (k + 1), none⟩) (h3 : ∀ ad, A' = some ad → ad.block = b0) (hlt : b0 < rb) :
    RfAt (w.setCell ⟨rb, 0, none⟩ (.slice A' (l.length - (k + 1)) c')) rb (some (l.drop (k + 1))) ∧ But rb w (w.setCell ⟨rb, 0, none⟩ (.slice A' (l.length - (k + 1)) c')) := by
  have hb : But rb w (w.setCell ⟨rb, 0, none⟩ (.slice A' (l.length - (k + 1)) c')) := (But.refl _ _).setCell _ _
  refine ⟨⟨.slice A' (l.length - (k + 1)) c', ?_, ?_, fun ad n c e => by have e1 := (Value.slice.inj e).1; rw [h3 ad e1]; exact hlt⟩, hb⟩
  · rw [set_heap (i := 0) _ h]
    rfl
  · have hA2 := slice_other hA h (by intro u hu n; simp at hu; rcases hu with rfl | rfl <;> simp) hb
    obtain ⟨A, c2, e, -, hr⟩ := hA2
    refine ⟨A', c', by rw [List.length_drop], by rw [List.length_drop]; exact h1, fun h0 => ?_⟩
    rw [List.length_drop] at h0
    refine ⟨b0, o0 + (k + 1), h2 h0, fun j u hj => ?_⟩
    obtain ⟨b, o, ea, hcells⟩ := hr (by omega)
    rw [ea] at e
    obtain ⟨rfl, rfl⟩ : b0 = b ∧ o0 = o := by simpa using (Value.slice.inj e).1
    have := hcells (k + 1 + j) u (by unfold Lib.byteCells at hj ⊢; rw [List.map_drop, List.getElem?_drop] at hj; exact hj)
    rwa [← Nat.add_assoc] at this
set_option maxHeartbeats 1000000 in
set_option maxRecDepth 100000 in
theorem readRef_calls (rb : Nat) (q : Rd) (w : World) (h : RfAt w rb q) (hl : RdLe 1000000 q) :
    Calls Tryz.prog 96 #[.pointer (some ⟨rb, 0, none⟩)] w fun e w' => e = .returned (.int .i64 (readN q).1) ∧ RfAt w' rb (readN q).2 ∧ But rb w w' := by
  cases q with
  | none =>
    obtain ⟨v, hb⟩ := h
    have h1 : w.cell? ⟨rb, 1, none⟩ = some (.bool true) := by rw [cell_of_row _ _ _ _ _ _ hb]; rfl
    have HB := Lib.hid hb
    clear hb hl
    go_enter Tryz.func96, Tryz.ntmps96
    go_wp2_with fail
    go_ret
    exact ⟨rfl, ⟨v, HB.out⟩, But.refl _ _⟩
  | some l =>
    obtain ⟨v, hb, hA, hub⟩ := h
    have HTK := Lib.hid (take_calls v l w hA (hl l rfl))
    unfold TakePost at HTK
    have HBA := Lib.hid hA
    obtain ⟨A, c, rfl, hc, hr⟩ := hA
    have h0 : w.cell? ⟨rb, 0, none⟩ = some (.slice A l.length c) := by rw [cell_of_row _ _ _ _ _ _ hb]; rfl
    have h1 : w.cell? ⟨rb, 1, none⟩ = some (.bool false) := by rw [cell_of_row _ _ _ _ _ _ hb]; rfl
    have f0 : w.frozen? ⟨rb, 0, none⟩ = false := by simp [World.frozen?, hb]
    have f1 : w.frozen? ⟨rb, 1, none⟩ = false := by simp [World.frozen?, hb]
    have HB := Lib.hid hb
    have HR := Lib.hid hr
    have HUB := Lib.hid hub
    clear hb hr hl hub
    go_enter Tryz.func96, Tryz.ntmps96
    go_wp2_with fail
    (with_reducible refine HTK.out.mono ?_)
    rintro e w1 ⟨rfl, (⟨hbad, rfl⟩ | ⟨hgood, rfl⟩)⟩
    · have HN := Lib.hid (readN_bad hbad)
      clear hbad
      go_wp2_with fail
      go_ret
      rw [HN.out]
      refine ⟨rfl, ⟨.slice A l.length c, ?_⟩, (But.refl _ _).setCell _ _⟩
      rw [set_heap (i := 1) _ HB.out]
      rfl
    · have HN := Lib.hid (readN_good hgood)
      have hlt : scanB l < l.length := Nat.lt_of_not_le fun h => hgood (.inl h)
      obtain ⟨b0, o0, e0, -⟩ := HR.out (by omega)
      subst e0
      obtain ⟨k, hk⟩ : ∃ k, scanB l = k := ⟨_, rfl⟩
      rw [hk] at hlt HN ⊢
      have t0 : ((k : Int) + 1 == 0) = false := by rw [beq_eq_false_iff_ne]; omega
      clear hgood hk
      go_wp2_with fail
      all_goals
        go_ret
        rw [HN.out]
        exact ⟨rfl, rf_drop HB.out HBA.out k _ _ (by omega) (fun hh => by first | rfl | omega) (fun ad e => by cases e; rfl) (HUB.out _ _ _ rfl)⟩
end Go.Proofs.YtkjajlolfcioiaaGreatDoor.Pack
