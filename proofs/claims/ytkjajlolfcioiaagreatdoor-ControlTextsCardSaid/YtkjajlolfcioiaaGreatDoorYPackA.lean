/- pack.Num, walked: a number's bytes behind others, in a slice of its own. -/
import Derived.Test.YtkjajlolfcioiaaGreatDoorYCheckC
import Derived.Test.YtkjajlolfcioiaaGreatDoorYPackP
import Derived.Lib.VarintBits
import Derived.Lib.VarintMem
import Derived.Laws.CopyOwn
import Derived.Laws.MakeOwn
namespace Go.Proofs.YtkjajlolfcioiaaGreatDoor.Pack
open Go Go.RowKit Go.Proofs Go.Proofs.YtkjajlolfcioiaaGreatDoor Go.Proofs.YtkjajlolfcioiaaGreatDoor.Own Go.Proofs.YtkjajlolfcioiaaGreatDoor.Check
/-- the slice reads as these bytes. -/
abbrev BytesAt (w : World) (v : Value) (l : List UInt8) : Prop := SliceAt w v l.length (Lib.byteCells l)
theorem byteLen (l : List UInt8) : (Lib.byteCells l).length = l.length := by simp [Lib.byteCells]
theorem byteOne (l : List UInt8) : ∀ u ∈ Lib.byteCells l, u.oneCell' = true := by
  intro u hu
  obtain ⟨x, -, rfl⟩ := List.mem_map.1 hu
  rfl
theorem sliceOfByte : SliceOf Tryz.prog 145 5 1 1 := sliceOf (z := .int .u8 0) Tryz.underlying145 (by kernel_rfl) rfl (by decide)
/-- the code's zig-zag. -/
theorem zig_code {x : Int} (h : I64 x) : bits .xor .u64 (IntKind.u64.wrap (IntKind.u64.wrap x * 2)) (IntKind.u64.wrap (x / 9223372036854775808)) = ((Lib.zigzag x : Nat) : Int) := by
  obtain ⟨h0, h1⟩ := h
  by_cases hn : x < 0
  · have e : x / 9223372036854775808 = -1 := by omega
    have e1 : IntKind.u64.wrap (-1) = IntKind.u64.max := by decide
    have e2 : IntKind.u64.wrap (IntKind.u64.wrap x * 2) = (((2 * x + 18446744073709551616).toNat : Nat) : Int) := by
      rw [IntKind.wrap_u64, IntKind.wrap_u64]
      omega
    have e3 : IntKind.u64.max = ((2 ^ 64 - 1 : Nat) : Int) := by decide
    rw [e, e1, ← Lib.zigzag_neg h0 hn, e2, e3, bits_xor_u64_nat _ _ (by omega) (by decide), bits_xor_u64_nat _ _ (by decide) (by omega), Nat.xor_comm]
  · have e : x / 9223372036854775808 = 0 := by omega
    have e1 : IntKind.u64.wrap 0 = ((0 : Nat) : Int) := by decide
    have e2 : IntKind.u64.wrap (IntKind.u64.wrap x * 2) = (((2 * x).toNat : Nat) : Int) := by
      rw [IntKind.wrap_u64, IntKind.wrap_u64]
      omega
    rw [e, e1, e2, bits_xor_u64_nat _ _ (by omega) (by decide), Nat.xor_zero]
    unfold Lib.zigzag
    rw [if_pos (by omega)]
theorem infoByte : (Tryz.prog.info? 5).map (fun i => (i.zero, i.size, i.bytes)) = some (some (.int .u8 0), 1, 1) := by kernel_rfl
theorem make_bytes (n m : Nat) (hn : n ≤ m) (hm : m ≤ 10000000) (W : World) : (Instr.makeSlice 145 (.int .i64 (n : Int)) (.int .i64 (m : Int))).run Tryz.prog W = .ok (.slice (some ⟨W.heap.size, 0, none⟩) n m) (W.alloc (.cells (madeCells #[.int .u8 0] m) 5)) := by
  obtain ⟨i0, h1, h2, h3, h4⟩ := info_parts infoByte
  have := run_make (P := Tryz.prog) W 145 5 i0 (.int .u8 0) Tryz.underlying145 h1 h2 .i64 .i64 (n : Int) (m : Int) (by omega) (by omega) (by rw [h4]; omega) (by omega)
  rw [this, h3]
  simp [Value.cells]
theorem byte_size : (Tryz.prog.info? 5).map (·.size) = some 1 := by kernel_rfl
set_option maxHeartbeats 1000000 in
set_option maxRecDepth 100000 in
theorem num_calls (v : Value) (bs : List UInt8) (x : Int) (hx : I64 x) (w : World) (h : BytesAt w v bs) (hl : bs.length ≤ 1000000) :
    Calls Tryz.prog 91 #[v, .int .i64 x] w fun e w' => ∃ v', e = .returned v' ∧ w'.ownsRow w.heap.size 5 1 v' (bs ++ numB x).length (Lib.byteCells (bs ++ numB x)) ∧ Below w.heap.size w w' := by
  obtain ⟨A, c, rfl, hc, hr⟩ := h
  have hz := zig_code hx
  obtain ⟨z, hzz⟩ : ∃ z, Lib.zigzag x = z := ⟨_, rfl⟩
  have hz64 : z < 18446744073709551616 := by rw [← hzz]; exact Lib.zigzag_lt hx.1 hx.2
  have HN := Lib.hid (show numB x = Lib.uvarint z from by unfold numB; rw [hzz])
  rw [hzz] at hz
  have hmk : (Instr.makeSlice 145 (.int .i64 (bs.length : Int)) (.int .i64 ((bs.length : Int) + 10))).run Tryz.prog w = .ok (.slice (some ⟨w.heap.size, 0, none⟩) bs.length (bs.length + 10)) (w.alloc (.cells (madeCells #[.int .u8 0] (bs.length + 10)) 5)) := by
    have := make_bytes bs.length (bs.length + 10) (by omega) (by omega) w
    rwa [show ((bs.length + 10 : Nat) : Int) = (bs.length : Int) + 10 by omega] at this
  obtain ⟨W1, hW1⟩ : ∃ W1, w.alloc (.cells (madeCells #[.int .u8 0] (bs.length + 10)) 5) = W1 := ⟨_, rfl⟩
  have HW1 := Lib.hid (show Below w.heap.size w W1 from by rw [← hW1]; exact (Below.refl _ _).alloc (Nat.le_refl _) _)
  have hg1 : W1.heap[w.heap.size]? = some (.cells (madeCells #[.int .u8 0] (bs.length + 10)).toList.toArray 5 (0, 0)) := by rw [← hW1]; simpa using heap_new w _
  have hcur : (madeCells #[(.int .u8 0 : Value)] (bs.length + 10)).toList.length = bs.length + 10 := by simp [size_madeCells]
  rw [hW1] at hmk
  clear hW1
  generalize (madeCells #[(.int .u8 0 : Value)] (bs.length + 10)).toList = cur at hg1 hcur
  have HG1 := Lib.hid hg1
  have HCU := Lib.hid hcur
  have HR := Lib.hid hr
  have HX := Lib.hid hx
  clear hr hx hzz hg1 hcur
  have HC2 := Lib.hid (show 0 < (Lib.byteCells bs).length → (some (⟨w.heap.size, 0, none⟩ : Addr)) = some ⟨w.heap.size, 0, none⟩ ∧ ∃ ad, A = some ad ∧ ∀ j v, (Lib.byteCells bs)[j]? = some v → W1.cell? (ad.add j) = some v from by
    intro h0
    rw [byteLen] at h0
    obtain ⟨b, o, rfl, hcells⟩ := HR.out h0
    refine ⟨rfl, _, rfl, fun j u hj => ?_⟩
    have := kc HW1.out (hcells j u hj)
    rwa [show (⟨b, o, none⟩ : Addr).add j = ⟨b, o + j, none⟩ from by unfold Addr.add; split <;> simp_all])
  go_enter Tryz.func91, Tryz.ntmps91
  go_wp2_with (refine wpList_copy_splice rfl _ _ 145 145 rfl 5 Tryz.underlying145 byte_size _ _ _ _ _ _ rfl rfl w.heap.size 0 cur 5 HG1.out (Lib.byteCells bs) (by rw [byteLen]; simp) HC2.out (by have := HCU.out; rw [byteLen]; omega) (byteOne bs) w.heap.size w HW1.out (Nat.le_refl _) ?_; intro W2 hg2 hB2)
  have ho2 : W2.ownsRow w.heap.size 5 1 (.slice (some ⟨w.heap.size, 0, none⟩) bs.length (bs.length + 10)) bs.length (Lib.byteCells bs) := by
    have hcu := HCU.out
    refine ⟨by rw [byteLen]; omega, .inr ⟨w.heap.size, bs.length + 10, (splice cur 0 (Lib.byteCells bs)).toArray, rfl, Nat.le_refl _, hg2.out, by omega, by unfold maxLen; omega, ?_, ?_⟩⟩
    · rw [List.size_toArray, length_splice _ _ _ (by rw [byteLen]; omega), hcu, Nat.mul_one]
    · have : splice cur 0 (Lib.byteCells bs) = Lib.byteCells bs ++ cur.drop (Lib.byteCells bs).length := by simp [splice]
      rw [List.toList_toArray, this, Nat.mul_one, ← byteLen bs, List.take_left]
  have HO2 := Lib.hid ho2
  have HB2 := Lib.hid hB2
  have HZ := Lib.hid (show Lib.uvarint z = [] ++ Lib.uvarint z from rfl)
  have HLEN := Lib.hid (Lib.uvarint_length64 hz64)
  clear ho2 hB2 hg2
  go_loopw [5, 6] (fun vz vb wr => ∃ (y : Nat) (pre : List UInt8), vz = .int .u64 (y : Int) ∧ y ≤ z ∧ Hid (Lib.uvarint z = pre ++ Lib.uvarint y ∧ wr.ownsRow w.heap.size 5 1 vb (bs.length + pre.length) (Lib.byteCells bs ++ Lib.byteCells pre) ∧ Below w.heap.size w wr)) (fun vz _ _ => (RowKit.intOf vz).toNat)
  case atStart => exact ⟨z, [], rfl, Nat.le_refl _, Lib.hid ⟨rfl, by simpa [Lib.byteCells] using HO2.out, HB2.out⟩⟩
  case round =>
    obtain ⟨y, pre, rfl, hy, HI⟩ := hrel
    have hpl : pre.length ≤ 10 := by
      have h2 := congrArg List.length HI.out.1
      rw [List.length_append] at h2
      have := HLEN.out
      omega
    by_cases h128 : 128 ≤ y
    · have hor : bits .or .u8 ((y : Int) % 256) 128 = ((y % 128 + 128 : Nat) : Int) := by
        rw [Lib.u8_or128_any _ (by omega) (by omega)]
        omega
      have hw8 : IntKind.u8.wrap (y : Int) = (y : Int) % 256 := by rw [IntKind.wrap_u8]
      have t1 : decide ((127 : Int) < (y : Int)) = true := decide_eq_true (by omega)
      go_wp2_with (at_builtin; refine list_app sliceOfByte rfl _ _ rfl (base := w.heap.size) rfl (own_kept HI.out.2.1 ((Below.refl _ _).alloc (Nat.le_refl _) _)) rfl (Src.new wr #[.int .u8 ((y % 128 + 128 : Nat) : Int)] 5 1 1 1 rfl (by intro u hu; simp at hu; subst hu; rfl)) (by unfold maxLen; omega) (by omega) (by have := HI.out.2.2.size; simp; omega) ?_; intro v7 w7 ho7 hB7 hg7)
      have hb : Below w.heap.size w (wr.alloc (.cells #[.int .u8 ((y % 128 + 128 : Nat) : Int)] 5)) := HI.out.2.2.alloc HI.out.2.2.size _
      refine ⟨⟨y / 128, pre ++ [(y % 128 + 128).toUInt8], by simp, by omega, Lib.hid ⟨?_, ?_, hb.trans hB7⟩⟩, by simp only [RowKit.intOf]; omega⟩
      · rw [HI.out.1, Lib.uvarint_big h128]
        simp
      · rw [Lib.byteCells_snoc pre (by omega), List.length_append, List.length_singleton, ← Nat.add_assoc, ← List.append_assoc]
        simpa using ho7
    · have hsm : Lib.uvarint y = [y.toUInt8] := Lib.uvarint_small (by omega)
      have hw8 : IntKind.u8.wrap (y : Int) = (y : Int) := by rw [IntKind.wrap_u8]; omega
      have t1 : decide ((127 : Int) < (y : Int)) = false := decide_eq_false (by omega)
      have HSM := Lib.hid hsm
      clear hsm
      go_wp2_with (at_builtin; refine list_app sliceOfByte rfl _ _ rfl (base := w.heap.size) rfl (own_kept HI.out.2.1 ((Below.refl _ _).alloc (Nat.le_refl _) _)) rfl (Src.new wr #[.int .u8 (y : Int)] 5 1 1 1 rfl (by intro u hu; simp at hu; subst hu; rfl)) (by unfold maxLen; omega) (by omega) (by have := HI.out.2.2.size; simp; omega) ?_; intro v7 w7 ho7 hB7 hg7)
      go_ret
      have hnb : numB x = pre ++ [y.toUInt8] := by rw [HN.out, HI.out.1, HSM.out]
      refine ⟨_, rfl, ?_, (HI.out.2.2.alloc HI.out.2.2.size _).trans hB7⟩
      rw [hnb, ← List.append_assoc, Lib.byteCells_snoc _ (by omega)]
      simpa [Lib.byteCells, Nat.add_assoc] using ho7
end Go.Proofs.YtkjajlolfcioiaaGreatDoor.Pack

/- pack's reader, walked. -/
namespace Go.Proofs.YtkjajlolfcioiaaGreatDoor.Pack
open Go Go.RowKit Go.Proofs Go.Proofs.YtkjajlolfcioiaaGreatDoor Go.Proofs.YtkjajlolfcioiaaGreatDoor.Own Go.Proofs.YtkjajlolfcioiaaGreatDoor.Check
/-- a reader in memory. -/
def RdAt (w : World) (rb : Nat) : Rd → Prop
  | none => w.heap[rb]? = some (.cells #[.slice none 0 0, .bool true] 179)
  | some l => ∃ v, w.heap[rb]? = some (.cells #[v, .bool false] 179) ∧ BytesAt w v l ∧ ∀ ad n c, v = .slice (some ad) n c → ad.block < rb
theorem slice_other {w w' : World} {v : Value} {l : List UInt8} {rb : Nat} {cs : Array Value} {T : TypeId} (h : BytesAt w v l) (hrb : w.heap[rb]? = some (.cells cs T)) (hcs : ∀ u ∈ cs.toList, ∀ n, u ≠ .int .u8 n) (k : But rb w w') : BytesAt w' v l := by
  obtain ⟨A, c, e, hc, hr⟩ := h
  refine ⟨A, c, e, hc, fun h0 => ?_⟩
  obtain ⟨b, o, ea, hcells⟩ := hr h0
  refine ⟨b, o, ea, fun j u hj => ?_⟩
  have h1 := hcells j u hj
  obtain ⟨x, hx, hu⟩ : ∃ x, x ∈ l ∧ u = .int .u8 (x.toNat : Int) := by
    have := List.mem_of_getElem? hj
    obtain ⟨x, hx, rfl⟩ := List.mem_map.1 this
    exact ⟨x, hx, rfl⟩
  refine k.cell (p := ⟨b, o + j, none⟩) (fun e => ?_) h1
  have e : b = rb := e
  subst e
  rw [cell_of_row _ _ _ _ _ _ hrb] at h1
  exact hcs u (by have := Array.mem_of_getElem? h1; simpa using this) _ hu
/-- the code's zig-zag, back. -/
theorem unzig_code {z : Nat} (h : z < 18446744073709551616) : bits .xor .i64 ((z : Int) / 2) (-((z : Int) % 2)) = Lib.unzigzag z := by
  unfold Lib.unzigzag
  split
  · rename_i h2
    have e : (z : Int) % 2 = 0 := by omega
    have e1 : (z : Int) / 2 = ((z / 2 : Nat) : Int) := by omega
    rw [e, e1]
    show IntKind.i64.wrap ((BitVec.ofInt 64 ((z / 2 : Nat) : Int) ^^^ BitVec.ofInt 64 (-0)).toNat : Int) = _
    have h1 : (BitVec.ofInt 64 ((z / 2 : Nat) : Int)).toNat = z / 2 := by rw [BitVec.ofInt_natCast, BitVec.toNat_ofNat]; exact Nat.mod_eq_of_lt (by omega)
    have h2 : (BitVec.ofInt 64 (-0)).toNat = 0 := by decide
    rw [BitVec.toNat_xor, h1, h2, Nat.xor_zero, IntKind.wrap_i64]
    omega
  · rename_i h2
    have e : (z : Int) % 2 = 1 := by omega
    have e1 : (z : Int) / 2 = ((z / 2 : Nat) : Int) := by omega
    rw [e, e1]
    show IntKind.i64.wrap ((BitVec.ofInt 64 ((z / 2 : Nat) : Int) ^^^ BitVec.ofInt 64 (-1)).toNat : Int) = _
    have h1 : (BitVec.ofInt 64 ((z / 2 : Nat) : Int)).toNat = z / 2 := by rw [BitVec.ofInt_natCast, BitVec.toNat_ofNat]; exact Nat.mod_eq_of_lt (by omega)
    have h2 : (BitVec.ofInt 64 (-1)).toNat = 2 ^ 64 - 1 := by decide
    rw [BitVec.toNat_xor, h1, h2, Nat.xor_comm, Lib.xor_ones64 _ (by omega), IntKind.wrap_i64]
    omega
theorem set_heap {w : World} {b i : Nat} {cs : Array Value} {T : TypeId} (v : Value) (h : w.heap[b]? = some (.cells cs T)) : (w.setCell ⟨b, i, none⟩ v).heap[b]? = some (.cells (cs.setIfInBounds i v) T) := by
  have hlt := (Array.getElem?_eq_some_iff.1 h).1
  have hx : w.heap[b]'hlt = .cells cs T := by
    rw [Array.getElem?_eq_getElem hlt] at h
    exact Option.some.inj h
  simp [World.setCell, hlt]
  rw [Array.getElem_modify]
  simp [hx]
/-- the fault. -/
theorem fail_calls (rb : Nat) (v : Value) (b : Bool) (w : World) (h : w.heap[rb]? = some (.cells #[v, .bool b] 179)) :
    Calls Tryz.prog 120 #[.pointer (some ⟨rb, 0, none⟩)] w fun e w' => e = .returned (.tuple #[]) ∧ RdAt w' rb none ∧ But rb w w' := by
  have h0 : w.cell? ⟨rb, 0, none⟩ = some v := by rw [cell_of_row _ _ _ _ _ _ h]; rfl
  have h1 : w.cell? ⟨rb, 1, none⟩ = some (.bool b) := by rw [cell_of_row _ _ _ _ _ _ h]; rfl
  have f0 : w.frozen? ⟨rb, 0, none⟩ = false := by simp [World.frozen?, h]
  have f1 : w.frozen? ⟨rb, 1, none⟩ = false := by simp [World.frozen?, h]
  have HH := Lib.hid h
  clear h
  go_enter Tryz.func120, Tryz.ntmps120
  go_wp2_with fail
  go_end0
  have s1 := set_heap (i := 1) (.bool true) HH.out
  have s2 := set_heap (i := 0) (.slice none 0 0) s1
  refine ⟨rfl, ?_, ((But.refl _ _).setCell _ _).setCell _ _⟩
  show _ = _
  rw [s2]
  rfl
/-- behind the number's last byte. -/
theorem last_at {w : World} {rb b0 o0 c : Nat} {l : List UInt8} (h : w.heap[rb]? = some (.cells #[.slice (some ⟨b0, o0, none⟩) l.length c, .bool false] 179)) (hA : BytesAt w (.slice (some ⟨b0, o0, none⟩) l.length c) l) (k : Nat) (A' : Option Addr) (c' : Nat)
    (h1 : l.length - (k + 1) ≤ c') (h2 : 0 < l.length - (k + 1) → A' = some ⟨b0, o0 + (k + 1), none⟩) (h3 : ∀ ad, A' = some ad → ad.block = b0) (hlt : b0 < rb) :
    RdAt (w.setCell ⟨rb, 0, none⟩ (.slice A' (l.length - (k + 1)) c')) rb (some (l.drop (k + 1))) ∧ But rb w (w.setCell ⟨rb, 0, none⟩ (.slice A' (l.length - (k + 1)) c')) := by
  have hb : But rb w (w.setCell ⟨rb, 0, none⟩ (.slice A' (l.length - (k + 1)) c')) := (But.refl _ _).setCell _ _
  refine ⟨⟨.slice A' (l.length - (k + 1)) c', ?_, ?_, fun ad n c e => by have e1 := (Value.slice.inj e).1; rw [h3 ad e1]; exact hlt⟩, hb⟩
  · rw [set_heap (i := 0) _ h]
    rfl
  · have hA2 := slice_other hA h (by intro u hu n; simp at hu; rcases hu with rfl | rfl <;> simp) hb
    obtain ⟨A, c2, e, -, hr⟩ := hA2
    refine ⟨A', c', by rw [List.length_drop], by rw [List.length_drop]; exact h1, fun h0 => ?_⟩
    rw [List.length_drop] at h0
    refine ⟨b0, o0 + (k + 1), h2 h0, fun j u hj => ?_⟩
    obtain ⟨b, o, ea, hcells⟩ := hr (by omega)
    rw [ea] at e
    obtain ⟨rfl, rfl⟩ : b0 = b ∧ o0 = o := by simpa using (Value.slice.inj e).1
    have := hcells (k + 1 + j) u (by unfold Lib.byteCells at hj ⊢; rw [List.map_drop, List.getElem?_drop] at hj; exact hj)
    rwa [← Nat.add_assoc] at this
set_option maxHeartbeats 4000000 in
set_option maxRecDepth 100000 in
theorem readNum_calls (rb : Nat) (q : Rd) (w : World) (h : RdAt w rb q) (hl : ∀ l, q = some l → l.length ≤ 1000000) :
    Calls Tryz.prog 93 #[.pointer (some ⟨rb, 0, none⟩)] w fun e w' => e = .returned (.int .i64 (readN q).1) ∧ RdAt w' rb (readN q).2 ∧ But rb w w' := by
  cases q with
  | none =>
    have h1 : w.cell? ⟨rb, 1, none⟩ = some (.bool true) := by rw [cell_of_row _ _ _ _ _ _ h]; rfl
    have HH := Lib.hid h
    clear h hl
    go_enter Tryz.func93, Tryz.ntmps93
    go_wp2
    go_ret
    exact ⟨rfl, HH.out, But.refl _ _⟩
  | some l =>
    obtain ⟨v, hb, hA, hub⟩ := h
    have hlen := hl l rfl
    have HFA := Lib.hid (fail_calls rb v false w hb)
    have HBA := Lib.hid hA
    obtain ⟨A, c, rfl, hc, hr⟩ := hA
    have h0 : w.cell? ⟨rb, 0, none⟩ = some (.slice A l.length c) := by rw [cell_of_row _ _ _ _ _ _ hb]; rfl
    have h1 : w.cell? ⟨rb, 1, none⟩ = some (.bool false) := by rw [cell_of_row _ _ _ _ _ _ hb]; rfl
    have f0 : w.frozen? ⟨rb, 0, none⟩ = false := by simp [World.frozen?, hb]
    have HB := Lib.hid hb
    have HR := Lib.hid hr
    have HUB := Lib.hid hub
    clear hb hr hl hub
    go_enter Tryz.func93, Tryz.ntmps93
    go_wp2_with fail
    go_loopw [3, 19] (fun vz vi wr => wr = w ∧ ∃ k acc : Nat, vi = .int .i64 (k : Int) ∧ vz = .int .u64 (acc : Int) ∧ k ≤ l.length ∧ k ≤ 9 ∧ acc < 2 ^ (7 * k) ∧ Hid (takeL 0 0 l = takeL k acc (l.drop k))) (fun _ vi _ => l.length - (RowKit.intOf vi).toNat)
    case atStart => exact ⟨rfl, 0, 0, rfl, rfl, Nat.zero_le _, Nat.zero_le _, by decide, Lib.hid rfl⟩
    case round =>
      obtain ⟨rfl, k, acc, rfl, rfl, hk, hk9, hacc, HK⟩ := hrel
      by_cases hlt : k < l.length
      · have l0 : (k : Int) < (l.length : Int) := by omega
        obtain ⟨b0, o0, e0, hcells⟩ := HR.out (by omega)
        subst e0
        have hdrop : l.drop k = l[k]'hlt :: l.drop (k + 1) := List.drop_eq_getElem_cons hlt
        have HCELL := Lib.hid (show wr.cell? ⟨b0, o0 + k, none⟩ = some (.int .u8 ((l[k]'hlt).toNat : Int)) from hcells k _ (by simp [Lib.byteCells, hlt]))
        have hbl := lt_of_cell HCELL.out
        have HK := Lib.hid (show takeL 0 0 l = takeL k acc (l[k]'hlt :: l.drop (k + 1)) from by rw [HK.out, hdrop])
        generalize l[k]'hlt = b at HCELL HK
        have hb256 : b.toNat < 256 := b.toNat_lt
        clear hcells hdrop
        have hks : k = 0 ∨ k = 1 ∨ k = 2 ∨ k = 3 ∨ k = 4 ∨ k = 5 ∨ k = 6 ∨ k = 7 ∨ k = 8 ∨ k = 9 := by omega
        rcases hks with rfl | rfl | rfl | rfl | rfl | rfl | rfl | rfl | rfl | rfl
        · have hacc2 : acc = 0 := by have := hacc; simp at this; omega
          subst hacc2
          have hcell : wr.cell? ⟨b0, o0, none⟩ = some (.int .u8 (b.toNat : Int)) := HCELL.out
          by_cases hb : b.toNat < 128
          · have hand : bits .and .u8 (b.toNat : Int) 127 = (b.toNat : Int) := by rw [u8_and127 _ (by omega) (by omega)]; omega
            have hw1 : IntKind.u64.wrap (b.toNat : Int) = (b.toNat : Int) := u64_wrap_id _ (by omega) (by omega)
            have hor : bits .or .u64 0 (b.toNat : Int) = ((b.toNat : Nat) : Int) := by
              rw [u64_orv0 _ _ (by omega) (by omega) (by omega) (by omega) (by omega)] <;> omega
            have hz64 : b.toNat < 18446744073709551616 := by omega
            have hTK : takeL 0 0 (b :: l.drop (0 + 1)) = some (b.toNat, l.drop (0 + 1)) := by
              rw [takeL, if_neg (by omega), if_pos (by omega)]
              first | done | simp
            have HTK := Lib.hid hTK
            have huz := unzig_code hz64
            have ha1 : bits .and .u64 (b.toNat : Int) 1 = (b.toNat : Int) % 2 := Lib.u64_and1 _ (by omega) (by omega)
            have hw3 : IntKind.i64.wrap ((b.toNat : Int) / 2) = (b.toNat : Int) / 2 := by rw [IntKind.wrap_i64]; omega
            have hw4 : IntKind.i64.wrap ((b.toNat : Int) % 2) = (b.toNat : Int) % 2 := by rw [IntKind.wrap_i64]; omega
            have hw5 : IntKind.i64.wrap (-((b.toNat : Int) % 2)) = -((b.toNat : Int) % 2) := by rw [IntKind.wrap_i64]; omega
            have lcut : (0 : Int) + 1 ≤ (l.length : Int) := by omega
            clear hTK hacc HCELL
            have HN := Lib.hid (show readN (some l) = (Lib.unzigzag b.toNat, some (l.drop (0 + 1))) from by
              have e0 : readN (some l) = match takeL 0 0 l with
                | none => (0, none)
                | some (y, r) => (Lib.unzigzag y, some r) := rfl
              rw [e0, HK.out, HTK.out])
            go_wp2_with fail
            all_goals
              go_ret
              rw [HN.out]
              exact ⟨rfl, last_at HB.out HBA.out 0 _ _ (by omega) (fun hh => by first | rfl | omega) (fun ad e => by cases e; rfl) (HUB.out _ _ _ rfl)⟩
          · have hand : bits .and .u8 (b.toNat : Int) 127 = (b.toNat : Int) % 128 := u8_and127 _ (by omega) (by omega)
            have hw1 : IntKind.u64.wrap ((b.toNat : Int) % 128) = (b.toNat : Int) % 128 := u64_wrap_id _ (by omega) (by omega)
            have hor : bits .or .u64 0 ((b.toNat : Int) % 128) = ((b.toNat % 128 : Nat) : Int) := by
              rw [u64_orv0 _ _ (by omega) (by omega) (by omega) (by omega) (by omega)] <;> omega
            have hTK : takeL 0 0 (b :: l.drop (0 + 1)) = takeL (0 + 1) (b.toNat % 128) (l.drop (0 + 1)) := by
              rw [takeL, if_neg (by omega), if_neg (by omega)]
              congr 1 <;> simp
            have HTK := Lib.hid (HK.out.trans hTK)
            have hnb : ((b.toNat : Int) < 128) = False := by simp; omega
            clear hTK HCELL
            go_wp2_with fail
            refine ⟨⟨trivial, 0 + 1, b.toNat % 128, by simp, ?_, by omega, by omega, ?_, HTK⟩, by simp only [RowKit.intOf]; omega⟩
            · first | rfl | (congr 1; omega)
            · show _ < 2 ^ 7
              omega
        · have hacc2 : acc < 128 := by simpa using hacc
          have hcell : wr.cell? ⟨b0, o0 + 1, none⟩ = some (.int .u8 (b.toNat : Int)) := HCELL.out
          by_cases hz0 : b.toNat = 0
          · have hb2 : ((b.toNat : Int) == 0) = true := by rw [beq_iff_eq]; omega
            go_wp2_with fail
            (with_reducible refine HFA.out.mono ?_)
            rintro e w6 ⟨rfl, hr6, hb6⟩
            go_wp2
            go_ret
            have hN : readN (some l) = (0, none) := by
              have e0 : readN (some l) = match takeL 0 0 l with
                | none => (0, none)
                | some (y, r) => (Lib.unzigzag y, some r) := rfl
              rw [e0, HK.out, takeL, if_pos (.inr ⟨by omega, hz0⟩)]
            rw [hN]
            exact ⟨rfl, hr6, hb6⟩
          by_cases hb : b.toNat < 128
          · have hb2 : ((b.toNat : Int) == 0) = false := by rw [beq_eq_false_iff_ne]; omega
            have hand : bits .and .u8 (b.toNat : Int) 127 = (b.toNat : Int) := by rw [u8_and127 _ (by omega) (by omega)]; omega
            have hw1 : IntKind.u64.wrap (b.toNat : Int) = (b.toNat : Int) := u64_wrap_id _ (by omega) (by omega)
            have hw2 : IntKind.u64.wrap ((b.toNat : Int) * 128) = (b.toNat : Int) * 128 := u64_wrap_id _ (by omega) (by omega)
            have hor : bits .or .u64 (acc : Int) ((b.toNat : Int) * 128) = ((acc + b.toNat * 128 : Nat) : Int) := by
              rw [u64_orv7 _ _ (by omega) (by omega) (by omega) (by omega) (by omega)]
              omega
            obtain ⟨z, hz⟩ : ∃ z, z = acc + b.toNat * 128 := ⟨_, rfl⟩
            have hz64 : z < 18446744073709551616 := by omega
            have hTK : takeL 1 acc (b :: l.drop (1 + 1)) = some (z, l.drop (1 + 1)) := by
              rw [takeL, if_neg (by omega), if_pos (by omega), hz]
              first | done | simp
            have HTK := Lib.hid hTK
            have huz := unzig_code hz64
            rw [← hz] at hor
            have ha1 : bits .and .u64 (z : Int) 1 = (z : Int) % 2 := Lib.u64_and1 _ (by omega) (by omega)
            have hw3 : IntKind.i64.wrap ((z : Int) / 2) = (z : Int) / 2 := by rw [IntKind.wrap_i64]; omega
            have hw4 : IntKind.i64.wrap ((z : Int) % 2) = (z : Int) % 2 := by rw [IntKind.wrap_i64]; omega
            have hw5 : IntKind.i64.wrap (-((z : Int) % 2)) = -((z : Int) % 2) := by rw [IntKind.wrap_i64]; omega
            have HZ := Lib.hid hz
            have lcut : (1 : Int) + 1 ≤ (l.length : Int) := by omega
            clear hz hTK hacc HCELL
            have HN := Lib.hid (show readN (some l) = (Lib.unzigzag z, some (l.drop (1 + 1))) from by
              have e0 : readN (some l) = match takeL 0 0 l with
                | none => (0, none)
                | some (y, r) => (Lib.unzigzag y, some r) := rfl
              rw [e0, HK.out, HTK.out])
            go_wp2_with fail
            all_goals
              go_ret
              rw [HN.out]
              exact ⟨rfl, last_at HB.out HBA.out 1 _ _ (by omega) (fun hh => by first | rfl | omega) (fun ad e => by cases e; rfl) (HUB.out _ _ _ rfl)⟩
          · have hb2 : ((b.toNat : Int) == 0) = false := by rw [beq_eq_false_iff_ne]; omega
            have hand : bits .and .u8 (b.toNat : Int) 127 = (b.toNat : Int) % 128 := u8_and127 _ (by omega) (by omega)
            have hw1 : IntKind.u64.wrap ((b.toNat : Int) % 128) = (b.toNat : Int) % 128 := u64_wrap_id _ (by omega) (by omega)
            have hw2 : IntKind.u64.wrap ((b.toNat : Int) % 128 * 128) = (b.toNat : Int) % 128 * 128 := u64_wrap_id _ (by omega) (by omega)
            have hor : bits .or .u64 (acc : Int) ((b.toNat : Int) % 128 * 128) = ((acc + b.toNat % 128 * 128 : Nat) : Int) := by
              rw [u64_orv7 _ _ (by omega) (by omega) (by omega) (by omega) (by omega)]
              omega
            have hTK : takeL 1 acc (b :: l.drop (1 + 1)) = takeL (1 + 1) (acc + b.toNat % 128 * 128) (l.drop (1 + 1)) := by
              rw [takeL, if_neg (by omega), if_neg (by omega)]
            have HTK := Lib.hid (HK.out.trans hTK)
            have hnb : ((b.toNat : Int) < 128) = False := by simp; omega
            clear hTK HCELL
            go_wp2_with fail
            refine ⟨⟨trivial, 1 + 1, acc + b.toNat % 128 * 128, by simp, ?_, by omega, by omega, ?_, HTK⟩, by simp only [RowKit.intOf]; omega⟩
            · first | rfl | (congr 1; omega)
            · show _ < 2 ^ 14
              omega
        · have hacc2 : acc < 16384 := by simpa using hacc
          have hcell : wr.cell? ⟨b0, o0 + 2, none⟩ = some (.int .u8 (b.toNat : Int)) := HCELL.out
          by_cases hz0 : b.toNat = 0
          · have hb2 : ((b.toNat : Int) == 0) = true := by rw [beq_iff_eq]; omega
            go_wp2_with fail
            (with_reducible refine HFA.out.mono ?_)
            rintro e w6 ⟨rfl, hr6, hb6⟩
            go_wp2
            go_ret
            have hN : readN (some l) = (0, none) := by
              have e0 : readN (some l) = match takeL 0 0 l with
                | none => (0, none)
                | some (y, r) => (Lib.unzigzag y, some r) := rfl
              rw [e0, HK.out, takeL, if_pos (.inr ⟨by omega, hz0⟩)]
            rw [hN]
            exact ⟨rfl, hr6, hb6⟩
          by_cases hb : b.toNat < 128
          · have hb2 : ((b.toNat : Int) == 0) = false := by rw [beq_eq_false_iff_ne]; omega
            have hand : bits .and .u8 (b.toNat : Int) 127 = (b.toNat : Int) := by rw [u8_and127 _ (by omega) (by omega)]; omega
            have hw1 : IntKind.u64.wrap (b.toNat : Int) = (b.toNat : Int) := u64_wrap_id _ (by omega) (by omega)
            have hw2 : IntKind.u64.wrap ((b.toNat : Int) * 16384) = (b.toNat : Int) * 16384 := u64_wrap_id _ (by omega) (by omega)
            have hor : bits .or .u64 (acc : Int) ((b.toNat : Int) * 16384) = ((acc + b.toNat * 16384 : Nat) : Int) := by
              rw [u64_orv14 _ _ (by omega) (by omega) (by omega) (by omega) (by omega)]
              omega
            obtain ⟨z, hz⟩ : ∃ z, z = acc + b.toNat * 16384 := ⟨_, rfl⟩
            have hz64 : z < 18446744073709551616 := by omega
            have hTK : takeL 2 acc (b :: l.drop (2 + 1)) = some (z, l.drop (2 + 1)) := by
              rw [takeL, if_neg (by omega), if_pos (by omega), hz]
              first | done | simp
            have HTK := Lib.hid hTK
            have huz := unzig_code hz64
            rw [← hz] at hor
            have ha1 : bits .and .u64 (z : Int) 1 = (z : Int) % 2 := Lib.u64_and1 _ (by omega) (by omega)
            have hw3 : IntKind.i64.wrap ((z : Int) / 2) = (z : Int) / 2 := by rw [IntKind.wrap_i64]; omega
            have hw4 : IntKind.i64.wrap ((z : Int) % 2) = (z : Int) % 2 := by rw [IntKind.wrap_i64]; omega
            have hw5 : IntKind.i64.wrap (-((z : Int) % 2)) = -((z : Int) % 2) := by rw [IntKind.wrap_i64]; omega
            have HZ := Lib.hid hz
            have lcut : (2 : Int) + 1 ≤ (l.length : Int) := by omega
            clear hz hTK hacc HCELL
            have HN := Lib.hid (show readN (some l) = (Lib.unzigzag z, some (l.drop (2 + 1))) from by
              have e0 : readN (some l) = match takeL 0 0 l with
                | none => (0, none)
                | some (y, r) => (Lib.unzigzag y, some r) := rfl
              rw [e0, HK.out, HTK.out])
            go_wp2_with fail
            all_goals
              go_ret
              rw [HN.out]
              exact ⟨rfl, last_at HB.out HBA.out 2 _ _ (by omega) (fun hh => by first | rfl | omega) (fun ad e => by cases e; rfl) (HUB.out _ _ _ rfl)⟩
          · have hb2 : ((b.toNat : Int) == 0) = false := by rw [beq_eq_false_iff_ne]; omega
            have hand : bits .and .u8 (b.toNat : Int) 127 = (b.toNat : Int) % 128 := u8_and127 _ (by omega) (by omega)
            have hw1 : IntKind.u64.wrap ((b.toNat : Int) % 128) = (b.toNat : Int) % 128 := u64_wrap_id _ (by omega) (by omega)
            have hw2 : IntKind.u64.wrap ((b.toNat : Int) % 128 * 16384) = (b.toNat : Int) % 128 * 16384 := u64_wrap_id _ (by omega) (by omega)
            have hor : bits .or .u64 (acc : Int) ((b.toNat : Int) % 128 * 16384) = ((acc + b.toNat % 128 * 16384 : Nat) : Int) := by
              rw [u64_orv14 _ _ (by omega) (by omega) (by omega) (by omega) (by omega)]
              omega
            have hTK : takeL 2 acc (b :: l.drop (2 + 1)) = takeL (2 + 1) (acc + b.toNat % 128 * 16384) (l.drop (2 + 1)) := by
              rw [takeL, if_neg (by omega), if_neg (by omega)]
            have HTK := Lib.hid (HK.out.trans hTK)
            have hnb : ((b.toNat : Int) < 128) = False := by simp; omega
            clear hTK HCELL
            go_wp2_with fail
            refine ⟨⟨trivial, 2 + 1, acc + b.toNat % 128 * 16384, by simp, ?_, by omega, by omega, ?_, HTK⟩, by simp only [RowKit.intOf]; omega⟩
            · first | rfl | (congr 1; omega)
            · show _ < 2 ^ 21
              omega
        · have hacc2 : acc < 2097152 := by simpa using hacc
          have hcell : wr.cell? ⟨b0, o0 + 3, none⟩ = some (.int .u8 (b.toNat : Int)) := HCELL.out
          by_cases hz0 : b.toNat = 0
          · have hb2 : ((b.toNat : Int) == 0) = true := by rw [beq_iff_eq]; omega
            go_wp2_with fail
            (with_reducible refine HFA.out.mono ?_)
            rintro e w6 ⟨rfl, hr6, hb6⟩
            go_wp2
            go_ret
            have hN : readN (some l) = (0, none) := by
              have e0 : readN (some l) = match takeL 0 0 l with
                | none => (0, none)
                | some (y, r) => (Lib.unzigzag y, some r) := rfl
              rw [e0, HK.out, takeL, if_pos (.inr ⟨by omega, hz0⟩)]
            rw [hN]
            exact ⟨rfl, hr6, hb6⟩
          by_cases hb : b.toNat < 128
          · have hb2 : ((b.toNat : Int) == 0) = false := by rw [beq_eq_false_iff_ne]; omega
            have hand : bits .and .u8 (b.toNat : Int) 127 = (b.toNat : Int) := by rw [u8_and127 _ (by omega) (by omega)]; omega
            have hw1 : IntKind.u64.wrap (b.toNat : Int) = (b.toNat : Int) := u64_wrap_id _ (by omega) (by omega)
            have hw2 : IntKind.u64.wrap ((b.toNat : Int) * 2097152) = (b.toNat : Int) * 2097152 := u64_wrap_id _ (by omega) (by omega)
            have hor : bits .or .u64 (acc : Int) ((b.toNat : Int) * 2097152) = ((acc + b.toNat * 2097152 : Nat) : Int) := by
              rw [u64_orv21 _ _ (by omega) (by omega) (by omega) (by omega) (by omega)]
              omega
            obtain ⟨z, hz⟩ : ∃ z, z = acc + b.toNat * 2097152 := ⟨_, rfl⟩
            have hz64 : z < 18446744073709551616 := by omega
            have hTK : takeL 3 acc (b :: l.drop (3 + 1)) = some (z, l.drop (3 + 1)) := by
              rw [takeL, if_neg (by omega), if_pos (by omega), hz]
              first | done | simp
            have HTK := Lib.hid hTK
            have huz := unzig_code hz64
            rw [← hz] at hor
            have ha1 : bits .and .u64 (z : Int) 1 = (z : Int) % 2 := Lib.u64_and1 _ (by omega) (by omega)
            have hw3 : IntKind.i64.wrap ((z : Int) / 2) = (z : Int) / 2 := by rw [IntKind.wrap_i64]; omega
            have hw4 : IntKind.i64.wrap ((z : Int) % 2) = (z : Int) % 2 := by rw [IntKind.wrap_i64]; omega
            have hw5 : IntKind.i64.wrap (-((z : Int) % 2)) = -((z : Int) % 2) := by rw [IntKind.wrap_i64]; omega
            have HZ := Lib.hid hz
            have lcut : (3 : Int) + 1 ≤ (l.length : Int) := by omega
            clear hz hTK hacc HCELL
            have HN := Lib.hid (show readN (some l) = (Lib.unzigzag z, some (l.drop (3 + 1))) from by
              have e0 : readN (some l) = match takeL 0 0 l with
                | none => (0, none)
                | some (y, r) => (Lib.unzigzag y, some r) := rfl
              rw [e0, HK.out, HTK.out])
            go_wp2_with fail
            all_goals
              go_ret
              rw [HN.out]
              exact ⟨rfl, last_at HB.out HBA.out 3 _ _ (by omega) (fun hh => by first | rfl | omega) (fun ad e => by cases e; rfl) (HUB.out _ _ _ rfl)⟩
          · have hb2 : ((b.toNat : Int) == 0) = false := by rw [beq_eq_false_iff_ne]; omega
            have hand : bits .and .u8 (b.toNat : Int) 127 = (b.toNat : Int) % 128 := u8_and127 _ (by omega) (by omega)
            have hw1 : IntKind.u64.wrap ((b.toNat : Int) % 128) = (b.toNat : Int) % 128 := u64_wrap_id _ (by omega) (by omega)
            have hw2 : IntKind.u64.wrap ((b.toNat : Int) % 128 * 2097152) = (b.toNat : Int) % 128 * 2097152 := u64_wrap_id _ (by omega) (by omega)
            have hor : bits .or .u64 (acc : Int) ((b.toNat : Int) % 128 * 2097152) = ((acc + b.toNat % 128 * 2097152 : Nat) : Int) := by
              rw [u64_orv21 _ _ (by omega) (by omega) (by omega) (by omega) (by omega)]
              omega
            have hTK : takeL 3 acc (b :: l.drop (3 + 1)) = takeL (3 + 1) (acc + b.toNat % 128 * 2097152) (l.drop (3 + 1)) := by
              rw [takeL, if_neg (by omega), if_neg (by omega)]
            have HTK := Lib.hid (HK.out.trans hTK)
            have hnb : ((b.toNat : Int) < 128) = False := by simp; omega
            clear hTK HCELL
            go_wp2_with fail
            refine ⟨⟨trivial, 3 + 1, acc + b.toNat % 128 * 2097152, by simp, ?_, by omega, by omega, ?_, HTK⟩, by simp only [RowKit.intOf]; omega⟩
            · first | rfl | (congr 1; omega)
            · show _ < 2 ^ 28
              omega
        · have hacc2 : acc < 268435456 := by simpa using hacc
          have hcell : wr.cell? ⟨b0, o0 + 4, none⟩ = some (.int .u8 (b.toNat : Int)) := HCELL.out
          by_cases hz0 : b.toNat = 0
          · have hb2 : ((b.toNat : Int) == 0) = true := by rw [beq_iff_eq]; omega
            go_wp2_with fail
            (with_reducible refine HFA.out.mono ?_)
            rintro e w6 ⟨rfl, hr6, hb6⟩
            go_wp2
            go_ret
            have hN : readN (some l) = (0, none) := by
              have e0 : readN (some l) = match takeL 0 0 l with
                | none => (0, none)
                | some (y, r) => (Lib.unzigzag y, some r) := rfl
              rw [e0, HK.out, takeL, if_pos (.inr ⟨by omega, hz0⟩)]
            rw [hN]
            exact ⟨rfl, hr6, hb6⟩
          by_cases hb : b.toNat < 128
          · have hb2 : ((b.toNat : Int) == 0) = false := by rw [beq_eq_false_iff_ne]; omega
            have hand : bits .and .u8 (b.toNat : Int) 127 = (b.toNat : Int) := by rw [u8_and127 _ (by omega) (by omega)]; omega
            have hw1 : IntKind.u64.wrap (b.toNat : Int) = (b.toNat : Int) := u64_wrap_id _ (by omega) (by omega)
            have hw2 : IntKind.u64.wrap ((b.toNat : Int) * 268435456) = (b.toNat : Int) * 268435456 := u64_wrap_id _ (by omega) (by omega)
            have hor : bits .or .u64 (acc : Int) ((b.toNat : Int) * 268435456) = ((acc + b.toNat * 268435456 : Nat) : Int) := by
              rw [u64_orv28 _ _ (by omega) (by omega) (by omega) (by omega) (by omega)]
              omega
            obtain ⟨z, hz⟩ : ∃ z, z = acc + b.toNat * 268435456 := ⟨_, rfl⟩
            have hz64 : z < 18446744073709551616 := by omega
            have hTK : takeL 4 acc (b :: l.drop (4 + 1)) = some (z, l.drop (4 + 1)) := by
              rw [takeL, if_neg (by omega), if_pos (by omega), hz]
              first | done | simp
            have HTK := Lib.hid hTK
            have huz := unzig_code hz64
            rw [← hz] at hor
            have ha1 : bits .and .u64 (z : Int) 1 = (z : Int) % 2 := Lib.u64_and1 _ (by omega) (by omega)
            have hw3 : IntKind.i64.wrap ((z : Int) / 2) = (z : Int) / 2 := by rw [IntKind.wrap_i64]; omega
            have hw4 : IntKind.i64.wrap ((z : Int) % 2) = (z : Int) % 2 := by rw [IntKind.wrap_i64]; omega
            have hw5 : IntKind.i64.wrap (-((z : Int) % 2)) = -((z : Int) % 2) := by rw [IntKind.wrap_i64]; omega
            have HZ := Lib.hid hz
            have lcut : (4 : Int) + 1 ≤ (l.length : Int) := by omega
            clear hz hTK hacc HCELL
            have HN := Lib.hid (show readN (some l) = (Lib.unzigzag z, some (l.drop (4 + 1))) from by
              have e0 : readN (some l) = match takeL 0 0 l with
                | none => (0, none)
                | some (y, r) => (Lib.unzigzag y, some r) := rfl
              rw [e0, HK.out, HTK.out])
            go_wp2_with fail
            all_goals
              go_ret
              rw [HN.out]
              exact ⟨rfl, last_at HB.out HBA.out 4 _ _ (by omega) (fun hh => by first | rfl | omega) (fun ad e => by cases e; rfl) (HUB.out _ _ _ rfl)⟩
          · have hb2 : ((b.toNat : Int) == 0) = false := by rw [beq_eq_false_iff_ne]; omega
            have hand : bits .and .u8 (b.toNat : Int) 127 = (b.toNat : Int) % 128 := u8_and127 _ (by omega) (by omega)
            have hw1 : IntKind.u64.wrap ((b.toNat : Int) % 128) = (b.toNat : Int) % 128 := u64_wrap_id _ (by omega) (by omega)
            have hw2 : IntKind.u64.wrap ((b.toNat : Int) % 128 * 268435456) = (b.toNat : Int) % 128 * 268435456 := u64_wrap_id _ (by omega) (by omega)
            have hor : bits .or .u64 (acc : Int) ((b.toNat : Int) % 128 * 268435456) = ((acc + b.toNat % 128 * 268435456 : Nat) : Int) := by
              rw [u64_orv28 _ _ (by omega) (by omega) (by omega) (by omega) (by omega)]
              omega
            have hTK : takeL 4 acc (b :: l.drop (4 + 1)) = takeL (4 + 1) (acc + b.toNat % 128 * 268435456) (l.drop (4 + 1)) := by
              rw [takeL, if_neg (by omega), if_neg (by omega)]
            have HTK := Lib.hid (HK.out.trans hTK)
            have hnb : ((b.toNat : Int) < 128) = False := by simp; omega
            clear hTK HCELL
            go_wp2_with fail
            refine ⟨⟨trivial, 4 + 1, acc + b.toNat % 128 * 268435456, by simp, ?_, by omega, by omega, ?_, HTK⟩, by simp only [RowKit.intOf]; omega⟩
            · first | rfl | (congr 1; omega)
            · show _ < 2 ^ 35
              omega
        · have hacc2 : acc < 34359738368 := by simpa using hacc
          have hcell : wr.cell? ⟨b0, o0 + 5, none⟩ = some (.int .u8 (b.toNat : Int)) := HCELL.out
          by_cases hz0 : b.toNat = 0
          · have hb2 : ((b.toNat : Int) == 0) = true := by rw [beq_iff_eq]; omega
            go_wp2_with fail
            (with_reducible refine HFA.out.mono ?_)
            rintro e w6 ⟨rfl, hr6, hb6⟩
            go_wp2
            go_ret
            have hN : readN (some l) = (0, none) := by
              have e0 : readN (some l) = match takeL 0 0 l with
                | none => (0, none)
                | some (y, r) => (Lib.unzigzag y, some r) := rfl
              rw [e0, HK.out, takeL, if_pos (.inr ⟨by omega, hz0⟩)]
            rw [hN]
            exact ⟨rfl, hr6, hb6⟩
          by_cases hb : b.toNat < 128
          · have hb2 : ((b.toNat : Int) == 0) = false := by rw [beq_eq_false_iff_ne]; omega
            have hand : bits .and .u8 (b.toNat : Int) 127 = (b.toNat : Int) := by rw [u8_and127 _ (by omega) (by omega)]; omega
            have hw1 : IntKind.u64.wrap (b.toNat : Int) = (b.toNat : Int) := u64_wrap_id _ (by omega) (by omega)
            have hw2 : IntKind.u64.wrap ((b.toNat : Int) * 34359738368) = (b.toNat : Int) * 34359738368 := u64_wrap_id _ (by omega) (by omega)
            have hor : bits .or .u64 (acc : Int) ((b.toNat : Int) * 34359738368) = ((acc + b.toNat * 34359738368 : Nat) : Int) := by
              rw [u64_orv35 _ _ (by omega) (by omega) (by omega) (by omega) (by omega)]
              omega
            obtain ⟨z, hz⟩ : ∃ z, z = acc + b.toNat * 34359738368 := ⟨_, rfl⟩
            have hz64 : z < 18446744073709551616 := by omega
            have hTK : takeL 5 acc (b :: l.drop (5 + 1)) = some (z, l.drop (5 + 1)) := by
              rw [takeL, if_neg (by omega), if_pos (by omega), hz]
              first | done | simp
            have HTK := Lib.hid hTK
            have huz := unzig_code hz64
            rw [← hz] at hor
            have ha1 : bits .and .u64 (z : Int) 1 = (z : Int) % 2 := Lib.u64_and1 _ (by omega) (by omega)
            have hw3 : IntKind.i64.wrap ((z : Int) / 2) = (z : Int) / 2 := by rw [IntKind.wrap_i64]; omega
            have hw4 : IntKind.i64.wrap ((z : Int) % 2) = (z : Int) % 2 := by rw [IntKind.wrap_i64]; omega
            have hw5 : IntKind.i64.wrap (-((z : Int) % 2)) = -((z : Int) % 2) := by rw [IntKind.wrap_i64]; omega
            have HZ := Lib.hid hz
            have lcut : (5 : Int) + 1 ≤ (l.length : Int) := by omega
            clear hz hTK hacc HCELL
            have HN := Lib.hid (show readN (some l) = (Lib.unzigzag z, some (l.drop (5 + 1))) from by
              have e0 : readN (some l) = match takeL 0 0 l with
                | none => (0, none)
                | some (y, r) => (Lib.unzigzag y, some r) := rfl
              rw [e0, HK.out, HTK.out])
            go_wp2_with fail
            all_goals
              go_ret
              rw [HN.out]
              exact ⟨rfl, last_at HB.out HBA.out 5 _ _ (by omega) (fun hh => by first | rfl | omega) (fun ad e => by cases e; rfl) (HUB.out _ _ _ rfl)⟩
          · have hb2 : ((b.toNat : Int) == 0) = false := by rw [beq_eq_false_iff_ne]; omega
            have hand : bits .and .u8 (b.toNat : Int) 127 = (b.toNat : Int) % 128 := u8_and127 _ (by omega) (by omega)
            have hw1 : IntKind.u64.wrap ((b.toNat : Int) % 128) = (b.toNat : Int) % 128 := u64_wrap_id _ (by omega) (by omega)
            have hw2 : IntKind.u64.wrap ((b.toNat : Int) % 128 * 34359738368) = (b.toNat : Int) % 128 * 34359738368 := u64_wrap_id _ (by omega) (by omega)
            have hor : bits .or .u64 (acc : Int) ((b.toNat : Int) % 128 * 34359738368) = ((acc + b.toNat % 128 * 34359738368 : Nat) : Int) := by
              rw [u64_orv35 _ _ (by omega) (by omega) (by omega) (by omega) (by omega)]
              omega
            have hTK : takeL 5 acc (b :: l.drop (5 + 1)) = takeL (5 + 1) (acc + b.toNat % 128 * 34359738368) (l.drop (5 + 1)) := by
              rw [takeL, if_neg (by omega), if_neg (by omega)]
            have HTK := Lib.hid (HK.out.trans hTK)
            have hnb : ((b.toNat : Int) < 128) = False := by simp; omega
            clear hTK HCELL
            go_wp2_with fail
            refine ⟨⟨trivial, 5 + 1, acc + b.toNat % 128 * 34359738368, by simp, ?_, by omega, by omega, ?_, HTK⟩, by simp only [RowKit.intOf]; omega⟩
            · first | rfl | (congr 1; omega)
            · show _ < 2 ^ 42
              omega
        · have hacc2 : acc < 4398046511104 := by simpa using hacc
          have hcell : wr.cell? ⟨b0, o0 + 6, none⟩ = some (.int .u8 (b.toNat : Int)) := HCELL.out
          by_cases hz0 : b.toNat = 0
          · have hb2 : ((b.toNat : Int) == 0) = true := by rw [beq_iff_eq]; omega
            go_wp2_with fail
            (with_reducible refine HFA.out.mono ?_)
            rintro e w6 ⟨rfl, hr6, hb6⟩
            go_wp2
            go_ret
            have hN : readN (some l) = (0, none) := by
              have e0 : readN (some l) = match takeL 0 0 l with
                | none => (0, none)
                | some (y, r) => (Lib.unzigzag y, some r) := rfl
              rw [e0, HK.out, takeL, if_pos (.inr ⟨by omega, hz0⟩)]
            rw [hN]
            exact ⟨rfl, hr6, hb6⟩
          by_cases hb : b.toNat < 128
          · have hb2 : ((b.toNat : Int) == 0) = false := by rw [beq_eq_false_iff_ne]; omega
            have hand : bits .and .u8 (b.toNat : Int) 127 = (b.toNat : Int) := by rw [u8_and127 _ (by omega) (by omega)]; omega
            have hw1 : IntKind.u64.wrap (b.toNat : Int) = (b.toNat : Int) := u64_wrap_id _ (by omega) (by omega)
            have hw2 : IntKind.u64.wrap ((b.toNat : Int) * 4398046511104) = (b.toNat : Int) * 4398046511104 := u64_wrap_id _ (by omega) (by omega)
            have hor : bits .or .u64 (acc : Int) ((b.toNat : Int) * 4398046511104) = ((acc + b.toNat * 4398046511104 : Nat) : Int) := by
              rw [u64_orv42 _ _ (by omega) (by omega) (by omega) (by omega) (by omega)]
              omega
            obtain ⟨z, hz⟩ : ∃ z, z = acc + b.toNat * 4398046511104 := ⟨_, rfl⟩
            have hz64 : z < 18446744073709551616 := by omega
            have hTK : takeL 6 acc (b :: l.drop (6 + 1)) = some (z, l.drop (6 + 1)) := by
              rw [takeL, if_neg (by omega), if_pos (by omega), hz]
              first | done | simp
            have HTK := Lib.hid hTK
            have huz := unzig_code hz64
            rw [← hz] at hor
            have ha1 : bits .and .u64 (z : Int) 1 = (z : Int) % 2 := Lib.u64_and1 _ (by omega) (by omega)
            have hw3 : IntKind.i64.wrap ((z : Int) / 2) = (z : Int) / 2 := by rw [IntKind.wrap_i64]; omega
            have hw4 : IntKind.i64.wrap ((z : Int) % 2) = (z : Int) % 2 := by rw [IntKind.wrap_i64]; omega
            have hw5 : IntKind.i64.wrap (-((z : Int) % 2)) = -((z : Int) % 2) := by rw [IntKind.wrap_i64]; omega
            have HZ := Lib.hid hz
            have lcut : (6 : Int) + 1 ≤ (l.length : Int) := by omega
            clear hz hTK hacc HCELL
            have HN := Lib.hid (show readN (some l) = (Lib.unzigzag z, some (l.drop (6 + 1))) from by
              have e0 : readN (some l) = match takeL 0 0 l with
                | none => (0, none)
                | some (y, r) => (Lib.unzigzag y, some r) := rfl
              rw [e0, HK.out, HTK.out])
            go_wp2_with fail
            all_goals
              go_ret
              rw [HN.out]
              exact ⟨rfl, last_at HB.out HBA.out 6 _ _ (by omega) (fun hh => by first | rfl | omega) (fun ad e => by cases e; rfl) (HUB.out _ _ _ rfl)⟩
          · have hb2 : ((b.toNat : Int) == 0) = false := by rw [beq_eq_false_iff_ne]; omega
            have hand : bits .and .u8 (b.toNat : Int) 127 = (b.toNat : Int) % 128 := u8_and127 _ (by omega) (by omega)
            have hw1 : IntKind.u64.wrap ((b.toNat : Int) % 128) = (b.toNat : Int) % 128 := u64_wrap_id _ (by omega) (by omega)
            have hw2 : IntKind.u64.wrap ((b.toNat : Int) % 128 * 4398046511104) = (b.toNat : Int) % 128 * 4398046511104 := u64_wrap_id _ (by omega) (by omega)
            have hor : bits .or .u64 (acc : Int) ((b.toNat : Int) % 128 * 4398046511104) = ((acc + b.toNat % 128 * 4398046511104 : Nat) : Int) := by
              rw [u64_orv42 _ _ (by omega) (by omega) (by omega) (by omega) (by omega)]
              omega
            have hTK : takeL 6 acc (b :: l.drop (6 + 1)) = takeL (6 + 1) (acc + b.toNat % 128 * 4398046511104) (l.drop (6 + 1)) := by
              rw [takeL, if_neg (by omega), if_neg (by omega)]
            have HTK := Lib.hid (HK.out.trans hTK)
            have hnb : ((b.toNat : Int) < 128) = False := by simp; omega
            clear hTK HCELL
            go_wp2_with fail
            refine ⟨⟨trivial, 6 + 1, acc + b.toNat % 128 * 4398046511104, by simp, ?_, by omega, by omega, ?_, HTK⟩, by simp only [RowKit.intOf]; omega⟩
            · first | rfl | (congr 1; omega)
            · show _ < 2 ^ 49
              omega
        · have hacc2 : acc < 562949953421312 := by simpa using hacc
          have hcell : wr.cell? ⟨b0, o0 + 7, none⟩ = some (.int .u8 (b.toNat : Int)) := HCELL.out
          by_cases hz0 : b.toNat = 0
          · have hb2 : ((b.toNat : Int) == 0) = true := by rw [beq_iff_eq]; omega
            go_wp2_with fail
            (with_reducible refine HFA.out.mono ?_)
            rintro e w6 ⟨rfl, hr6, hb6⟩
            go_wp2
            go_ret
            have hN : readN (some l) = (0, none) := by
              have e0 : readN (some l) = match takeL 0 0 l with
                | none => (0, none)
                | some (y, r) => (Lib.unzigzag y, some r) := rfl
              rw [e0, HK.out, takeL, if_pos (.inr ⟨by omega, hz0⟩)]
            rw [hN]
            exact ⟨rfl, hr6, hb6⟩
          by_cases hb : b.toNat < 128
          · have hb2 : ((b.toNat : Int) == 0) = false := by rw [beq_eq_false_iff_ne]; omega
            have hand : bits .and .u8 (b.toNat : Int) 127 = (b.toNat : Int) := by rw [u8_and127 _ (by omega) (by omega)]; omega
            have hw1 : IntKind.u64.wrap (b.toNat : Int) = (b.toNat : Int) := u64_wrap_id _ (by omega) (by omega)
            have hw2 : IntKind.u64.wrap ((b.toNat : Int) * 562949953421312) = (b.toNat : Int) * 562949953421312 := u64_wrap_id _ (by omega) (by omega)
            have hor : bits .or .u64 (acc : Int) ((b.toNat : Int) * 562949953421312) = ((acc + b.toNat * 562949953421312 : Nat) : Int) := by
              rw [u64_orv49 _ _ (by omega) (by omega) (by omega) (by omega) (by omega)]
              omega
            obtain ⟨z, hz⟩ : ∃ z, z = acc + b.toNat * 562949953421312 := ⟨_, rfl⟩
            have hz64 : z < 18446744073709551616 := by omega
            have hTK : takeL 7 acc (b :: l.drop (7 + 1)) = some (z, l.drop (7 + 1)) := by
              rw [takeL, if_neg (by omega), if_pos (by omega), hz]
              first | done | simp
            have HTK := Lib.hid hTK
            have huz := unzig_code hz64
            rw [← hz] at hor
            have ha1 : bits .and .u64 (z : Int) 1 = (z : Int) % 2 := Lib.u64_and1 _ (by omega) (by omega)
            have hw3 : IntKind.i64.wrap ((z : Int) / 2) = (z : Int) / 2 := by rw [IntKind.wrap_i64]; omega
            have hw4 : IntKind.i64.wrap ((z : Int) % 2) = (z : Int) % 2 := by rw [IntKind.wrap_i64]; omega
            have hw5 : IntKind.i64.wrap (-((z : Int) % 2)) = -((z : Int) % 2) := by rw [IntKind.wrap_i64]; omega
            have HZ := Lib.hid hz
            have lcut : (7 : Int) + 1 ≤ (l.length : Int) := by omega
            clear hz hTK hacc HCELL
            have HN := Lib.hid (show readN (some l) = (Lib.unzigzag z, some (l.drop (7 + 1))) from by
              have e0 : readN (some l) = match takeL 0 0 l with
                | none => (0, none)
                | some (y, r) => (Lib.unzigzag y, some r) := rfl
              rw [e0, HK.out, HTK.out])
            go_wp2_with fail
            all_goals
              go_ret
              rw [HN.out]
              exact ⟨rfl, last_at HB.out HBA.out 7 _ _ (by omega) (fun hh => by first | rfl | omega) (fun ad e => by cases e; rfl) (HUB.out _ _ _ rfl)⟩
          · have hb2 : ((b.toNat : Int) == 0) = false := by rw [beq_eq_false_iff_ne]; omega
            have hand : bits .and .u8 (b.toNat : Int) 127 = (b.toNat : Int) % 128 := u8_and127 _ (by omega) (by omega)
            have hw1 : IntKind.u64.wrap ((b.toNat : Int) % 128) = (b.toNat : Int) % 128 := u64_wrap_id _ (by omega) (by omega)
            have hw2 : IntKind.u64.wrap ((b.toNat : Int) % 128 * 562949953421312) = (b.toNat : Int) % 128 * 562949953421312 := u64_wrap_id _ (by omega) (by omega)
            have hor : bits .or .u64 (acc : Int) ((b.toNat : Int) % 128 * 562949953421312) = ((acc + b.toNat % 128 * 562949953421312 : Nat) : Int) := by
              rw [u64_orv49 _ _ (by omega) (by omega) (by omega) (by omega) (by omega)]
              omega
            have hTK : takeL 7 acc (b :: l.drop (7 + 1)) = takeL (7 + 1) (acc + b.toNat % 128 * 562949953421312) (l.drop (7 + 1)) := by
              rw [takeL, if_neg (by omega), if_neg (by omega)]
            have HTK := Lib.hid (HK.out.trans hTK)
            have hnb : ((b.toNat : Int) < 128) = False := by simp; omega
            clear hTK HCELL
            go_wp2_with fail
            refine ⟨⟨trivial, 7 + 1, acc + b.toNat % 128 * 562949953421312, by simp, ?_, by omega, by omega, ?_, HTK⟩, by simp only [RowKit.intOf]; omega⟩
            · first | rfl | (congr 1; omega)
            · show _ < 2 ^ 56
              omega
        · have hacc2 : acc < 72057594037927936 := by simpa using hacc
          have hcell : wr.cell? ⟨b0, o0 + 8, none⟩ = some (.int .u8 (b.toNat : Int)) := HCELL.out
          by_cases hz0 : b.toNat = 0
          · have hb2 : ((b.toNat : Int) == 0) = true := by rw [beq_iff_eq]; omega
            go_wp2_with fail
            (with_reducible refine HFA.out.mono ?_)
            rintro e w6 ⟨rfl, hr6, hb6⟩
            go_wp2
            go_ret
            have hN : readN (some l) = (0, none) := by
              have e0 : readN (some l) = match takeL 0 0 l with
                | none => (0, none)
                | some (y, r) => (Lib.unzigzag y, some r) := rfl
              rw [e0, HK.out, takeL, if_pos (.inr ⟨by omega, hz0⟩)]
            rw [hN]
            exact ⟨rfl, hr6, hb6⟩
          by_cases hb : b.toNat < 128
          · have hb2 : ((b.toNat : Int) == 0) = false := by rw [beq_eq_false_iff_ne]; omega
            have hand : bits .and .u8 (b.toNat : Int) 127 = (b.toNat : Int) := by rw [u8_and127 _ (by omega) (by omega)]; omega
            have hw1 : IntKind.u64.wrap (b.toNat : Int) = (b.toNat : Int) := u64_wrap_id _ (by omega) (by omega)
            have hw2 : IntKind.u64.wrap ((b.toNat : Int) * 72057594037927936) = (b.toNat : Int) * 72057594037927936 := u64_wrap_id _ (by omega) (by omega)
            have hor : bits .or .u64 (acc : Int) ((b.toNat : Int) * 72057594037927936) = ((acc + b.toNat * 72057594037927936 : Nat) : Int) := by
              rw [u64_orv56 _ _ (by omega) (by omega) (by omega) (by omega) (by omega)]
              omega
            obtain ⟨z, hz⟩ : ∃ z, z = acc + b.toNat * 72057594037927936 := ⟨_, rfl⟩
            have hz64 : z < 18446744073709551616 := by omega
            have hTK : takeL 8 acc (b :: l.drop (8 + 1)) = some (z, l.drop (8 + 1)) := by
              rw [takeL, if_neg (by omega), if_pos (by omega), hz]
              first | done | simp
            have HTK := Lib.hid hTK
            have huz := unzig_code hz64
            rw [← hz] at hor
            have ha1 : bits .and .u64 (z : Int) 1 = (z : Int) % 2 := Lib.u64_and1 _ (by omega) (by omega)
            have hw3 : IntKind.i64.wrap ((z : Int) / 2) = (z : Int) / 2 := by rw [IntKind.wrap_i64]; omega
            have hw4 : IntKind.i64.wrap ((z : Int) % 2) = (z : Int) % 2 := by rw [IntKind.wrap_i64]; omega
            have hw5 : IntKind.i64.wrap (-((z : Int) % 2)) = -((z : Int) % 2) := by rw [IntKind.wrap_i64]; omega
            have HZ := Lib.hid hz
            have lcut : (8 : Int) + 1 ≤ (l.length : Int) := by omega
            clear hz hTK hacc HCELL
            have HN := Lib.hid (show readN (some l) = (Lib.unzigzag z, some (l.drop (8 + 1))) from by
              have e0 : readN (some l) = match takeL 0 0 l with
                | none => (0, none)
                | some (y, r) => (Lib.unzigzag y, some r) := rfl
              rw [e0, HK.out, HTK.out])
            go_wp2_with fail
            all_goals
              go_ret
              rw [HN.out]
              exact ⟨rfl, last_at HB.out HBA.out 8 _ _ (by omega) (fun hh => by first | rfl | omega) (fun ad e => by cases e; rfl) (HUB.out _ _ _ rfl)⟩
          · have hb2 : ((b.toNat : Int) == 0) = false := by rw [beq_eq_false_iff_ne]; omega
            have hand : bits .and .u8 (b.toNat : Int) 127 = (b.toNat : Int) % 128 := u8_and127 _ (by omega) (by omega)
            have hw1 : IntKind.u64.wrap ((b.toNat : Int) % 128) = (b.toNat : Int) % 128 := u64_wrap_id _ (by omega) (by omega)
            have hw2 : IntKind.u64.wrap ((b.toNat : Int) % 128 * 72057594037927936) = (b.toNat : Int) % 128 * 72057594037927936 := u64_wrap_id _ (by omega) (by omega)
            have hor : bits .or .u64 (acc : Int) ((b.toNat : Int) % 128 * 72057594037927936) = ((acc + b.toNat % 128 * 72057594037927936 : Nat) : Int) := by
              rw [u64_orv56 _ _ (by omega) (by omega) (by omega) (by omega) (by omega)]
              omega
            have hTK : takeL 8 acc (b :: l.drop (8 + 1)) = takeL (8 + 1) (acc + b.toNat % 128 * 72057594037927936) (l.drop (8 + 1)) := by
              rw [takeL, if_neg (by omega), if_neg (by omega)]
            have HTK := Lib.hid (HK.out.trans hTK)
            have hnb : ((b.toNat : Int) < 128) = False := by simp; omega
            clear hTK HCELL
            go_wp2_with fail
            refine ⟨⟨trivial, 8 + 1, acc + b.toNat % 128 * 72057594037927936, by simp, ?_, by omega, by omega, ?_, HTK⟩, by simp only [RowKit.intOf]; omega⟩
            · first | rfl | (congr 1; omega)
            · show _ < 2 ^ 63
              omega
        · have hacc2 : acc < 9223372036854775808 := by simpa using hacc
          have hcell : wr.cell? ⟨b0, o0 + 9, none⟩ = some (.int .u8 (b.toNat : Int)) := HCELL.out
          by_cases hb1 : b.toNat = 1
          · have hb2 : ((b.toNat : Int) == 1) = true := by rw [beq_iff_eq]; omega
            have hb4 : (b.toNat : Int) = 1 := by omega
            clear hb2
            have hand : bits .and .u8 (b.toNat : Int) 127 = (b.toNat : Int) := by rw [u8_and127 _ (by omega) (by omega)]; omega
            have hw1 : IntKind.u64.wrap (b.toNat : Int) = (b.toNat : Int) := u64_wrap_id _ (by omega) (by omega)
            have hw2 : IntKind.u64.wrap ((b.toNat : Int) * 9223372036854775808) = (b.toNat : Int) * 9223372036854775808 := u64_wrap_id _ (by omega) (by omega)
            have hor : bits .or .u64 (acc : Int) ((b.toNat : Int) * 9223372036854775808) = ((acc + b.toNat * 9223372036854775808 : Nat) : Int) := by
              rw [u64_orv63 _ _ (by omega) (by omega) (by omega) (by omega) (by omega)]
              omega
            obtain ⟨z, hz⟩ : ∃ z, z = acc + b.toNat * 9223372036854775808 := ⟨_, rfl⟩
            have hz64 : z < 18446744073709551616 := by omega
            have hTK : takeL 9 acc (b :: l.drop (9 + 1)) = some (z, l.drop (9 + 1)) := by
              rw [takeL, if_neg (by omega), if_pos (by omega), hz]
              first | done | simp
            have HTK := Lib.hid hTK
            have huz := unzig_code hz64
            rw [← hz] at hor
            have ha1 : bits .and .u64 (z : Int) 1 = (z : Int) % 2 := Lib.u64_and1 _ (by omega) (by omega)
            have hw3 : IntKind.i64.wrap ((z : Int) / 2) = (z : Int) / 2 := by rw [IntKind.wrap_i64]; omega
            have hw4 : IntKind.i64.wrap ((z : Int) % 2) = (z : Int) % 2 := by rw [IntKind.wrap_i64]; omega
            have hw5 : IntKind.i64.wrap (-((z : Int) % 2)) = -((z : Int) % 2) := by rw [IntKind.wrap_i64]; omega
            have HZ := Lib.hid hz
            have lcut : (9 : Int) + 1 ≤ (l.length : Int) := by omega
            have hd1 : bits .and .u8 1 127 = 1 := by decide +kernel
            have hd2 : IntKind.u64.wrap 1 = 1 := by decide +kernel
            have hd3 : IntKind.u64.wrap 9223372036854775808 = 9223372036854775808 := by decide +kernel
            have hd4 : bits .or .u64 (acc : Int) 9223372036854775808 = (z : Int) := by rw [show (9223372036854775808 : Int) = (b.toNat : Int) * 9223372036854775808 by omega]; exact hor
            clear hb1 hz hTK hacc HCELL
            have HN := Lib.hid (show readN (some l) = (Lib.unzigzag z, some (l.drop (9 + 1))) from by
              have e0 : readN (some l) = match takeL 0 0 l with
                | none => (0, none)
                | some (y, r) => (Lib.unzigzag y, some r) := rfl
              rw [e0, HK.out, HTK.out])
            go_wp2_with fail
            all_goals
              go_ret
              rw [HN.out]
              exact ⟨rfl, last_at HB.out HBA.out 9 _ _ (by omega) (fun hh => by first | rfl | omega) (fun ad e => by cases e; rfl) (HUB.out _ _ _ rfl)⟩
          · have hb2 : ((b.toNat : Int) == 1) = false := by rw [beq_eq_false_iff_ne]; omega
            have hb4 : ¬ (b.toNat : Int) = 1 := by omega
            go_wp2_with fail
            (with_reducible refine HFA.out.mono ?_)
            rintro e w6 ⟨rfl, hr6, hb6⟩
            go_wp2
            go_ret
            have hN : readN (some l) = (0, none) := by
              have e0 : readN (some l) = match takeL 0 0 l with
                | none => (0, none)
                | some (y, r) => (Lib.unzigzag y, some r) := rfl
              rw [e0, HK.out, takeL, if_pos (.inl ⟨rfl, hb1⟩)]
            rw [hN]
            exact ⟨rfl, hr6, hb6⟩
      · obtain rfl : k = l.length := by omega
        go_wp2_with fail
        (with_reducible refine HFA.out.mono ?_)
        rintro e w6 ⟨rfl, hr6, hb6⟩
        go_wp2
        go_ret
        have hN : readN (some l) = (0, none) := by
          have e0 : readN (some l) = match takeL 0 0 l with
            | none => (0, none)
            | some (y, r) => (Lib.unzigzag y, some r) := rfl
          rw [e0, HK.out, List.drop_length, takeL]
        rw [hN]
        exact ⟨rfl, hr6, hb6⟩
end Go.Proofs.YtkjajlolfcioiaaGreatDoor.Pack

/- pack.New, Reader.Done, walked. -/
namespace Go.Proofs.YtkjajlolfcioiaaGreatDoor.Pack
open Go Go.RowKit Go.Proofs Go.Proofs.YtkjajlolfcioiaaGreatDoor Go.Proofs.YtkjajlolfcioiaaGreatDoor.Own Go.Proofs.YtkjajlolfcioiaaGreatDoor.Check
set_option maxHeartbeats 1000000 in
set_option maxRecDepth 100000 in
theorem new_calls (v : Value) (l : List UInt8) (w : World) (h : BytesAt w v l) (hl : l.length ≤ 1000000) :
    Calls Tryz.prog 92 #[v] w fun e w' => ∃ rb, e = .returned (.pointer (some ⟨rb, 0, none⟩)) ∧ w.heap.size ≤ rb ∧ RdAt w' rb (some l) ∧ Below w.heap.size w w' := by
  obtain ⟨A, c, rfl, hc, hr⟩ := h
  have hmk := make_bytes l.length l.length (Nat.le_refl _) (by omega) w
  obtain ⟨W1, hW1⟩ : ∃ W1, w.alloc (.cells (madeCells #[.int .u8 0] l.length) 5) = W1 := ⟨_, rfl⟩
  have HW1 := Lib.hid (show Below w.heap.size w W1 from by rw [← hW1]; exact (Below.refl _ _).alloc (Nat.le_refl _) _)
  have HZ1 := Lib.hid (show W1.heap.size = w.heap.size + 1 from by rw [← hW1]; simp)
  have hg1 : W1.heap[w.heap.size]? = some (.cells (madeCells #[.int .u8 0] l.length).toList.toArray 5 (0, 0)) := by rw [← hW1]; simpa using heap_new w _
  have hcur : (madeCells #[(.int .u8 0 : Value)] l.length).toList.length = l.length := by simp [size_madeCells]
  rw [hW1] at hmk
  clear hW1
  generalize (madeCells #[(.int .u8 0 : Value)] l.length).toList = cur at hg1 hcur
  have HG1 := Lib.hid hg1
  have HCU := Lib.hid hcur
  have HR := Lib.hid hr
  clear hr hg1 hcur
  have HC2 := Lib.hid (show 0 < (Lib.byteCells l).length → (some (⟨w.heap.size, 0, none⟩ : Addr)) = some ⟨w.heap.size, 0, none⟩ ∧ ∃ ad, A = some ad ∧ ∀ j v, (Lib.byteCells l)[j]? = some v → W1.cell? (ad.add j) = some v from by
    intro h0
    rw [byteLen] at h0
    obtain ⟨b, o, rfl, hcells⟩ := HR.out h0
    refine ⟨rfl, _, rfl, fun j u hj => ?_⟩
    have := kc HW1.out (hcells j u hj)
    rwa [show (⟨b, o, none⟩ : Addr).add j = ⟨b, o + j, none⟩ from by unfold Addr.add; split <;> simp_all])
  go_enter Tryz.func92, Tryz.ntmps92
  go_wp2_with (refine wpList_copy_splice rfl _ _ 145 145 rfl 5 Tryz.underlying145 byte_size _ _ _ _ _ _ rfl rfl w.heap.size 0 cur 5 HG1.out (Lib.byteCells l) (by rw [byteLen]; simp) HC2.out (by have := HCU.out; rw [byteLen]; omega) (byteOne l) w.heap.size w HW1.out (Nat.le_refl _) ?_; intro W2 hg2 hB2)
  go_ret
  have hcu := HCU.out
  have hs : splice cur 0 (Lib.byteCells l) = Lib.byteCells l := by
    have : cur.drop (Lib.byteCells l).length = [] := List.drop_eq_nil_of_le (by rw [byteLen]; omega)
    simp [splice, this]
  have hgo : W2.heap[w.heap.size]? = some (.cells (Lib.byteCells l).toArray 5 (0, 0)) := by rw [hg2.out, hs]
  refine ⟨W2.heap.size, rfl, hB2.size, ⟨_, heap_new W2 _, ⟨_, _, rfl, Nat.le_refl _, fun _ => ⟨w.heap.size, 0, rfl, fun j u hj => ?_⟩⟩, fun ad n c e => by cases e; exact (Array.getElem?_eq_some_iff.1 hgo).1⟩, hB2.alloc hB2.size _⟩
  have hk : (W2.alloc (.cells #[.slice (some ⟨w.heap.size, 0, none⟩) l.length l.length, .bool false] 179)).heap[w.heap.size]? = some (.cells (Lib.byteCells l).toArray 5 (0, 0)) := heap_up hgo
  rw [Nat.zero_add, cell_of_row _ _ _ _ _ _ hk]
  simpa using hj
theorem done_calls (rb : Nat) (q : Rd) (w : World) (h : RdAt w rb q) :
    Calls Tryz.prog 94 #[.pointer (some ⟨rb, 0, none⟩)] w fun e w' => e = .returned (.bool (decide (q = some []))) ∧ w' = w := by
  cases q with
  | none =>
    have h1 : w.cell? ⟨rb, 1, none⟩ = some (.bool true) := by rw [cell_of_row _ _ _ _ _ _ h]; rfl
    clear h
    go_enter Tryz.func94, Tryz.ntmps94
    go_wp2
    go_ret
    exact ⟨rfl, rfl⟩
  | some l =>
    obtain ⟨v, hb, ⟨A, c, rfl, hc, hr⟩, -⟩ := h
    have h0 : w.cell? ⟨rb, 0, none⟩ = some (.slice A l.length c) := by rw [cell_of_row _ _ _ _ _ _ hb]; rfl
    have h1 : w.cell? ⟨rb, 1, none⟩ = some (.bool false) := by rw [cell_of_row _ _ _ _ _ _ hb]; rfl
    clear hb hr
    go_enter Tryz.func94, Tryz.ntmps94
    go_wp2
    go_ret
    refine ⟨?_, rfl⟩
    have e : (((l.length : Int) == 0) : Bool) = decide ((some l : Rd) = some []) := by
      rw [Bool.eq_iff_iff]
      simp
    rw [← e]
    rfl
end Go.Proofs.YtkjajlolfcioiaaGreatDoor.Pack
