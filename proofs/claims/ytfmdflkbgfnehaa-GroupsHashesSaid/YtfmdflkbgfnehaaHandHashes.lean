/- Any key's number and group are the document's. -/
import Derived.Test.YtfmdflkbgfnehaaHandAwake
namespace Go.Proofs.Ytfmdflkbgfnehaa.Hand
open Go.RowKit Go.Shelf Go.Proofs.Ytfmdflkbgfnehaa

theorem hstep64 (x : Int) (c : UInt8) (h0 : 0 ≤ x) (h1 : x < 4294967296) :
    ((IntKind.u64.wrap (bits BinOp.xor IntKind.u64 x (IntKind.u64.wrap (c.toNat : Int)) * 16777619)).tmod 4294967296) = hstep x c := by
  have hc := c.toNat_lt
  obtain ⟨n, rfl⟩ := Int.eq_ofNat_of_zero_le h0
  have hx : n ^^^ c.toNat < 2 ^ 32 := Nat.xor_lt_two_pow (by omega) (by omega)
  unfold hstep
  rw [IntWalk.u64_in (c.toNat : Int) (by omega), Int.emod_eq_of_lt (by omega) (by omega : (c.toNat : Int) < 4294967296), bits_xor_u64_nat n c.toNat (by omega) (by omega), u32_xor_nat n c.toNat (by omega) (by omega)]
  rw [IntWalk.u64_in _ (by omega), Int.tmod_eq_emod_of_nonneg (by omega)]

set_option maxHeartbeats 1000000 in
set_option maxRecDepth 100000 in
theorem refHash_calls (s : ByteArray) (w : World) (hs : s.size ≤ 140737488351232) :
    Calls Try.prog 9 #[.string s] w fun e w' => e = .returned (.int .u32 (hashL s.data.toList)) ∧ w = w' := by
  go_enter Try.func9, Try.ntmps9
  go_wp2
  go_loop [3, 4] (fun h i => ∃ (k : Nat) (x : Int), k ≤ s.size ∧ i = .int .i64 k ∧ Hid (x = hashL (s.data.toList.take k)) ∧ h = .int .u64 x ∧ 0 ≤ x ∧ x < 4294967296) (fun _ i => s.size - (intOf i).toNat)
  case atStart => exact ⟨0, _, Nat.zero_le _, rfl, Lib.hid rfl, rfl, (hashL_bd _).1, (hashL_bd _).2⟩
  case round =>
    obtain ⟨k, x, hk, rfl, hx, rfl, h0, h1⟩ := hrel
    by_cases hlt : k < s.size
    · go_wp2
      have hn := hashL_snoc s k hlt
      have hb := hashL_bd (s.data.toList.take (k + 1))
      go_round
      case rel => exact ⟨k + 1, _, by omega, by go_num, Lib.hid (by rw [hn, ← hx.out]; exact hstep64 x _ h0 h1), rfl, by rw [hstep64 x _ h0 h1, hx.out]; exact hn ▸ hb.1, by rw [hstep64 x _ h0 h1, hx.out]; exact hn ▸ hb.2⟩
      case measure => simp [intOf]; omega
    · have ht : s.data.toList.take k = s.data.toList := List.take_of_length_le (by simp; omega)
      have hx2 : Hid (x = hashL s.data.toList) := Lib.hid (by rw [hx.out, ht])
      clear ht hx
      go_wp2
      go_ret
      exact ⟨by rw [← hx2.out]; go_num, rfl⟩

set_option maxHeartbeats 1000000 in
set_option maxRecDepth 100000 in
theorem refGroup_calls (s : ByteArray) (w : World) (hs : s.size ≤ 140737488351232) :
    Calls Try.prog 11 #[.string s] w fun e w' => e = .returned (.int .i64 (hashL s.data.toList % 16)) ∧ w = w' := by
  have hb := hashL_bd s.data.toList
  go_enter Try.func11, Try.ntmps11
  go_wp2_with (go_at_call 9; refine (refHash_calls _ _ hs).mono ?_; rintro e w' ⟨rfl, rfl⟩)
  go_ret
  exact ⟨by go_num, rfl⟩

set_option maxHeartbeats 1000000 in
set_option maxRecDepth 100000 in
theorem GroupsHashes_calls (s : ByteArray) (w : World) (hs : s.size ≤ 140737488351232) :
    Calls Try.prog 3 #[.string s] w fun e w' => e = .returned (.bool true) ∧ RowKit.Below w.heap.size w w' := by
  by_cases hlen : 4096 < s.size
  · go_enter Try.func3, Try.ntmps3
    go_wp2
    go_ret
    exact ⟨rfl, Below.refl _ _⟩
  · go_enter Try.func3, Try.ntmps3
    go_wp2_with (first
      | (go_at_call 7; go_must (refine (awake_calls _).mono ?_); rintro e w1 ⟨rfl, hB1⟩)
      | (go_at_call 8; go_must (refine (Hash_calls _ _ hs).mono ?_); rintro e w2 ⟨rfl, hB2⟩)
      | (go_at_call 9; go_must (refine (refHash_calls _ _ hs).mono ?_); rintro e w' ⟨rfl, rfl⟩)
      | (go_at_call 10; go_must (refine (Group_calls _ _ hs).mono ?_); rintro e w3 ⟨rfl, hB3⟩)
      | (go_at_call 11; go_must (refine (refGroup_calls _ _ hs).mono ?_); rintro e w' ⟨rfl, rfl⟩))
    go_ret
    exact ⟨rfl, bgo (bgo hB1 (Nat.le_refl _) hB2) (Nat.le_refl _) hB3⟩
end Go.Proofs.Ytfmdflkbgfnehaa.Hand
