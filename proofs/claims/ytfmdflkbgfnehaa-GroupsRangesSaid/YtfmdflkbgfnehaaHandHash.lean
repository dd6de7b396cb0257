/- The hash of a key, walked. -/
import Derived.Test.YtfmdflkbgfnehaaProg
import Derived.WalkKit
import Derived.KernelRfl
import Derived.Lib.ConvBytes
namespace Go.Proofs.Ytfmdflkbgfnehaa.Hand
open Go.RowKit Go.Proofs.Ytfmdflkbgfnehaa

theorem bytes_below {B : Nat} {w W : World} (h : Below B w W) (hB : B ≤ W.heap.size) (e : TypeId) (s : ByteArray) : Below B w (Lib.bytesWorld W e s) :=
  h.grown (row := none) ⟨rfl, rfl, rfl, by rw [Lib.bytesWorld_size]; omega, fun k hk _ => Lib.bytesWorld_at_old W e s k hk⟩ hB (fun k e => by cases e)
def hstep (h : Int) (c : UInt8) : Int := ((bits BinOp.xor .u32 h ((c.toNat : Int) % 4294967296)) * 16777619) % 4294967296
def hashL (l : List UInt8) : Int := l.foldl hstep 2166136261

theorem hashL_snoc (s : ByteArray) (k : Nat) (h : k < s.size) : hashL (s.data.toList.take (k + 1)) = hstep (hashL (s.data.toList.take k)) s.data[k] := by
  unfold hashL
  rw [List.take_succ_eq_append_getElem (by simpa using h), List.foldl_append]
  rfl

theorem hashL_bd (l : List UInt8) : 0 ≤ hashL l ∧ hashL l < 4294967296 := by
  rcases List.eq_nil_or_concat l with rfl | ⟨l, c, rfl⟩
  · decide
  · unfold hashL
    rw [List.concat_eq_append, List.foldl_append]
    simp only [List.foldl_cons, List.foldl_nil, hstep]
    omega

set_option maxHeartbeats 1000000 in
set_option maxRecDepth 100000 in
theorem Hash_calls (s : ByteArray) (w : World) (hs : s.size ≤ 140737488351232) :
    Calls Try.prog 8 #[.string s] w fun e w' => e = .returned (.int .u32 (hashL s.data.toList)) ∧ Below w.heap.size w w' := by
  have hconv := Lib.run_convert_string_bytes (P := Try.prog) w 9 46 5 s Try.underlying9 Try.underlying46 Try.underlying5
  go_enter Try.func8, Try.ntmps8
  go_wp2
  go_loop [3, 9] (fun h i => ∃ k : Nat, k ≤ s.size ∧ i = .int .i64 k ∧ h = .int .u32 (hashL (s.data.toList.take k))) (fun _ i => s.size - (intOf i).toNat)
  case atStart => exact ⟨0, Nat.zero_le _, rfl, rfl⟩
  case round =>
    obtain ⟨k, hk, rfl, rfl⟩ := hrel
    by_cases hlt : k < s.size
    · have hc := Lib.bytesWorld_cell w 5 s k hlt
      go_wp2
      go_round
      case rel => exact ⟨k + 1, by omega, by go_num, by rw [hashL_snoc s k hlt]; rfl⟩
      case measure => simp [intOf]; omega
    · go_wp2
      go_ret
      exact ⟨by rw [List.take_of_length_le (by simp; omega)]; rfl, bytes_below (Below.refl _ _) (Nat.le_refl _) _ _⟩
end Go.Proofs.Ytfmdflkbgfnehaa.Hand
