/- ControlNil, walked: true of any command. -/
import Derived.Test.YtkjajlolfcioiaaGreatDoorZCtlEx
namespace Go.Proofs.YtkjajlolfcioiaaGreatDoor.Control
open Go Go.RowKit Go.MapKept Go.Maps Go.Proofs Go.Proofs.YtkjajlolfcioiaaGreatDoor Go.Proofs.YtkjajlolfcioiaaGreatDoor.Expr Go.Proofs.YtkjajlolfcioiaaGreatDoor.Own Go.Proofs.YtkjajlolfcioiaaGreatDoor.Tail Go.Proofs.YtkjajlolfcioiaaGreatDoor.Mp Go.Proofs.YtkjajlolfcioiaaGreatDoor.Ints Go.Proofs.YtkjajlolfcioiaaGreatDoor.Plan Go.Proofs.YtkjajlolfcioiaaGreatDoor.Check Go.Proofs.YtkjajlolfcioiaaGreatDoor.Graph Go.Proofs.YtkjajlolfcioiaaGreatDoor.Ctl
set_option maxHeartbeats 4000000 in
set_option maxRecDepth 100000 in
theorem lawNil_calls (kind flow att num wk rd kp : Int) (A : Option Addr) (n c : Nat) (w : World) (hT : Tab w) (hg : 5 < w.heap.size) :
    Calls Tryz.prog 12 #[.agg #[.int .i64 kind, .int .i64 flow, .int .i64 att, .int .i64 num, .int .i64 wk, .int .i64 rd, .int .i64 kp, .slice A n c]] w (AwakePost w) := by
  have CA := Lib.hid (fun (X : World) (k : Below w.heap.size w X) => awake_calls X (hT.below k) (Nat.lt_of_lt_of_le hg k.size))
  have CJ := Lib.hid (fun (X : World) => show Calls Tryz.prog 33 #[.pointer none, .int .i64 0] X fun e w' => e = .returned (.tuple #[.agg #[.int .i64 0, .int .i64 0, .int .i64 0, .int .i64 0, .int .i64 0, .int .i64 0, .slice none 0 0, .slice none 0 0], .int .i64 3]) ∧ Below X.heap.size X w' from jobNil_calls 0 X)
  have CS := Lib.hid (fun (X : World) => show Calls Tryz.prog 36 #[.agg #[.int .i64 0, .int .i64 0, .int .i64 0, .int .i64 0, .int .i64 0, .int .i64 0, .slice none 0 0, .slice none 0 0], .agg #[.int .i64 0, .int .i64 0, .int .i64 0, .int .i64 0, .int .i64 0, .int .i64 0, .slice none 0 0, .slice none 0 0]] X fun e w' => e = .returned (.bool true) ∧ Below X.heap.size X w' from
    same_calls ⟨0, 0, 0, 0, 0, 0, [], []⟩ (.slice none 0 0) (.slice none 0 0) (.slice none 0 0) (.slice none 0 0) X (nil_ints X) (parts_none X) (nil_ints X) (parts_none X) (by decide) (by decide))
  clear hT hg
  go_enter Tryz.func12, Tryz.ntmps12
  go_wp2_with (first
    | (go_at_call 33; (with_reducible refine (CJ.out _).mono ?_); rintro e w1 ⟨rfl, hB1⟩; have hx := fun (j : Nat) (u : Value) (hj : #[Value.int .i64 kind, .int .i64 flow, .int .i64 att, .int .i64 num, .int .i64 wk, .int .i64 rd, .int .i64 kp, .slice A n c][j]? = some u) => kc hB1 (cell_new (X := w) (T := 60) rfl hj); have x0 := hx 0 _ rfl; have x1 := hx 1 _ rfl; have x2 := hx 2 _ rfl; have x3 := hx 3 _ rfl; have x4 := hx 4 _ rfl; have x5 := hx 5 _ rfl; have x6 := hx 6 _ rfl; have x7 := hx 7 _ rfl; have hlt := lt_of_cell x0; have HB1 := Lib.hid (go (box_below _ _) hB1); clear hx hB1)
    | (go_at_call 32; (with_reducible refine (CA.out _ (balloc HB1.out _)).mono ?_); rintro e w2 ⟨rfl, hB2⟩; have HB2 := Lib.hid (go (balloc HB1.out (.cells #[.int .i64 0, .int .i64 0, .int .i64 0, .int .i64 0, .int .i64 0, .int .i64 0, .slice none 0 0, .slice none 0 0] 55)) hB2); have y0 := kc hB2 (kc (box_below _ _) x0); have y1 := kc hB2 (kc (box_below _ _) x1); have y2 := kc hB2 (kc (box_below _ _) x2); have y3 := kc hB2 (kc (box_below _ _) x3); have y4 := kc hB2 (kc (box_below _ _) x4); have y5 := kc hB2 (kc (box_below _ _) x5); have y6 := kc hB2 (kc (box_below _ _) x6); have y7 := kc hB2 (kc (box_below _ _) x7); have hz := fun (j : Nat) (u : Value) (hj : #[Value.int .i64 0, .int .i64 0, .int .i64 0, .int .i64 0, .int .i64 0, .int .i64 0, .slice none 0 0, .slice none 0 0][j]? = some u) => kc hB2 (cell_new (X := w1) (T := 55) rfl hj); have z0 := hz 0 _ rfl; have z1 := hz 1 _ rfl; have z2 := hz 2 _ rfl; have z3 := hz 3 _ rfl; have z4 := hz 4 _ rfl; have z5 := hz 5 _ rfl; have z6 := hz 6 _ rfl; have z7 := hz 7 _ rfl; clear hz hB2 x0 x1 x2 x3 x4 x5 x6 x7 HB1)
    | (go_at_call 34; (with_reducible refine (doNil_calls _ _).mono ?_); rintro e w3 ⟨rfl, hB3⟩; have z30 := kc hB3 z0; have z31 := kc hB3 z1; have z32 := kc hB3 z2; have z33 := kc hB3 z3; have z34 := kc hB3 z4; have z35 := kc hB3 z5; have z36 := kc hB3 z6; have z37 := kc hB3 z7; have HB3 := Lib.hid (go HB2.out hB3); clear hB3 z0 z1 z2 z3 z4 z5 z6 z7 y0 y1 y2 y3 y4 y5 y6 y7 HB2)
    | (go_at_call 36; (with_reducible refine (CS.out _).mono ?_); rintro e w4 ⟨rfl, hB4⟩; have HB4 := Lib.hid (go HB3.out hB4); clear hB4)
    | (go_at_call 35; (with_reducible refine (liveNil_calls _).mono ?_); rintro e w5 ⟨rfl, hB5⟩; have HB5 := Lib.hid (go HB4.out hB5); clear hB5)
    | (go_at_call 43; (with_reducible refine (lifeNil_calls _ _).mono ?_); rintro e w6 ⟨rfl, hB6⟩; have HB6 := Lib.hid (go HB5.out hB6); clear hB6))
  go_ret
  exact ⟨rfl, HB6.out⟩
end Go.Proofs.YtkjajlolfcioiaaGreatDoor.Control
