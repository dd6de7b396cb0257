/- the law's same of two commands that are one. -/
import Derived.Test.YtkjajlolfcioiaaGreatDoorYTextD
import Derived.Test.YtkjajlolfcioiaaGreatDoorYCtlEx
namespace Go.Proofs.YtkjajlolfcioiaaGreatDoor.Pack
open Go Go.RowKit Go.Proofs Go.Proofs.YtkjajlolfcioiaaGreatDoor Go.Proofs.YtkjajlolfcioiaaGreatDoor.Own Go.Proofs.YtkjajlolfcioiaaGreatDoor.Tail Go.Proofs.YtkjajlolfcioiaaGreatDoor.Check Go.Proofs.YtkjajlolfcioiaaGreatDoor.Ctl Go.Proofs.YtkjajlolfcioiaaGreatDoor.Control
set_option maxHeartbeats 4000000 in
set_option maxRecDepth 100000 in
theorem sameCmd_calls (c : Cmd) (v1 v2 : Value) (w : World) (h1 : PartsAt w v1 c.parts) (h2 : PartsAt w v2 c.parts) (hl : c.parts.length ≤ 1000) :
    Calls Tryz.prog 47 #[.agg #[.int .i64 c.kind, .int .i64 c.flow, .int .i64 c.att, .int .i64 c.num, .int .i64 c.wk, .int .i64 c.rd, .int .i64 c.kp, v1], .agg #[.int .i64 c.kind, .int .i64 c.flow, .int .i64 c.att, .int .i64 c.num, .int .i64 c.wk, .int .i64 c.rd, .int .i64 c.kp, v2]] w fun e w' => e = .returned (.bool true) ∧ Below w.heap.size w w' := by
  obtain ⟨a1, a2, a3, a4, a5, a6, a7, M⟩ := c
  dsimp only at *
  obtain ⟨A2, c2, rfl, hc2, r2⟩ := h1
  obtain ⟨A4, c4, rfl, hc4, r4⟩ := h2
  have R2 := Lib.hid r2
  have R4 := Lib.hid r4
  clear r2 r4
  have hneq := neqPart
  go_enter Tryz.func47, Tryz.ntmps47
  go_wp2
  obtain ⟨W0, hW0⟩ : ∃ W0, (w.alloc (.cells #[.int .i64 a1, .int .i64 a2, .int .i64 a3, .int .i64 a4, .int .i64 a5, .int .i64 a6, .int .i64 a7, .slice A2 M.length c2] 60)).alloc (.cells #[.int .i64 a1, .int .i64 a2, .int .i64 a3, .int .i64 a4, .int .i64 a5, .int .i64 a6, .int .i64 a7, .slice A4 M.length c4] 60) = W0 := ⟨_, rfl⟩
  have HB0 := Lib.hid (show Below w.heap.size w W0 from by rw [← hW0]; exact balloc (box_below _ _) _)
  have HH1 : W0.heap[w.heap.size]? = some (.cells #[.int .i64 a1, .int .i64 a2, .int .i64 a3, .int .i64 a4, .int .i64 a5, .int .i64 a6, .int .i64 a7, .slice A2 M.length c2] 60) := by rw [← hW0]; exact heap_up (heap_new _ _)
  have HH2 : W0.heap[w.heap.size + 1]? = some (.cells #[.int .i64 a1, .int .i64 a2, .int .i64 a3, .int .i64 a4, .int .i64 a5, .int .i64 a6, .int .i64 a7, .slice A4 M.length c4] 60) := by rw [← hW0]; exact heap_at (by simp)
  have p7 : W0.cell? ⟨w.heap.size, 7, none⟩ = some (.slice A2 M.length c2) := by rw [cell_of_row _ _ _ _ _ _ HH1]; rfl
  have q7 : W0.cell? ⟨w.heap.size + 1, 7, none⟩ = some (.slice A4 M.length c4) := by rw [cell_of_row _ _ _ _ _ _ HH2]; rfl
  have HP := Lib.hid (And.intro p7 q7)
  rw [hW0]
  clear hW0 HH1 HH2 p7 q7
  go_loopw [5] (fun iv wr => ∃ k : Nat, k ≤ M.length ∧ iv = .int .i64 (k : Int) ∧ Hid (Below W0.heap.size W0 wr)) (fun iv _ => M.length - (RowKit.intOf iv).toNat)
  case atStart => exact ⟨0, Nat.zero_le _, rfl, Lib.hid (Below.refl _ _)⟩
  case round =>
    obtain ⟨k, hk2, rfl, HB⟩ := hrel
    have p7 := kc HB.out HP.out.1
    have q7 := kc HB.out HP.out.2
    by_cases hlt : k < M.length
    · have l0 : (k : Int) < (M.length : Int) := by omega
      obtain ⟨b2, o2, e2, hc⟩ := R2.out (by omega)
      obtain ⟨b4, o4, e4, hd⟩ := R4.out (by omega)
      subst e2
      subst e4
      obtain ⟨v, hv⟩ : ∃ v, M[k]? = some v := ⟨_, List.getElem?_eq_getElem hlt⟩
      have f0 := hc (k * 2 + 0) _ (by rw [flat_get partCells 2 (fun _ => rfl) M k 0 v hv (by decide)]; rfl)
      have f1 := hc (k * 2 + 1) _ (by rw [flat_get partCells 2 (fun _ => rfl) M k 1 v hv (by decide)]; rfl)
      have g0 := hd (k * 2 + 0) _ (by rw [flat_get partCells 2 (fun _ => rfl) M k 0 v hv (by decide)]; rfl)
      have g1 := hd (k * 2 + 1) _ (by rw [flat_get partCells 2 (fun _ => rfl) M k 1 v hv (by decide)]; rfl)
      have d20 : wr.cell? ⟨b2, o2 + k * 2, none⟩ = some (.int .i64 v.1) := kb HB.out (by have := lt_of_cell f0; have := HB0.out.size; simp at *; omega) (kc HB0.out f0)
      have d21 : wr.cell? ⟨b2, o2 + k * 2 + 1, none⟩ = some (.int .i64 v.2) := kb HB.out (by have := lt_of_cell f0; have := HB0.out.size; simp at *; omega) (kc HB0.out f1)
      have d40 : wr.cell? ⟨b4, o4 + k * 2, none⟩ = some (.int .i64 v.1) := kb HB.out (by have := lt_of_cell g0; have := HB0.out.size; simp at *; omega) (kc HB0.out g0)
      have d41 : wr.cell? ⟨b4, o4 + k * 2 + 1, none⟩ = some (.int .i64 v.2) := kb HB.out (by have := lt_of_cell g0; have := HB0.out.size; simp at *; omega) (kc HB0.out g1)
      clear f0 f1 g0 g1 hc hd hv
      go_wp2
      go_quiet (fail)
      go_wp2
      go_roundw
      case rel => exact ⟨k + 1, by omega, by simp, Lib.hid (bdrewN HB.out _)⟩
      case measure => simp only [RowKit.intOf]; omega
    · obtain rfl : k = M.length := by omega
      go_wp2
      go_ret
      exact ⟨rfl, HB0.out.trans (HB.out.mono HB0.out.size)⟩
end Go.Proofs.YtkjajlolfcioiaaGreatDoor.Pack

/- ControlTexts, walked: true of any command and text. -/
namespace Go.Proofs.YtkjajlolfcioiaaGreatDoor.Pack
open Go Go.RowKit Go.MapKept Go.Maps Go.Proofs Go.Proofs.YtkjajlolfcioiaaGreatDoor Go.Proofs.YtkjajlolfcioiaaGreatDoor.Expr Go.Proofs.YtkjajlolfcioiaaGreatDoor.Own Go.Proofs.YtkjajlolfcioiaaGreatDoor.Tail Go.Proofs.YtkjajlolfcioiaaGreatDoor.Mp Go.Proofs.YtkjajlolfcioiaaGreatDoor.Ints Go.Proofs.YtkjajlolfcioiaaGreatDoor.Plan Go.Proofs.YtkjajlolfcioiaaGreatDoor.Check Go.Proofs.YtkjajlolfcioiaaGreatDoor.Graph Go.Proofs.YtkjajlolfcioiaaGreatDoor.Ctl Go.Proofs.YtkjajlolfcioiaaGreatDoor.Control
theorem read_cmd (c : Cmd) (w : World) (hi : CmdI c) (hl : c.parts.length ≤ 32) : Calls Tryz.prog 45 #[.string ⟨(cmdB c).toArray⟩] w (ReadPost (some c) w) := by
  have hx : ∀ x ∈ cmdNums c, I64 x := by
    intro x hx
    simp only [cmdNums, List.mem_cons, List.not_mem_nil, or_false] at hx
    rcases hx with rfl | rfl | rfl | rfl | rfl | rfl | rfl | rfl
    · exact hi.kind
    · exact hi.flow
    · exact hi.att
    · exact hi.num
    · exact hi.wk
    · exact hi.rd
    · exact hi.kp
    · exact ⟨by omega, by omega⟩
  have hy : ∀ x ∈ partNums c.parts, I64 x := by
    intro x hx
    obtain ⟨p, hp, hxp⟩ := List.mem_flatMap.1 hx
    simp only [List.mem_cons, List.not_mem_nil, or_false] at hxp
    rcases hxp with rfl | rfl
    · exact (hi.parts p hp).1
    · exact (hi.parts p hp).2
  have h1 := numsB_len _ hx
  have h2 := numsB_len _ hy
  have h3 := partNums_len c.parts
  have h4 : (cmdNums c).length = 8 := rfl
  have hsz : (⟨(cmdB c).toArray⟩ : ByteArray).size ≤ 1000000 := by
    show (cmdB c).toArray.size ≤ _
    unfold cmdB
    simp only [List.size_toArray, List.length_append]
    omega
  have h := read_calls ⟨(cmdB c).toArray⟩ w hsz
  have e : (⟨(cmdB c).toArray⟩ : ByteArray).data.toList = cmdB c := by simp
  rw [e, read_write hi hl] at h
  exact h
theorem parts_nil (X : World) : PartsAt X (.slice none 0 0) [] := ⟨none, 0, rfl, Nat.le_refl _, fun h => absurd h (by decide)⟩
theorem same_zero (X : World) : Calls Tryz.prog 47 #[.agg #[.int .i64 0, .int .i64 0, .int .i64 0, .int .i64 0, .int .i64 0, .int .i64 0, .int .i64 0, .slice none 0 0], .agg #[.int .i64 0, .int .i64 0, .int .i64 0, .int .i64 0, .int .i64 0, .int .i64 0, .int .i64 0, .slice none 0 0]] X fun e w' => e = .returned (.bool true) ∧ Below X.heap.size X w' := sameCmd_calls cmd0 (.slice none 0 0) (.slice none 0 0) X (parts_nil _) (parts_nil _) (by decide)
theorem readC_len {l : List UInt8} {d : Cmd} (h : readC l = some d) : d.parts.length ≤ 1000 := by
  have e : readC l = if (readN (readNs 7 (some l)).2).1 < 0 ∨ 32 < (readN (readNs 7 (some l)).2).1 then none else if (readPs (readN (readNs 7 (some l)).2).1.toNat (readN (readNs 7 (some l)).2).2).2 = some [] then some ⟨(readNs 7 (some l)).1.getD 0 0, (readNs 7 (some l)).1.getD 1 0, (readNs 7 (some l)).1.getD 2 0, (readNs 7 (some l)).1.getD 3 0, (readNs 7 (some l)).1.getD 4 0, (readNs 7 (some l)).1.getD 5 0, (readNs 7 (some l)).1.getD 6 0, (readPs (readN (readNs 7 (some l)).2).1.toNat (readN (readNs 7 (some l)).2).2).1⟩ else none := rfl
  rw [e] at h
  split at h
  · cases h
  · rename_i hm
    split at h
    · cases h
      show (readPs _ _).1.length ≤ 1000
      rw [readPs_len]
      omega
    · cases h
set_option maxHeartbeats 8000000 in
set_option maxRecDepth 100000 in
theorem lawTexts_calls (c : Cmd) (v : Value) (s : ByteArray) (w : World) (hv : PartsAt w v c.parts) (hi : CmdI c) (hT : Tab w) (hg : 5 < w.heap.size) :
    Calls Tryz.prog 13 #[.agg (cmdCells c v), .string s] w (AwakePost w) := by
  have CA := Lib.hid (fun (X : World) (k : Below w.heap.size w X) => awake_calls X (hT.below k) (Nat.lt_of_lt_of_le hg k.size))
  have HV := Lib.hid hv
  have HI := Lib.hid hi
  obtain ⟨A, cp, rfl, hc, -⟩ := hv
  clear hT hg hi
  unfold cmdCells
  go_enter Tryz.func13, Tryz.ntmps13
  by_cases h100 : 100 < c.parts.length
  · have t0 : decide ((100 : Int) < (c.parts.length : Int)) = true := decide_eq_true (by omega)
    go_wp2
    go_ret
    exact ⟨rfl, box_below _ _⟩
  · have t0 : decide ((100 : Int) < (c.parts.length : Int)) = false := decide_eq_false (by omega)
    by_cases hs : 4096 < s.size
    · have t1 : decide ((4096 : Int) < (s.size : Int)) = true := decide_eq_true (by omega)
      go_wp2
      go_ret
      exact ⟨rfl, box_below _ _⟩
    · have t1 : decide ((4096 : Int) < (s.size : Int)) = false := decide_eq_false (by omega)
      have HSL := Lib.hid (show s.size ≤ 1000000 from by omega)
      have HPL := Lib.hid (show c.parts.length ≤ 1000 from by omega)
      by_cases h32 : 32 < c.parts.length
      · have t2 : decide ((32 : Int) < (c.parts.length : Int)) = true := decide_eq_true (by omega)
        have HBY := Lib.hid (fun (X : World) (k : Below w.heap.size w X) => bytes_many c (.slice A c.parts.length cp) X (SliceAt.below HV.out k) h32 HPL.out)
        clear h32 h100 hs
        go_wp2_with fail
        obtain ⟨X0, hX0⟩ : ∃ X0, w.alloc (.cells #[.int .i64 c.kind, .int .i64 c.flow, .int .i64 c.att, .int .i64 c.num, .int .i64 c.wk, .int .i64 c.rd, .int .i64 c.kp, .slice A c.parts.length cp] 60) = X0 := ⟨_, rfl⟩
        have hkX0 : Below w.heap.size w X0 := by rw [← hX0]; exact box_below _ _
        have hrX0 : X0.heap[w.heap.size]? = some (.cells #[.int .i64 c.kind, .int .i64 c.flow, .int .i64 c.att, .int .i64 c.num, .int .i64 c.wk, .int .i64 c.rd, .int .i64 c.kp, .slice A c.parts.length cp] 60) := by rw [← hX0]; exact heap_new _ _
        rw [hX0]
        have HKX0 := Lib.hid hkX0
        have HRX0 := Lib.hid hrX0
        clear hX0 hkX0 hrX0
        (with_reducible refine (HBY.out _ HKX0.out).mono ?_)
        rintro e w5 ⟨rfl, hB5⟩
        have HB5 := Lib.hid (go HKX0.out hB5)
        have q7 := kc hB5 (show X0.cell? ⟨w.heap.size, 7, none⟩ = some (.slice A c.parts.length cp) from by rw [cell_of_row _ _ _ _ _ _ HRX0.out]; rfl)
        clear hB5
        have HRS := Lib.hid (fun (X : World) => read_calls s X HSL.out)
        have HRR := Lib.hid (fun (X : World) => refRead_calls s X HSL.out)
        obtain ⟨oc, hoc⟩ : ∃ oc, readC s.data.toList = oc := ⟨_, rfl⟩
        rw [hoc] at HRS HRR
        have HPD := Lib.hid (show ∀ d, oc = some d → d.parts.length ≤ 1000 from fun d e => readC_len (hoc.trans e))
        clear hoc
        unfold ReadPost at HRS
        unfold RefPost at HRR
        cases oc with
        | none =>
          go_wp2_with fail
          (with_reducible refine (HRS.out _).mono ?_)
          rintro e w6 ⟨hB6, rfl⟩
          have HB6 := Lib.hid hB6
          clear hB6
          go_wp2_with fail
          obtain ⟨X6, hX6⟩ : ∃ X6, w6.alloc (.cells #[.int .i64 0, .int .i64 0, .int .i64 0, .int .i64 0, .int .i64 0, .int .i64 0, .int .i64 0, .slice none 0 0] 60) = X6 := ⟨_, rfl⟩
          have hkX6 : Below w6.heap.size w6 X6 := by rw [← hX6]; exact box_below _ _
          have hrX6 : X6.heap[w6.heap.size]? = some (.cells #[.int .i64 0, .int .i64 0, .int .i64 0, .int .i64 0, .int .i64 0, .int .i64 0, .int .i64 0, .slice none 0 0] 60) := by rw [← hX6]; exact heap_new _ _
          rw [hX6]
          have HKX6 := Lib.hid hkX6
          have HRX6 := Lib.hid hrX6
          clear hX6 hkX6 hrX6
          (with_reducible refine (HRR.out _).mono ?_)
          rintro e w7 ⟨hB7, rfl⟩
          have HB7 := Lib.hid hB7
          clear hB7
          go_wp2_with fail
          obtain ⟨X7, hX7⟩ : ∃ X7, w7.alloc (.cells #[.int .i64 0, .int .i64 0, .int .i64 0, .int .i64 0, .int .i64 0, .int .i64 0, .int .i64 0, .slice none 0 0] 60) = X7 := ⟨_, rfl⟩
          have hkX7 : Below w7.heap.size w7 X7 := by rw [← hX7]; exact box_below _ _
          have hrX7 : X7.heap[w7.heap.size]? = some (.cells #[.int .i64 0, .int .i64 0, .int .i64 0, .int .i64 0, .int .i64 0, .int .i64 0, .int .i64 0, .slice none 0 0] 60) := by rw [← hX7]; exact heap_new _ _
          rw [hX7]
          have HKX7 := Lib.hid hkX7
          have HRX7 := Lib.hid hrX7
          clear hX7 hkX7 hrX7
          have HBA := Lib.hid (go HB5.out (go HB6.out (go HKX6.out (go HB7.out HKX7.out))))
          (with_reducible refine (CA.out _ HBA.out).mono ?_)
          rintro e w8 ⟨rfl, hB8⟩
          have hr1 : w8.heap[w6.heap.size]? = _ := ((go HB7.out (go HKX7.out hB8)).block _ (Array.getElem?_eq_some_iff.1 HRX6.out).1).trans HRX6.out
          have hr2 : w8.heap[w7.heap.size]? = _ := (hB8.block _ (Array.getElem?_eq_some_iff.1 HRX7.out).1).trans HRX7.out
          have y0 : w8.cell? ⟨w6.heap.size, 0, none⟩ = some (.int .i64 0) := by rw [cell_of_row _ _ _ _ _ _ hr1]; rfl
          have y1 : w8.cell? ⟨w6.heap.size, 1, none⟩ = some (.int .i64 0) := by rw [cell_of_row _ _ _ _ _ _ hr1]; rfl
          have y2 : w8.cell? ⟨w6.heap.size, 2, none⟩ = some (.int .i64 0) := by rw [cell_of_row _ _ _ _ _ _ hr1]; rfl
          have y3 : w8.cell? ⟨w6.heap.size, 3, none⟩ = some (.int .i64 0) := by rw [cell_of_row _ _ _ _ _ _ hr1]; rfl
          have y4 : w8.cell? ⟨w6.heap.size, 4, none⟩ = some (.int .i64 0) := by rw [cell_of_row _ _ _ _ _ _ hr1]; rfl
          have y5 : w8.cell? ⟨w6.heap.size, 5, none⟩ = some (.int .i64 0) := by rw [cell_of_row _ _ _ _ _ _ hr1]; rfl
          have y6 : w8.cell? ⟨w6.heap.size, 6, none⟩ = some (.int .i64 0) := by rw [cell_of_row _ _ _ _ _ _ hr1]; rfl
          have y7 : w8.cell? ⟨w6.heap.size, 7, none⟩ = some (.slice none 0 0) := by rw [cell_of_row _ _ _ _ _ _ hr1]; rfl
          have z0 : w8.cell? ⟨w7.heap.size, 0, none⟩ = some (.int .i64 0) := by rw [cell_of_row _ _ _ _ _ _ hr2]; rfl
          have z1 : w8.cell? ⟨w7.heap.size, 1, none⟩ = some (.int .i64 0) := by rw [cell_of_row _ _ _ _ _ _ hr2]; rfl
          have z2 : w8.cell? ⟨w7.heap.size, 2, none⟩ = some (.int .i64 0) := by rw [cell_of_row _ _ _ _ _ _ hr2]; rfl
          have z3 : w8.cell? ⟨w7.heap.size, 3, none⟩ = some (.int .i64 0) := by rw [cell_of_row _ _ _ _ _ _ hr2]; rfl
          have z4 : w8.cell? ⟨w7.heap.size, 4, none⟩ = some (.int .i64 0) := by rw [cell_of_row _ _ _ _ _ _ hr2]; rfl
          have z5 : w8.cell? ⟨w7.heap.size, 5, none⟩ = some (.int .i64 0) := by rw [cell_of_row _ _ _ _ _ _ hr2]; rfl
          have z6 : w8.cell? ⟨w7.heap.size, 6, none⟩ = some (.int .i64 0) := by rw [cell_of_row _ _ _ _ _ _ hr2]; rfl
          have z7 : w8.cell? ⟨w7.heap.size, 7, none⟩ = some (.slice none 0 0) := by rw [cell_of_row _ _ _ _ _ _ hr2]; rfl
          have HB8 := Lib.hid hB8
          clear hB8 hr1 hr2
          go_wp2_with fail
          (with_reducible refine (same_zero _).mono ?_)
          rintro e w9 ⟨rfl, hB9⟩
          have HBE := Lib.hid (go (go HBA.out HB8.out) hB9)
          clear hB9
          go_wp2
          go_ret
          exact ⟨rfl, HBE.out⟩
        | some d =>
          go_wp2_with fail
          (with_reducible refine (HRS.out _).mono ?_)
          rintro e w6 ⟨hB6, zv, rfl, ho6⟩
          obtain ⟨A6, c6, rfl, -, -, -, -⟩ := own_form ho6
          have HO6 := Lib.hid ho6
          clear ho6
          unfold cmdCells
          have HB6 := Lib.hid hB6
          clear hB6
          go_wp2_with fail
          obtain ⟨X6, hX6⟩ : ∃ X6, w6.alloc (.cells #[.int .i64 d.kind, .int .i64 d.flow, .int .i64 d.att, .int .i64 d.num, .int .i64 d.wk, .int .i64 d.rd, .int .i64 d.kp, .slice A6 d.parts.length c6] 60) = X6 := ⟨_, rfl⟩
          have hkX6 : Below w6.heap.size w6 X6 := by rw [← hX6]; exact box_below _ _
          have hrX6 : X6.heap[w6.heap.size]? = some (.cells #[.int .i64 d.kind, .int .i64 d.flow, .int .i64 d.att, .int .i64 d.num, .int .i64 d.wk, .int .i64 d.rd, .int .i64 d.kp, .slice A6 d.parts.length c6] 60) := by rw [← hX6]; exact heap_new _ _
          rw [hX6]
          have HKX6 := Lib.hid hkX6
          have HRX6 := Lib.hid hrX6
          clear hX6 hkX6 hrX6
          (with_reducible refine (HRR.out _).mono ?_)
          rintro e w7 ⟨hB7, zw, rfl, ho7⟩
          obtain ⟨A7, c7, rfl, -, -, -, -⟩ := own_form ho7
          have HO7 := Lib.hid ho7
          clear ho7
          unfold cmdCells
          have HB7 := Lib.hid hB7
          clear hB7
          go_wp2_with fail
          obtain ⟨X7, hX7⟩ : ∃ X7, w7.alloc (.cells #[.int .i64 d.kind, .int .i64 d.flow, .int .i64 d.att, .int .i64 d.num, .int .i64 d.wk, .int .i64 d.rd, .int .i64 d.kp, .slice A7 d.parts.length c7] 60) = X7 := ⟨_, rfl⟩
          have hkX7 : Below w7.heap.size w7 X7 := by rw [← hX7]; exact box_below _ _
          have hrX7 : X7.heap[w7.heap.size]? = some (.cells #[.int .i64 d.kind, .int .i64 d.flow, .int .i64 d.att, .int .i64 d.num, .int .i64 d.wk, .int .i64 d.rd, .int .i64 d.kp, .slice A7 d.parts.length c7] 60) := by rw [← hX7]; exact heap_new _ _
          rw [hX7]
          have HKX7 := Lib.hid hkX7
          have HRX7 := Lib.hid hrX7
          clear hX7 hkX7 hrX7
          have HBA := Lib.hid (go HB5.out (go HB6.out (go HKX6.out (go HB7.out HKX7.out))))
          (with_reducible refine (CA.out _ HBA.out).mono ?_)
          rintro e w8 ⟨rfl, hB8⟩
          have hr1 : w8.heap[w6.heap.size]? = _ := ((go HB7.out (go HKX7.out hB8)).block _ (Array.getElem?_eq_some_iff.1 HRX6.out).1).trans HRX6.out
          have hr2 : w8.heap[w7.heap.size]? = _ := (hB8.block _ (Array.getElem?_eq_some_iff.1 HRX7.out).1).trans HRX7.out
          have y0 : w8.cell? ⟨w6.heap.size, 0, none⟩ = some (.int .i64 d.kind) := by rw [cell_of_row _ _ _ _ _ _ hr1]; rfl
          have y1 : w8.cell? ⟨w6.heap.size, 1, none⟩ = some (.int .i64 d.flow) := by rw [cell_of_row _ _ _ _ _ _ hr1]; rfl
          have y2 : w8.cell? ⟨w6.heap.size, 2, none⟩ = some (.int .i64 d.att) := by rw [cell_of_row _ _ _ _ _ _ hr1]; rfl
          have y3 : w8.cell? ⟨w6.heap.size, 3, none⟩ = some (.int .i64 d.num) := by rw [cell_of_row _ _ _ _ _ _ hr1]; rfl
          have y4 : w8.cell? ⟨w6.heap.size, 4, none⟩ = some (.int .i64 d.wk) := by rw [cell_of_row _ _ _ _ _ _ hr1]; rfl
          have y5 : w8.cell? ⟨w6.heap.size, 5, none⟩ = some (.int .i64 d.rd) := by rw [cell_of_row _ _ _ _ _ _ hr1]; rfl
          have y6 : w8.cell? ⟨w6.heap.size, 6, none⟩ = some (.int .i64 d.kp) := by rw [cell_of_row _ _ _ _ _ _ hr1]; rfl
          have y7 : w8.cell? ⟨w6.heap.size, 7, none⟩ = some (.slice A6 d.parts.length c6) := by rw [cell_of_row _ _ _ _ _ _ hr1]; rfl
          have z0 : w8.cell? ⟨w7.heap.size, 0, none⟩ = some (.int .i64 d.kind) := by rw [cell_of_row _ _ _ _ _ _ hr2]; rfl
          have z1 : w8.cell? ⟨w7.heap.size, 1, none⟩ = some (.int .i64 d.flow) := by rw [cell_of_row _ _ _ _ _ _ hr2]; rfl
          have z2 : w8.cell? ⟨w7.heap.size, 2, none⟩ = some (.int .i64 d.att) := by rw [cell_of_row _ _ _ _ _ _ hr2]; rfl
          have z3 : w8.cell? ⟨w7.heap.size, 3, none⟩ = some (.int .i64 d.num) := by rw [cell_of_row _ _ _ _ _ _ hr2]; rfl
          have z4 : w8.cell? ⟨w7.heap.size, 4, none⟩ = some (.int .i64 d.wk) := by rw [cell_of_row _ _ _ _ _ _ hr2]; rfl
          have z5 : w8.cell? ⟨w7.heap.size, 5, none⟩ = some (.int .i64 d.rd) := by rw [cell_of_row _ _ _ _ _ _ hr2]; rfl
          have z6 : w8.cell? ⟨w7.heap.size, 6, none⟩ = some (.int .i64 d.kp) := by rw [cell_of_row _ _ _ _ _ _ hr2]; rfl
          have z7 : w8.cell? ⟨w7.heap.size, 7, none⟩ = some (.slice A7 d.parts.length c7) := by rw [cell_of_row _ _ _ _ _ _ hr2]; rfl
          have HB8 := Lib.hid hB8
          clear hB8 hr1 hr2
          go_wp2_with fail
          (with_reducible refine (sameCmd_calls d _ _ _ (sliceAt_own' (own_kept HO6.out (go HKX6.out (go HB7.out (go HKX7.out HB8.out))))) (sliceAt_own' (own_kept HO7.out (go HKX7.out HB8.out))) (HPD.out d rfl)).mono ?_)
          rintro e w9 ⟨rfl, hB9⟩
          have HBE := Lib.hid (go (go HBA.out HB8.out) hB9)
          clear hB9
          go_wp2
          go_ret
          exact ⟨rfl, HBE.out⟩
      · have t2 : decide ((32 : Int) < (c.parts.length : Int)) = false := decide_eq_false (by omega)
        have h32' : c.parts.length ≤ 32 := by omega
        have HBY := Lib.hid (fun (X : World) (k : Below w.heap.size w X) => bytes_few c (.slice A c.parts.length cp) X (SliceAt.below HV.out k) HI.out h32')
        have HRD := Lib.hid (fun (X : World) => read_cmd c X HI.out h32')
        have HTX := Lib.hid (fun (X : World) (k : Below w.heap.size w X) => text_calls c (.slice A c.parts.length cp) X (SliceAt.below HV.out k) HI.out HPL.out)
        unfold ReadPost at HRD
        obtain ⟨S, hS⟩ : ∃ S : ByteArray, (⟨(cmdB c).toArray⟩ : ByteArray) = S := ⟨_, rfl⟩
        rw [hS] at HBY HRD HTX
        clear h32 h32' h100 hs hS
        go_wp2_with fail
        obtain ⟨X0, hX0⟩ : ∃ X0, w.alloc (.cells #[.int .i64 c.kind, .int .i64 c.flow, .int .i64 c.att, .int .i64 c.num, .int .i64 c.wk, .int .i64 c.rd, .int .i64 c.kp, .slice A c.parts.length cp] 60) = X0 := ⟨_, rfl⟩
        have hkX0 : Below w.heap.size w X0 := by rw [← hX0]; exact box_below _ _
        have hrX0 : X0.heap[w.heap.size]? = some (.cells #[.int .i64 c.kind, .int .i64 c.flow, .int .i64 c.att, .int .i64 c.num, .int .i64 c.wk, .int .i64 c.rd, .int .i64 c.kp, .slice A c.parts.length cp] 60) := by rw [← hX0]; exact heap_new _ _
        rw [hX0]
        have HKX0 := Lib.hid hkX0
        have HRX0 := Lib.hid hrX0
        clear hX0 hkX0 hrX0
        (with_reducible refine (HBY.out _ HKX0.out).mono ?_)
        rintro e w3 ⟨rfl, hB3⟩
        have HB3 := Lib.hid hB3
        have q7 := kc hB3 (show X0.cell? ⟨w.heap.size, 7, none⟩ = some (.slice A c.parts.length cp) from by rw [cell_of_row _ _ _ _ _ _ HRX0.out]; rfl)
        clear hB3
        go_wp2_with fail
        (with_reducible refine (HRD.out _).mono ?_)
        rintro e w4 ⟨hB4, yv, rfl, ho4⟩
        obtain ⟨A4, c4, rfl, -, -, -, -⟩ := own_form ho4
        have HO4 := Lib.hid ho4
        have HB4 := Lib.hid hB4
        clear ho4 hB4 q7
        unfold cmdCells
        obtain ⟨X4, hX4⟩ : ∃ X4, w4.alloc (.cells #[.int .i64 c.kind, .int .i64 c.flow, .int .i64 c.att, .int .i64 c.num, .int .i64 c.wk, .int .i64 c.rd, .int .i64 c.kp, .slice A4 c.parts.length c4] 60) = X4 := ⟨_, rfl⟩
        have HKX4 := Lib.hid (show Below w4.heap.size w4 X4 from by rw [← hX4]; exact box_below _ _)
        have HRX4 := Lib.hid (show X4.heap[w4.heap.size]? = some (.cells #[.int .i64 c.kind, .int .i64 c.flow, .int .i64 c.att, .int .i64 c.num, .int .i64 c.wk, .int .i64 c.rd, .int .i64 c.kp, .slice A4 c.parts.length c4] 60) from by rw [← hX4]; exact heap_new _ _)
        have HBX4 := Lib.hid (go HKX0.out (go HB3.out (go HB4.out HKX4.out)))
        have hr1 : X4.heap[w.heap.size]? = _ := ((go HB3.out (go HB4.out HKX4.out)).block _ (Array.getElem?_eq_some_iff.1 HRX0.out).1).trans HRX0.out
        have y0 : X4.cell? ⟨w.heap.size, 0, none⟩ = some (.int .i64 c.kind) := by rw [cell_of_row _ _ _ _ _ _ hr1]; rfl
        have y1 : X4.cell? ⟨w.heap.size, 1, none⟩ = some (.int .i64 c.flow) := by rw [cell_of_row _ _ _ _ _ _ hr1]; rfl
        have y2 : X4.cell? ⟨w.heap.size, 2, none⟩ = some (.int .i64 c.att) := by rw [cell_of_row _ _ _ _ _ _ hr1]; rfl
        have y3 : X4.cell? ⟨w.heap.size, 3, none⟩ = some (.int .i64 c.num) := by rw [cell_of_row _ _ _ _ _ _ hr1]; rfl
        have y4 : X4.cell? ⟨w.heap.size, 4, none⟩ = some (.int .i64 c.wk) := by rw [cell_of_row _ _ _ _ _ _ hr1]; rfl
        have y5 : X4.cell? ⟨w.heap.size, 5, none⟩ = some (.int .i64 c.rd) := by rw [cell_of_row _ _ _ _ _ _ hr1]; rfl
        have y6 : X4.cell? ⟨w.heap.size, 6, none⟩ = some (.int .i64 c.kp) := by rw [cell_of_row _ _ _ _ _ _ hr1]; rfl
        have y7 : X4.cell? ⟨w.heap.size, 7, none⟩ = some (.slice A c.parts.length cp) := by rw [cell_of_row _ _ _ _ _ _ hr1]; rfl
        clear hr1
        go_wp2_with fail
        (with_reducible refine (HTX.out _ HBX4.out).mono ?_)
        rintro e wt ⟨rfl, hBt⟩
        have hr1 : wt.heap[w.heap.size]? = _ := ((go HB3.out (go HB4.out (go HKX4.out hBt))).block _ (Array.getElem?_eq_some_iff.1 HRX0.out).1).trans HRX0.out
        have hr2 : wt.heap[w4.heap.size]? = _ := (hBt.block _ (Array.getElem?_eq_some_iff.1 HRX4.out).1).trans HRX4.out
        have HBt := Lib.hid hBt
        clear y0 y1 y2 y3 y4 y5 y6 y7 hBt
        have y0 : wt.cell? ⟨w.heap.size, 0, none⟩ = some (.int .i64 c.kind) := by rw [cell_of_row _ _ _ _ _ _ hr1]; rfl
        have y1 : wt.cell? ⟨w.heap.size, 1, none⟩ = some (.int .i64 c.flow) := by rw [cell_of_row _ _ _ _ _ _ hr1]; rfl
        have y2 : wt.cell? ⟨w.heap.size, 2, none⟩ = some (.int .i64 c.att) := by rw [cell_of_row _ _ _ _ _ _ hr1]; rfl
        have y3 : wt.cell? ⟨w.heap.size, 3, none⟩ = some (.int .i64 c.num) := by rw [cell_of_row _ _ _ _ _ _ hr1]; rfl
        have y4 : wt.cell? ⟨w.heap.size, 4, none⟩ = some (.int .i64 c.wk) := by rw [cell_of_row _ _ _ _ _ _ hr1]; rfl
        have y5 : wt.cell? ⟨w.heap.size, 5, none⟩ = some (.int .i64 c.rd) := by rw [cell_of_row _ _ _ _ _ _ hr1]; rfl
        have y6 : wt.cell? ⟨w.heap.size, 6, none⟩ = some (.int .i64 c.kp) := by rw [cell_of_row _ _ _ _ _ _ hr1]; rfl
        have y7 : wt.cell? ⟨w.heap.size, 7, none⟩ = some (.slice A c.parts.length cp) := by rw [cell_of_row _ _ _ _ _ _ hr1]; rfl
        have z0 : wt.cell? ⟨w4.heap.size, 0, none⟩ = some (.int .i64 c.kind) := by rw [cell_of_row _ _ _ _ _ _ hr2]; rfl
        have z1 : wt.cell? ⟨w4.heap.size, 1, none⟩ = some (.int .i64 c.flow) := by rw [cell_of_row _ _ _ _ _ _ hr2]; rfl
        have z2 : wt.cell? ⟨w4.heap.size, 2, none⟩ = some (.int .i64 c.att) := by rw [cell_of_row _ _ _ _ _ _ hr2]; rfl
        have z3 : wt.cell? ⟨w4.heap.size, 3, none⟩ = some (.int .i64 c.num) := by rw [cell_of_row _ _ _ _ _ _ hr2]; rfl
        have z4 : wt.cell? ⟨w4.heap.size, 4, none⟩ = some (.int .i64 c.wk) := by rw [cell_of_row _ _ _ _ _ _ hr2]; rfl
        have z5 : wt.cell? ⟨w4.heap.size, 5, none⟩ = some (.int .i64 c.rd) := by rw [cell_of_row _ _ _ _ _ _ hr2]; rfl
        have z6 : wt.cell? ⟨w4.heap.size, 6, none⟩ = some (.int .i64 c.kp) := by rw [cell_of_row _ _ _ _ _ _ hr2]; rfl
        have z7 : wt.cell? ⟨w4.heap.size, 7, none⟩ = some (.slice A4 c.parts.length c4) := by rw [cell_of_row _ _ _ _ _ _ hr2]; rfl
        clear hr1 hr2
        have HBW := Lib.hid (go HBX4.out HBt.out)
        go_wp2_with fail
        (with_reducible refine (sameCmd_calls c _ _ _ (SliceAt.below HV.out HBW.out) (sliceAt_own' (own_kept HO4.out (go HKX4.out HBt.out))) HPL.out).mono ?_)
        rintro e w5 ⟨rfl, hB5⟩
        have HB5 := Lib.hid (go HBW.out hB5)
        clear hB5 y0 y1 y2 y3 y4 y5 y6 y7 z0 z1 z2 z3 z4 z5 z6 z7
        have HRS := Lib.hid (fun (X : World) => read_calls s X HSL.out)
        have HRR := Lib.hid (fun (X : World) => refRead_calls s X HSL.out)
        obtain ⟨oc, hoc⟩ : ∃ oc, readC s.data.toList = oc := ⟨_, rfl⟩
        rw [hoc] at HRS HRR
        have HPD := Lib.hid (show ∀ d, oc = some d → d.parts.length ≤ 1000 from fun d e => readC_len (hoc.trans e))
        clear hoc
        unfold ReadPost at HRS
        unfold RefPost at HRR
        cases oc with
        | none =>
          go_wp2_with fail
          (with_reducible refine (HRS.out _).mono ?_)
          rintro e w6 ⟨hB6, rfl⟩
          have HB6 := Lib.hid hB6
          clear hB6
          go_wp2_with fail
          obtain ⟨X6, hX6⟩ : ∃ X6, w6.alloc (.cells #[.int .i64 0, .int .i64 0, .int .i64 0, .int .i64 0, .int .i64 0, .int .i64 0, .int .i64 0, .slice none 0 0] 60) = X6 := ⟨_, rfl⟩
          have hkX6 : Below w6.heap.size w6 X6 := by rw [← hX6]; exact box_below _ _
          have hrX6 : X6.heap[w6.heap.size]? = some (.cells #[.int .i64 0, .int .i64 0, .int .i64 0, .int .i64 0, .int .i64 0, .int .i64 0, .int .i64 0, .slice none 0 0] 60) := by rw [← hX6]; exact heap_new _ _
          rw [hX6]
          have HKX6 := Lib.hid hkX6
          have HRX6 := Lib.hid hrX6
          clear hX6 hkX6 hrX6
          (with_reducible refine (HRR.out _).mono ?_)
          rintro e w7 ⟨hB7, rfl⟩
          have HB7 := Lib.hid hB7
          clear hB7
          go_wp2_with fail
          obtain ⟨X7, hX7⟩ : ∃ X7, w7.alloc (.cells #[.int .i64 0, .int .i64 0, .int .i64 0, .int .i64 0, .int .i64 0, .int .i64 0, .int .i64 0, .slice none 0 0] 60) = X7 := ⟨_, rfl⟩
          have hkX7 : Below w7.heap.size w7 X7 := by rw [← hX7]; exact box_below _ _
          have hrX7 : X7.heap[w7.heap.size]? = some (.cells #[.int .i64 0, .int .i64 0, .int .i64 0, .int .i64 0, .int .i64 0, .int .i64 0, .int .i64 0, .slice none 0 0] 60) := by rw [← hX7]; exact heap_new _ _
          rw [hX7]
          have HKX7 := Lib.hid hkX7
          have HRX7 := Lib.hid hrX7
          clear hX7 hkX7 hrX7
          have HBA := Lib.hid (go HB5.out (go HB6.out (go HKX6.out (go HB7.out HKX7.out))))
          (with_reducible refine (CA.out _ HBA.out).mono ?_)
          rintro e w8 ⟨rfl, hB8⟩
          have hr1 : w8.heap[w6.heap.size]? = _ := ((go HB7.out (go HKX7.out hB8)).block _ (Array.getElem?_eq_some_iff.1 HRX6.out).1).trans HRX6.out
          have hr2 : w8.heap[w7.heap.size]? = _ := (hB8.block _ (Array.getElem?_eq_some_iff.1 HRX7.out).1).trans HRX7.out
          have y0 : w8.cell? ⟨w6.heap.size, 0, none⟩ = some (.int .i64 0) := by rw [cell_of_row _ _ _ _ _ _ hr1]; rfl
          have y1 : w8.cell? ⟨w6.heap.size, 1, none⟩ = some (.int .i64 0) := by rw [cell_of_row _ _ _ _ _ _ hr1]; rfl
          have y2 : w8.cell? ⟨w6.heap.size, 2, none⟩ = some (.int .i64 0) := by rw [cell_of_row _ _ _ _ _ _ hr1]; rfl
          have y3 : w8.cell? ⟨w6.heap.size, 3, none⟩ = some (.int .i64 0) := by rw [cell_of_row _ _ _ _ _ _ hr1]; rfl
          have y4 : w8.cell? ⟨w6.heap.size, 4, none⟩ = some (.int .i64 0) := by rw [cell_of_row _ _ _ _ _ _ hr1]; rfl
          have y5 : w8.cell? ⟨w6.heap.size, 5, none⟩ = some (.int .i64 0) := by rw [cell_of_row _ _ _ _ _ _ hr1]; rfl
          have y6 : w8.cell? ⟨w6.heap.size, 6, none⟩ = some (.int .i64 0) := by rw [cell_of_row _ _ _ _ _ _ hr1]; rfl
          have y7 : w8.cell? ⟨w6.heap.size, 7, none⟩ = some (.slice none 0 0) := by rw [cell_of_row _ _ _ _ _ _ hr1]; rfl
          have z0 : w8.cell? ⟨w7.heap.size, 0, none⟩ = some (.int .i64 0) := by rw [cell_of_row _ _ _ _ _ _ hr2]; rfl
          have z1 : w8.cell? ⟨w7.heap.size, 1, none⟩ = some (.int .i64 0) := by rw [cell_of_row _ _ _ _ _ _ hr2]; rfl
          have z2 : w8.cell? ⟨w7.heap.size, 2, none⟩ = some (.int .i64 0) := by rw [cell_of_row _ _ _ _ _ _ hr2]; rfl
          have z3 : w8.cell? ⟨w7.heap.size, 3, none⟩ = some (.int .i64 0) := by rw [cell_of_row _ _ _ _ _ _ hr2]; rfl
          have z4 : w8.cell? ⟨w7.heap.size, 4, none⟩ = some (.int .i64 0) := by rw [cell_of_row _ _ _ _ _ _ hr2]; rfl
          have z5 : w8.cell? ⟨w7.heap.size, 5, none⟩ = some (.int .i64 0) := by rw [cell_of_row _ _ _ _ _ _ hr2]; rfl
          have z6 : w8.cell? ⟨w7.heap.size, 6, none⟩ = some (.int .i64 0) := by rw [cell_of_row _ _ _ _ _ _ hr2]; rfl
          have z7 : w8.cell? ⟨w7.heap.size, 7, none⟩ = some (.slice none 0 0) := by rw [cell_of_row _ _ _ _ _ _ hr2]; rfl
          have HB8 := Lib.hid hB8
          clear hB8 hr1 hr2
          go_wp2_with fail
          (with_reducible refine (same_zero _).mono ?_)
          rintro e w9 ⟨rfl, hB9⟩
          have HBE := Lib.hid (go (go HBA.out HB8.out) hB9)
          clear hB9
          go_wp2
          go_ret
          exact ⟨rfl, HBE.out⟩
        | some d =>
          go_wp2_with fail
          (with_reducible refine (HRS.out _).mono ?_)
          rintro e w6 ⟨hB6, zv, rfl, ho6⟩
          obtain ⟨A6, c6, rfl, -, -, -, -⟩ := own_form ho6
          have HO6 := Lib.hid ho6
          clear ho6
          unfold cmdCells
          have HB6 := Lib.hid hB6
          clear hB6
          go_wp2_with fail
          obtain ⟨X6, hX6⟩ : ∃ X6, w6.alloc (.cells #[.int .i64 d.kind, .int .i64 d.flow, .int .i64 d.att, .int .i64 d.num, .int .i64 d.wk, .int .i64 d.rd, .int .i64 d.kp, .slice A6 d.parts.length c6] 60) = X6 := ⟨_, rfl⟩
          have hkX6 : Below w6.heap.size w6 X6 := by rw [← hX6]; exact box_below _ _
          have hrX6 : X6.heap[w6.heap.size]? = some (.cells #[.int .i64 d.kind, .int .i64 d.flow, .int .i64 d.att, .int .i64 d.num, .int .i64 d.wk, .int .i64 d.rd, .int .i64 d.kp, .slice A6 d.parts.length c6] 60) := by rw [← hX6]; exact heap_new _ _
          rw [hX6]
          have HKX6 := Lib.hid hkX6
          have HRX6 := Lib.hid hrX6
          clear hX6 hkX6 hrX6
          (with_reducible refine (HRR.out _).mono ?_)
          rintro e w7 ⟨hB7, zw, rfl, ho7⟩
          obtain ⟨A7, c7, rfl, -, -, -, -⟩ := own_form ho7
          have HO7 := Lib.hid ho7
          clear ho7
          unfold cmdCells
          have HB7 := Lib.hid hB7
          clear hB7
          go_wp2_with fail
          obtain ⟨X7, hX7⟩ : ∃ X7, w7.alloc (.cells #[.int .i64 d.kind, .int .i64 d.flow, .int .i64 d.att, .int .i64 d.num, .int .i64 d.wk, .int .i64 d.rd, .int .i64 d.kp, .slice A7 d.parts.length c7] 60) = X7 := ⟨_, rfl⟩
          have hkX7 : Below w7.heap.size w7 X7 := by rw [← hX7]; exact box_below _ _
          have hrX7 : X7.heap[w7.heap.size]? = some (.cells #[.int .i64 d.kind, .int .i64 d.flow, .int .i64 d.att, .int .i64 d.num, .int .i64 d.wk, .int .i64 d.rd, .int .i64 d.kp, .slice A7 d.parts.length c7] 60) := by rw [← hX7]; exact heap_new _ _
          rw [hX7]
          have HKX7 := Lib.hid hkX7
          have HRX7 := Lib.hid hrX7
          clear hX7 hkX7 hrX7
          have HBA := Lib.hid (go HB5.out (go HB6.out (go HKX6.out (go HB7.out HKX7.out))))
          (with_reducible refine (CA.out _ HBA.out).mono ?_)
          rintro e w8 ⟨rfl, hB8⟩
          have hr1 : w8.heap[w6.heap.size]? = _ := ((go HB7.out (go HKX7.out hB8)).block _ (Array.getElem?_eq_some_iff.1 HRX6.out).1).trans HRX6.out
          have hr2 : w8.heap[w7.heap.size]? = _ := (hB8.block _ (Array.getElem?_eq_some_iff.1 HRX7.out).1).trans HRX7.out
          have y0 : w8.cell? ⟨w6.heap.size, 0, none⟩ = some (.int .i64 d.kind) := by rw [cell_of_row _ _ _ _ _ _ hr1]; rfl
          have y1 : w8.cell? ⟨w6.heap.size, 1, none⟩ = some (.int .i64 d.flow) := by rw [cell_of_row _ _ _ _ _ _ hr1]; rfl
          have y2 : w8.cell? ⟨w6.heap.size, 2, none⟩ = some (.int .i64 d.att) := by rw [cell_of_row _ _ _ _ _ _ hr1]; rfl
          have y3 : w8.cell? ⟨w6.heap.size, 3, none⟩ = some (.int .i64 d.num) := by rw [cell_of_row _ _ _ _ _ _ hr1]; rfl
          have y4 : w8.cell? ⟨w6.heap.size, 4, none⟩ = some (.int .i64 d.wk) := by rw [cell_of_row _ _ _ _ _ _ hr1]; rfl
          have y5 : w8.cell? ⟨w6.heap.size, 5, none⟩ = some (.int .i64 d.rd) := by rw [cell_of_row _ _ _ _ _ _ hr1]; rfl
          have y6 : w8.cell? ⟨w6.heap.size, 6, none⟩ = some (.int .i64 d.kp) := by rw [cell_of_row _ _ _ _ _ _ hr1]; rfl
          have y7 : w8.cell? ⟨w6.heap.size, 7, none⟩ = some (.slice A6 d.parts.length c6) := by rw [cell_of_row _ _ _ _ _ _ hr1]; rfl
          have z0 : w8.cell? ⟨w7.heap.size, 0, none⟩ = some (.int .i64 d.kind) := by rw [cell_of_row _ _ _ _ _ _ hr2]; rfl
          have z1 : w8.cell? ⟨w7.heap.size, 1, none⟩ = some (.int .i64 d.flow) := by rw [cell_of_row _ _ _ _ _ _ hr2]; rfl
          have z2 : w8.cell? ⟨w7.heap.size, 2, none⟩ = some (.int .i64 d.att) := by rw [cell_of_row _ _ _ _ _ _ hr2]; rfl
          have z3 : w8.cell? ⟨w7.heap.size, 3, none⟩ = some (.int .i64 d.num) := by rw [cell_of_row _ _ _ _ _ _ hr2]; rfl
          have z4 : w8.cell? ⟨w7.heap.size, 4, none⟩ = some (.int .i64 d.wk) := by rw [cell_of_row _ _ _ _ _ _ hr2]; rfl
          have z5 : w8.cell? ⟨w7.heap.size, 5, none⟩ = some (.int .i64 d.rd) := by rw [cell_of_row _ _ _ _ _ _ hr2]; rfl
          have z6 : w8.cell? ⟨w7.heap.size, 6, none⟩ = some (.int .i64 d.kp) := by rw [cell_of_row _ _ _ _ _ _ hr2]; rfl
          have z7 : w8.cell? ⟨w7.heap.size, 7, none⟩ = some (.slice A7 d.parts.length c7) := by rw [cell_of_row _ _ _ _ _ _ hr2]; rfl
          have HB8 := Lib.hid hB8
          clear hB8 hr1 hr2
          go_wp2_with fail
          (with_reducible refine (sameCmd_calls d _ _ _ (sliceAt_own' (own_kept HO6.out (go HKX6.out (go HB7.out (go HKX7.out HB8.out))))) (sliceAt_own' (own_kept HO7.out (go HKX7.out HB8.out))) (HPD.out d rfl)).mono ?_)
          rintro e w9 ⟨rfl, hB9⟩
          have HBE := Lib.hid (go (go HBA.out HB8.out) hB9)
          clear hB9
          go_wp2
          go_ret
          exact ⟨rfl, HBE.out⟩
end Go.Proofs.YtkjajlolfcioiaaGreatDoor.Pack
