/- control.Bytes, walked. -/
import Derived.Test.YtkjajlolfcioiaaGreatDoorYPackA
import Derived.Test.YtkjajlolfcioiaaGreatDoorYPackP
import Derived.Test.YtkjajlolfcioiaaGreatDoorYCtlDo
import Derived.Laws.BytesArg
import Derived.Laws.IdiomStrings
namespace Go.Proofs.YtkjajlolfcioiaaGreatDoor.Pack
open Go Go.RowKit Go.Proofs Go.Proofs.YtkjajlolfcioiaaGreatDoor Go.Proofs.YtkjajlolfcioiaaGreatDoor.Own Go.Proofs.YtkjajlolfcioiaaGreatDoor.Tail Go.Proofs.YtkjajlolfcioiaaGreatDoor.Check Go.Proofs.YtkjajlolfcioiaaGreatDoor.Ctl Go.Proofs.YtkjajlolfcioiaaGreatDoor.Control
theorem own_bytes {w : World} {base : Nat} {v : Value} {l : List UInt8} (h : w.ownsRow base 5 1 v l.length (Lib.byteCells l)) : BytesAt w v l := by
  rcases h.2 with ⟨rfl, hz⟩ | ⟨g, cap, cur, rfl, hb, hh, hle, hmax, hsz, htake⟩
  · exact ⟨none, 0, by rw [hz], by omega, fun h0 => by omega⟩
  · refine ⟨_, _, rfl, hle, fun _ => ⟨g, 0, rfl, fun j u hj => ?_⟩⟩
    rw [Nat.zero_add, cell_of_row _ _ _ _ _ _ hh]
    rw [← htake, List.getElem?_take] at hj
    split at hj
    · simpa using hj
    · cases hj
set_option maxRecDepth 100000 in
theorem conv_bytes {w : World} {v : Value} {l : List UInt8} (h : BytesAt w v l) : (convert 145 9 v).run Tryz.prog w = .ok (.string ⟨l.toArray⟩) w := by
  obtain ⟨A, c, rfl, hc, hr⟩ := h
  rcases Nat.eq_zero_or_pos l.length with h0 | h0
  · have : l = [] := List.eq_nil_of_length_eq_zero h0
    subst this
    have e : (⟨([] : List UInt8).toArray⟩ : ByteArray) = ByteArray.empty := ByteArray.ext rfl
    rw [e]
    show (convert 145 9 (.slice A 0 c)).run Tryz.prog w = _
    cases A with
    | none => exact run_convert_bytes_nil w 145 5 Tryz.underlying145 Tryz.underlying5 0 c 9 Tryz.underlying9
    | some ad =>
      have hl : (loadCells ad 0).run Tryz.prog w = .ok (([] : List Int).map (Value.int .u8)).toArray w := run_loadCells_list (P := Tryz.prog) w ad [] (fun j v hj => by simp at hj)
      exact (run_convert_bytes_string w 145 9 5 (some ad) 0 c Tryz.underlying145 Tryz.underlying5 Tryz.underlying9).trans (run_bytesToString w ad 0 c [] hl)
  · obtain ⟨b, o, rfl, hcells⟩ := hr h0
    have := run_convert_bytes_arg w 145 5 Tryz.underlying145 Tryz.underlying5 b o l.length c (l.map fun x => (x.toNat : Int)) (by simp) (fun i hi => by
      rw [hcells i (.int .u8 (((l.map fun x => (x.toNat : Int))).getD i 0)) (by simp [Lib.byteCells, List.getD_eq_getElem?_getD, hi])]) 9 Tryz.underlying9
    rw [this]
    congr 2
    unfold strOfNums
    rw [List.map_map]
    congr 2
    have : ((fun n : Int => UInt8.ofNat n.toNat) ∘ fun x : UInt8 => (x.toNat : Int)) = id := by
      funext x
      simp
    rw [this, List.map_id]
set_option maxHeartbeats 1000000 in
set_option maxRecDepth 100000 in
theorem bytes_many (c : Cmd) (v : Value) (w : World) (hv : PartsAt w v c.parts) (h : 32 < c.parts.length) (hl : c.parts.length ≤ 1000) :
    Calls Tryz.prog 44 #[.agg #[.int .i64 c.kind, .int .i64 c.flow, .int .i64 c.att, .int .i64 c.num, .int .i64 c.wk, .int .i64 c.rd, .int .i64 c.kp, v]] w fun e w' => e = .returned (.tuple #[.string ⟨#[]⟩, .int .i64 1]) ∧ Below w.heap.size w w' := by
  obtain ⟨A, cp, rfl, hc, hr⟩ := hv
  have t32 : decide ((32 : Int) < (c.parts.length : Int)) = true := decide_eq_true (by omega)
  go_enter Tryz.func44, Tryz.ntmps44
  go_wp2
  go_ret2
  exact ⟨rfl, box_below _ _⟩
set_option maxHeartbeats 2000000 in
set_option maxRecDepth 100000 in
theorem bytes_few (c : Cmd) (v : Value) (w : World) (hv : PartsAt w v c.parts) (hi : CmdI c) (h : c.parts.length ≤ 32) :
    Calls Tryz.prog 44 #[.agg #[.int .i64 c.kind, .int .i64 c.flow, .int .i64 c.att, .int .i64 c.num, .int .i64 c.wk, .int .i64 c.rd, .int .i64 c.kp, v]] w fun e w' => e = .returned (.tuple #[.string ⟨(cmdB c).toArray⟩, .int .i64 0]) ∧ Below w.heap.size w w' := by
  have HPA := Lib.hid hv
  obtain ⟨A, cp, rfl, hc, hr⟩ := hv
  have HR := Lib.hid hr
  have t32 : decide ((32 : Int) < (c.parts.length : Int)) = false := decide_eq_false (by omega)
  have HI0 := Lib.hid hi
  have HX := Lib.hid (show ∀ x ∈ cmdNums c, I64 x from by
    intro x hx
    simp only [cmdNums, List.mem_cons, List.not_mem_nil, or_false] at hx
    rcases hx with rfl | rfl | rfl | rfl | rfl | rfl | rfl | rfl
    · exact hi.kind
    · exact hi.flow
    · exact hi.att
    · exact hi.num
    · exact hi.wk
    · exact hi.rd
    · exact hi.kp
    · exact ⟨by omega, by omega⟩)
  clear hr hi
  go_enter Tryz.func44, Tryz.ntmps44
  have hk1 : w.heap.size < (w.alloc (.cells #[.int .i64 c.kind, .int .i64 c.flow, .int .i64 c.att, .int .i64 c.num, .int .i64 c.wk, .int .i64 c.rd, .int .i64 c.kp, .slice A c.parts.length cp] 60)).heap.size := by simp
  go_wp2_with fail
  obtain ⟨W1, hW1⟩ : ∃ W1, w.alloc (.cells #[.int .i64 c.kind, .int .i64 c.flow, .int .i64 c.att, .int .i64 c.num, .int .i64 c.wk, .int .i64 c.rd, .int .i64 c.kp, .slice A c.parts.length cp] 60) = W1 := ⟨_, rfl⟩
  have HB1 := Lib.hid (show Below w.heap.size w W1 from by rw [← hW1]; exact box_below _ _)
  have hp7 : W1.cell? ⟨w.heap.size, 7, none⟩ = some (.slice A c.parts.length cp) := by rw [← hW1]; exact cell_new rfl rfl
  have hs1 : W1.heap.size = w.heap.size + 1 := by rw [← hW1]; simp
  rw [hW1]
  clear hW1 hk1
  have hl8 : (cmdNums c).length = 8 := rfl
  obtain ⟨W2, hW2⟩ : ∃ W2, W1.alloc (.cells #[.int .i64 c.kind, .int .i64 c.flow, .int .i64 c.att, .int .i64 c.num, .int .i64 c.wk, .int .i64 c.rd, .int .i64 c.kp, .int .i64 (c.parts.length : Int)] 3) = W2 := ⟨_, rfl⟩
  have HB2 := Lib.hid (show Below w.heap.size w W2 from by rw [← hW2]; exact HB1.out.alloc HB1.out.size _)
  have HP7 := Lib.hid (show W2.cell? ⟨w.heap.size, 7, none⟩ = some (.slice A c.parts.length cp) from by rw [← hW2]; exact kc (box_below _ _) hp7)
  have HN2 := Lib.hid (show ∀ (k : Nat) (x : Int), (cmdNums c)[k]? = some x → W2.cell? ⟨w.heap.size + 1, k, none⟩ = some (.int .i64 x) from by
    intro k x hx
    rw [← hW2]
    refine cell_new hs1.symm ?_
    have : (#[.int .i64 c.kind, .int .i64 c.flow, .int .i64 c.att, .int .i64 c.num, .int .i64 c.wk, .int .i64 c.rd, .int .i64 c.kp, .int .i64 (c.parts.length : Int)] : Array Value) = ((cmdNums c).map (Value.int .i64)).toArray := rfl
    rw [this]
    simp [hx])
  rw [hW2]
  have hs2 : w.heap.size + 1 < W2.heap.size := by rw [← hW2]; simp [hs1]
  have HS2 := Lib.hid hs2
  have HO0 := Lib.hid (show W2.ownsRow w.heap.size 5 1 (.slice none 0 0) 0 (Lib.byteCells (numsB ((cmdNums c).take 0))) from own_nil _ _ _ _)
  have HLN := Lib.hid hl8
  clear hW2 hp7 hs1 hs2 hl8
  go_loopw [4, 32] (fun vb vi wr => ∃ k : Nat, k ≤ 8 ∧ vi = .int .i64 (k : Int) ∧ Hid (wr.ownsRow w.heap.size 5 1 vb (numsB ((cmdNums c).take k)).length (Lib.byteCells (numsB ((cmdNums c).take k))) ∧ Below W2.heap.size W2 wr)) (fun _ vi _ => 8 - (RowKit.intOf vi).toNat)
  case atStart => exact ⟨0, Nat.zero_le _, rfl, Lib.hid ⟨HO0.out, Below.refl _ _⟩⟩
  case round =>
    clear HO0
    obtain ⟨k, hk, rfl, HI⟩ := hrel
    have hle : (numsB ((cmdNums c).take k)).length ≤ 80 := by
      have hh := numsB_len ((cmdNums c).take k) (fun x hx => HX.out x (List.mem_of_mem_take hx))
      have := HLN.out
      rw [List.length_take] at hh
      omega
    have HLE := Lib.hid hle
    clear hle
    by_cases hlt : k < 8
    · have l0 : (k : Int) < 8 := by omega
      obtain ⟨x, hx⟩ : ∃ x, (cmdNums c)[k]? = some x := ⟨_, List.getElem?_eq_getElem (by have := HLN.out; omega)⟩
      have hcell := kc HI.out.2 (HN2.out k x hx)
      have hbl := lt_of_cell hcell
      have HXK := Lib.hid (show numsB ((cmdNums c).take (k + 1)) = numsB ((cmdNums c).take k) ++ numB x from by rw [List.take_add_one, hx]; exact numsB_snoc _ _)
      have HNC := Lib.hid (fun v' (h : BytesAt wr v' (numsB ((cmdNums c).take k))) => num_calls v' _ x (HX.out x (List.mem_of_getElem? hx)) wr h (by have := HLE.out; omega))
      obtain ⟨Ab, cb, rfl, -, -, -, -⟩ := own_form HI.out.1
      have HNC := Lib.hid (HNC.out _ (own_bytes HI.out.1))
      clear hx
      go_wp2_with fail
      (with_reducible refine HNC.out.mono ?_)
      rintro e w6 ⟨v', rfl, ho6, hB6⟩
      go_wp2_with fail
      refine ⟨⟨k + 1, by omega, by simp, Lib.hid ⟨?_, go HI.out.2 hB6⟩⟩, by simp only [RowKit.intOf]; omega⟩
      rw [HXK.out]
      exact own_base ho6 (Nat.le_trans HB2.out.size HI.out.2.size)
    · obtain rfl : k = 8 := by omega
      have h8 := HI.out
      rw [List.take_of_length_le (by have := HLN.out; omega)] at h8
      have e0 : numsB (cmdNums c) = numsB (cmdNums c) ++ numsB (partNums (c.parts.take 0)) := by simp [partNums, numsB]
      rw [e0] at h8
      have HI8 := Lib.hid h8
      clear h8 e0
      have HLE8 := Lib.hid (show (numsB (cmdNums c)).length ≤ 80 from by
        have h := HLE.out
        rwa [List.take_of_length_le (by have := HLN.out; omega)] at h)
      have hp7 := kc HI.out.2 HP7.out
      clear HI HLE
      go_wp2_with fail
      clear hp7
      go_loopw [4, 43] (fun vb vi wr => ∃ k : Nat, k ≤ c.parts.length ∧ vi = .int .i64 (k : Int) ∧ Hid (wr.ownsRow w.heap.size 5 1 vb (numsB (cmdNums c) ++ numsB (partNums (c.parts.take k))).length (Lib.byteCells (numsB (cmdNums c) ++ numsB (partNums (c.parts.take k)))) ∧ Below W2.heap.size W2 wr)) (fun _ vi _ => c.parts.length - (RowKit.intOf vi).toNat)
      case atStart => exact ⟨0, Nat.zero_le _, rfl, HI8⟩
      case round =>
        clear HI8
        obtain ⟨k, hk, rfl, HI⟩ := hrel
        obtain ⟨L, hL⟩ : ∃ L, numsB (cmdNums c) ++ numsB (partNums (c.parts.take k)) = L := ⟨_, rfl⟩
        rw [hL] at HI
        have hLl : L.length ≤ 1000 := by
          have hh := numsB_len (partNums (c.parts.take k)) (fun x hx => by
            unfold partNums at hx
            obtain ⟨p, hp, hx⟩ := List.mem_flatMap.1 hx
            have := HI0.out.parts p (List.mem_of_mem_take hp)
            simp only [List.mem_cons, List.not_mem_nil, or_false] at hx
            rcases hx with rfl | rfl
            · exact this.1
            · exact this.2)
          have hpl : (partNums (c.parts.take k)).length ≤ 2 * 32 := by
            rw [partNums_len, List.length_take]
            omega
          have := HLE8.out
          rw [← hL, List.length_append]
          omega
        have HLL := Lib.hid hLl
        have HLE := Lib.hid hL
        clear hLl hL
        by_cases hlt : k < c.parts.length
        · have l0 : (k : Int) < (c.parts.length : Int) := by omega
          obtain ⟨b, o, ea, hcells⟩ := HR.out (by omega)
          subst ea
          obtain ⟨⟨kd, pn⟩, hx⟩ : ∃ x, c.parts[k]? = some x := ⟨_, List.getElem?_eq_getElem hlt⟩
          have hww : Below w.heap.size w wr := HB2.out.trans (HI.out.2.mono HB2.out.size)
          have x0 : wr.cell? ⟨b, o + k * 2, none⟩ = some (.int .i64 kd) := kc hww (hcells (k * 2 + 0) _ (flat_get partCells 2 (fun _ => rfl) _ k 0 _ hx (by decide)))
          have x1 : wr.cell? ⟨b, o + k * 2 + 1, none⟩ = some (.int .i64 pn) := kc hww (hcells (k * 2 + 1) _ (flat_get partCells 2 (fun _ => rfl) _ k 1 _ hx (by decide)))
          have hbl := lt_of_cell x0
          have hpi := HI0.out.parts _ (List.mem_of_getElem? hx)
          dsimp only at hpi
          have HXK := Lib.hid (show numsB (cmdNums c) ++ numsB (partNums (c.parts.take (k + 1))) = L ++ numB kd ++ numB pn from by
            rw [List.take_add_one, hx, ← HLE.out]
            simp [partNums, numsB])
          have HC1 := Lib.hid (fun X v' (h : BytesAt X v' L) => num_calls v' L kd hpi.1 X h (by have := HLL.out; omega))
          have HC2 := Lib.hid (fun X v' (h : BytesAt X v' (L ++ numB kd)) => num_calls v' (L ++ numB kd) pn hpi.2 X h (by have := HLL.out; have := (numB_len hpi.1).2; rw [List.length_append]; omega))
          obtain ⟨Ab, cb, rfl, -, -, -, -⟩ := own_form HI.out.1
          clear hcells hx hpi hww
          go_wp2_with fail
          obtain ⟨W4, hW4⟩ : ∃ W4, wr.alloc (.cells #[.int .i64 kd, .int .i64 pn] 75) = W4 := ⟨_, rfl⟩
          have y0 : W4.cell? ⟨wr.heap.size, 0, none⟩ = some (.int .i64 kd) := by rw [← hW4]; exact cell_new rfl rfl
          have y1 : W4.cell? ⟨wr.heap.size, 1, none⟩ = some (.int .i64 pn) := by rw [← hW4]; exact cell_new rfl rfl
          have HB4 := Lib.hid (show Below wr.heap.size wr W4 from by rw [← hW4]; exact box_below _ _)
          have hba : BytesAt W4.drew (.slice Ab L.length cb) L := (SliceAt.below (own_bytes HI.out.1) HB4.out).below (Below.refl _ _).drew
          have HBA := Lib.hid hba
          have HS4 := Lib.hid (show wr.heap.size + 1 = W4.heap.size from by rw [← hW4]; simp)
          rw [hW4]
          clear hW4 hba x0 x1 hbl
          refine wp_region_any (by kernel_rfl) ?_
          refine wpAny_of_held (S := fun X : World => X.cell? ⟨wr.heap.size, 0, none⟩ = some (.int .i64 kd) ∧ X.cell? ⟨wr.heap.size, 1, none⟩ = some (.int .i64 pn)) _ _ _ _ ?_
          have hS0 : (fun X : World => X.cell? ⟨wr.heap.size, 0, none⟩ = some (.int .i64 kd) ∧ X.cell? ⟨wr.heap.size, 1, none⟩ = some (.int .i64 pn)) W4.drew := ⟨y0, y1⟩
          refine wpAnyH_take (i := 0) (v := ?_) rfl (by kernel_rfl) (by kernel_rfl) (by kernel_rfl) (fun _ _ _ h => h) (Or.inl ⟨by rfl, ?_⟩) hS0 ?_
          rotate_left
          · intro w hSw; (try dsimp only at hSw); go_simp; (first | done | with_reducible rfl)
          simp only [Act.put, List.getElem_toArray, List.getElem_cons_zero, List.setIfInBounds_toArray, List.set_cons_zero, List.set_cons_succ]
          refine wpAnyH_take (i := 1) (v := ?_) rfl (by kernel_rfl) (by kernel_rfl) (by kernel_rfl) (fun _ _ _ h => h) (Or.inl ⟨by rfl, ?_⟩) hS0 ?_
          rotate_left
          · intro w hSw; (try dsimp only at hSw); go_simp; (first | done | with_reducible rfl)
          simp only [Act.put, List.getElem_toArray, List.getElem_cons_zero, List.getElem_cons_succ, List.setIfInBounds_toArray, List.set_cons_zero, List.set_cons_succ]
          refine wpAnyH_take (i := 2) (v := ?_) rfl (by kernel_rfl) (by kernel_rfl) (by kernel_rfl) (fun _ _ _ h => h) (Or.inl ⟨by rfl, ?_⟩) hS0 ?_
          rotate_left
          · intro w hSw; (try dsimp only at hSw); go_simp; (first | done | with_reducible rfl)
          simp only [Act.put, List.getElem_toArray, List.getElem_cons_zero, List.getElem_cons_succ, List.setIfInBounds_toArray, List.set_cons_zero, List.set_cons_succ]
          refine wpAnyH_take (i := 4) (v := ?_) rfl (by kernel_rfl) (by kernel_rfl) (by kernel_rfl) (fun _ _ _ h => h) (Or.inl ⟨by rfl, ?_⟩) hS0 ?_
          rotate_left
          · intro w hSw; (try dsimp only at hSw); go_simp; (first | done | with_reducible rfl)
          simp only [Act.put, List.getElem_toArray, List.getElem_cons_zero, List.getElem_cons_succ, List.setIfInBounds_toArray, List.set_cons_zero, List.set_cons_succ]
          refine wpAnyH_take (i := 5) (v := ?_) rfl (by kernel_rfl) (by kernel_rfl) (by kernel_rfl) (fun _ _ _ h => h) (Or.inl ⟨by rfl, ?_⟩) hS0 ?_
          rotate_left
          · intro w hSw; (try dsimp only at hSw); go_simp; (first | done | with_reducible rfl)
          simp only [Act.put, List.getElem_toArray, List.getElem_cons_zero, List.getElem_cons_succ, List.setIfInBounds_toArray, List.set_cons_zero, List.set_cons_succ]
          refine wpAnyH_ready (rs := [3]) (by kernel_rfl) (by simp) ?_
          refine AllReadyH.cons rfl (fun K hK => ?_) AllReadyH.nil
          go_simp
          (with_reducible refine (HC1.out _ _ HBA.out).mono ?_)
          rintro e w6 ⟨v6, rfl, ho6, hB6⟩
          refine hK.out _ _ ⟨kc hB6 hS0.1, kc hB6 hS0.2⟩ (fun hS1 => ?_)
          clear hK K
          try simp only [Act.put, List.setIfInBounds_toArray, List.set_cons_zero, List.set_cons_succ]
          have HBA6 := Lib.hid (own_bytes ho6)
          have HB6 := Lib.hid hB6
          clear ho6 hB6
          refine wpAnyH_ready (rs := [6]) (by kernel_rfl) (by simp) ?_
          refine AllReadyH.cons rfl (fun K hK => ?_) AllReadyH.nil
          go_simp
          (with_reducible refine (HC2.out _ _ HBA6.out).mono ?_)
          rintro e w7 ⟨v7, rfl, ho7, hB7⟩
          refine hK.out _ _ ⟨kc hB7 hS1.1, kc hB7 hS1.2⟩ (fun hS2 => ?_)
          clear hK K
          try simp only [Act.put, List.setIfInBounds_toArray, List.set_cons_zero, List.set_cons_succ]
          refine wpAnyH_take (i := 7) (v := ?_) rfl (by kernel_rfl) (by kernel_rfl) (by kernel_rfl) (fun _ _ _ h => h) (Or.inl ⟨by rfl, ?_⟩) hS2 ?_
          rotate_left
          · intro w hSw; (try dsimp only at hSw); go_simp; (first | done | with_reducible rfl)
          simp only [Act.put, List.getElem_toArray, List.getElem_cons_zero, List.getElem_cons_succ, List.setIfInBounds_toArray, List.set_cons_zero, List.set_cons_succ]
          refine wpAnyH_done (by kernel_rfl) ?_ _
          have hfin : Below W2.heap.size W2 w7 := go HI.out.2 (go HB4.out (go (Below.refl _ _).drew (go HB6.out hB7)))
          have HO7 := Lib.hid (own_base (base' := w.heap.size) ho7 (by have h1 := hfin.size; have h2 := HB2.out.size; have h3 := (go HI.out.2 (go HB4.out (go (Below.refl _ _).drew HB6.out))).size; omega))
          have HFI := Lib.hid hfin
          clear hS0 hS1 hS2 y0 y1 ho7 hB7 hfin
          go_wp2
          refine ⟨⟨_, _, .int .i64 ((k : Int) + 1), _, _, _, _, _, _, _, _, _, _, _, ⟨k + 1, by omega, by simp, Lib.hid ⟨?_, HFI.out⟩⟩, rfl⟩, ?_⟩
          · rw [HXK.out]
            exact HO7.out
          · show c.parts.length - (RowKit.intOf (.int .i64 ((k : Int) + 1))).toNat < c.parts.length - (RowKit.intOf (.int .i64 (k : Int))).toNat
            simp only [RowKit.intOf]
            omega
        · obtain rfl : k = c.parts.length := by omega
          rw [List.take_length] at HLE
          have hcb : L = cmdB c := HLE.out.symm
          obtain ⟨Ab, cb, rfl, -, -, -, -⟩ := own_form HI.out.1
          have hcv := conv_bytes (own_bytes HI.out.1)
          have HCB := Lib.hid hcb
          clear hcb
          go_wp2_with fail
          go_ret2
          rw [HCB.out]
          exact ⟨rfl, HB2.out.trans (HI.out.2.mono HB2.out.size)⟩
end Go.Proofs.YtkjajlolfcioiaaGreatDoor.Pack

/- control.Read, walked. -/
namespace Go.Proofs.YtkjajlolfcioiaaGreatDoor.Pack
open Go Go.RowKit Go.Proofs Go.Proofs.YtkjajlolfcioiaaGreatDoor Go.Proofs.YtkjajlolfcioiaaGreatDoor.Own Go.Proofs.YtkjajlolfcioiaaGreatDoor.Tail Go.Proofs.YtkjajlolfcioiaaGreatDoor.Check Go.Proofs.YtkjajlolfcioiaaGreatDoor.Ctl Go.Proofs.YtkjajlolfcioiaaGreatDoor.Control
/-- what has been read of a command. -/
def headA (xs : List Int) (v : Value) : Array Value := #[.int .i64 (xs.getD 0 0), .int .i64 (xs.getD 1 0), .int .i64 (xs.getD 2 0), .int .i64 (xs.getD 3 0), .int .i64 (xs.getD 4 0), .int .i64 (xs.getD 5 0), .int .i64 (xs.getD 6 0), v]
theorem headA_set {xs : List Int} {k : Nat} (hk : k < 7) (hl : xs.length = k) (x : Int) (v : Value) : (headA xs v).setIfInBounds k (.int .i64 x) = headA (xs ++ [x]) v := by
  have hks : k = 0 ∨ k = 1 ∨ k = 2 ∨ k = 3 ∨ k = 4 ∨ k = 5 ∨ k = 6 := by omega
  unfold headA
  rcases hks with rfl | rfl | rfl | rfl | rfl | rfl | rfl <;> simp [hl, List.getD_eq_getElem?_getD]
/-- '[]byte(s)'. -/
theorem str_bytes (s : ByteArray) (w : World) : ∃ v W, (convert 9 145 (.string s)).run Tryz.prog w = .ok v W ∧ BytesAt W v s.data.toList ∧ Below w.heap.size w W := by
  refine ⟨_, _, run_bytes_of_string w 9 145 5 s Tryz.underlying9 Tryz.underlying145 Tryz.underlying5, ?_, (Below.refl _ _).drew.alloc (Nat.le_refl _) _⟩
  have hsz : s.data.toList.length = s.size := Array.length_toList
  refine ⟨some ⟨w.heap.size, 0, none⟩, grownCap w s.size 0 5, by rw [hsz], ?_, fun _ => ⟨w.heap.size, 0, rfl, fun j u hj => ?_⟩⟩
  · rw [hsz]
    exact grownCap_ge _ _ _ _
  · have hh : ∀ o : Obj, (w.drew.alloc o).heap[w.heap.size]? = some o := fun o => heap_new w.drew o
    rw [Nat.zero_add, cell_of_row _ _ _ _ _ _ (hh _)]
    have hjl : j < s.data.size := by
      have := (List.getElem?_eq_some_iff.1 hj).1
      rw [byteLen] at this
      simpa using this
    unfold bytesRow
    rw [Array.getElem?_append_left (by simpa using hjl)]
    simpa [Lib.byteCells] using hj
/-- at most so many bytes are left. -/
def RdLe (N : Nat) (q : Rd) : Prop := ∀ l, q = some l → l.length ≤ N
theorem readN_le {N : Nat} {q : Rd} (h : RdLe N q) : RdLe N (readN q).2 := by
  cases q with
  | none => intro l e; cases e
  | some l =>
    intro l' e
    have e0 : readN (some l) = match takeL 0 0 l with
      | none => (0, none)
      | some (y, r) => (Lib.unzigzag y, some r) := rfl
    rw [e0] at e
    rcases ht : takeL 0 0 l with _ | ⟨z, r⟩
    · rw [ht] at e
      cases e
    · rw [ht] at e
      cases e
      have := (takeL_lt l 0 0 z _ (by omega) (by decide) ht).2
      have := h l rfl
      omega
theorem readNs_le {N : Nat} : ∀ (n : Nat) {q : Rd}, RdLe N q → RdLe N (readNs n q).2
  | 0, _, h => h
  | n + 1, _, h => readNs_le n (readN_le h)
theorem readPs_le {N : Nat} : ∀ (n : Nat) {q : Rd}, RdLe N q → RdLe N (readPs n q).2
  | 0, _, h => h
  | n + 1, _, h => readPs_le n (readN_le (readN_le h))
theorem readNs_len : ∀ (n : Nat) (q : Rd), (readNs n q).1.length = n
  | 0, _ => rfl
  | n + 1, q => by
    show (_ :: (readNs n _).1).length = _
    rw [List.length_cons, readNs_len n]
/-- only the reader and the command that is being read turn. -/
abbrev Kp2 (rb c0 : Nat) : World → World → Prop := Kp fun i => i = rb ∨ i = c0
theorem RdAt.lt {w : World} {rb : Nat} {q : Rd} (h : RdAt w rb q) : rb < w.heap.size := by
  cases q with
  | none => exact (Array.getElem?_eq_some_iff.1 h).1
  | some l => exact (Array.getElem?_eq_some_iff.1 h.choose_spec.1).1
/-- what lies behind a reader may turn. -/
theorem RdAt.keep {w w' : World} {rb : Nat} {q : Rd} (h : RdAt w rb q) (k : ∀ i, i ≤ rb → w'.heap[i]? = w.heap[i]?) : RdAt w' rb q := by
  cases q with
  | none => exact (k rb (Nat.le_refl _)).trans h
  | some l =>
    obtain ⟨v, h1, ⟨A, c, e, hc, hr⟩, h3⟩ := h
    refine ⟨v, (k rb (Nat.le_refl _)).trans h1, ⟨A, c, e, hc, fun h0 => ?_⟩, h3⟩
    obtain ⟨b, o, ea, hcells⟩ := hr h0
    refine ⟨b, o, ea, fun j u hj => ?_⟩
    have hb : b < rb := h3 ⟨b, o, none⟩ l.length c (by rw [e, ea])
    exact (World.cell?_of_block (k b (by omega))).trans (hcells j u hj)
theorem RdAt.below {w w' : World} {rb : Nat} {q : Rd} (h : RdAt w rb q) (k : Below w.heap.size w w') : RdAt w' rb q :=
  h.keep fun i hi => k.block i (Nat.lt_of_le_of_lt hi h.lt)
/-- a cell behind it is set. -/
theorem RdAt.set {w : World} {rb c0 i : Nat} {q : Rd} {u : Value} (h : RdAt w rb q) (hne : rb < c0) : RdAt (w.setCell ⟨c0, i, none⟩ u) rb q :=
  h.keep fun j hj => Below.heap_setCell _ _ _ _ (fun e => by have e : j = c0 := e; omega)
theorem Kp.grown {V : Nat → Prop} {w w' : World} {r : Option Nat} (h : w.grownBy w' r) (hr : ∀ k, r = some k → V k) : Kp V w w' :=
  ⟨h.os, h.tape, h.output, h.size, fun k hk hv => h.block k hk (fun e => hv (hr k e.symm))⟩
theorem own_same {base E size n : Nat} {v : Value} {xs : List Value} {w w' : World} (h : w.ownsRow base E size v n xs) (hb : ∀ k, base ≤ k → k < w.heap.size → w'.heap[k]? = w.heap[k]?) : w'.ownsRow base E size v n xs := by
  refine ⟨h.1, ?_⟩
  rcases h.2 with hn | ⟨g, cap, cur, hv, hg, hh, rest⟩
  · exact .inl hn
  · exact .inr ⟨g, cap, cur, hv, hg, (hb g hg (Array.getElem?_eq_some_iff.1 hh).1).trans hh, rest⟩
theorem sliceOfPartP : SliceOf Tryz.prog 53 75 2 16 := sliceOf (z := .agg #[.int .i64 0, .int .i64 0]) Tryz.underlying53 (by kernel_rfl) rfl (by decide)
theorem headA_no (xs : List Int) (A : Option Addr) (n c : Nat) : ∀ u ∈ (headA xs (.slice A n c)).toList, ∀ m, u ≠ .int .u8 m := by
  intro u hu m e
  subst e
  simp [headA] at hu
def ReadPost (o : Option Cmd) (w : World) (e : Ending) (w' : World) : Prop := Below w.heap.size w w' ∧ match o with
  | none => e = .returned (.tuple #[.agg #[.int .i64 0, .int .i64 0, .int .i64 0, .int .i64 0, .int .i64 0, .int .i64 0, .int .i64 0, .slice none 0 0], .int .i64 4])
  | some c => ∃ v, e = .returned (.tuple #[.agg (cmdCells c v), .int .i64 0]) ∧ w'.ownsRow w.heap.size 75 2 v c.parts.length (c.parts.flatMap partCells)
theorem cell_ret {tmps : Array Value} {X : World} {r0 : Nat} {cs : Array Value} {er : Int} (h2 : tmps[2]? = some (.pointer (some ⟨r0, 0, none⟩))) (h3 : tmps[3]? = some (.int .i64 er)) (hh : X.heap[r0]? = some (.cells cs 60)) (hs : cs.size = 8) :
    (results Tryz.f45 tmps).run Tryz.prog X = .ok (.tuple #[.agg cs, .int .i64 er]) X := by
  have hi : (Tryz.prog.info? 60).map (·.size) = some cs.size := by rw [hs]; kernel_rfl
  rw [results_cell_tmp (by kernel_rfl : Tryz.f45.results = #[.cell 2 60, .tmp 3])]
  simp [h2, h3, asAddr, run_loadVar_row X r0 60 60 cs (0, 0) _ hh Tryz.underlying60 rfl hi, Result.andThen]
theorem set8_heap {w : World} {b : Nat} {cs : Array Value} {T : TypeId} (h : w.heap[b]? = some (.cells cs T)) (hs : cs.size = 8) (v0 v1 v2 v3 v4 v5 v6 v7 : Value) :
    ((((((((w.setCell ⟨b, 0, none⟩ v0).setCell ⟨b, 1, none⟩ v1).setCell ⟨b, 2, none⟩ v2).setCell ⟨b, 3, none⟩ v3).setCell ⟨b, 4, none⟩ v4).setCell ⟨b, 5, none⟩ v5).setCell ⟨b, 6, none⟩ v6).setCell ⟨b, 7, none⟩ v7).heap[b]? = some (.cells #[v0, v1, v2, v3, v4, v5, v6, v7] T) := by
  rw [set_heap (i := 7) _ (set_heap (i := 6) _ (set_heap (i := 5) _ (set_heap (i := 4) _ (set_heap (i := 3) _ (set_heap (i := 2) _ (set_heap (i := 1) _ (set_heap (i := 0) _ h)))))))]
  obtain ⟨l⟩ := cs
  match l, hs with
  | [a, b, c, d, e, f, g, h], _ =>
    show some (Obj.cells ((((((((([a, b, c, d, e, f, g, h] : List Value).toArray.setIfInBounds 0 v0).setIfInBounds 1 v1).setIfInBounds 2 v2).setIfInBounds 3 v3).setIfInBounds 4 v4).setIfInBounds 5 v5).setIfInBounds 6 v6).setIfInBounds 7 v7) T) = _
    simp only [List.setIfInBounds_toArray, List.set_cons_zero, List.set_cons_succ]
theorem set8_but (w : World) (b : Nat) (v0 v1 v2 v3 v4 v5 v6 v7 : Value) :
    But b w ((((((((w.setCell ⟨b, 0, none⟩ v0).setCell ⟨b, 1, none⟩ v1).setCell ⟨b, 2, none⟩ v2).setCell ⟨b, 3, none⟩ v3).setCell ⟨b, 4, none⟩ v4).setCell ⟨b, 5, none⟩ v5).setCell ⟨b, 6, none⟩ v6).setCell ⟨b, 7, none⟩ v7) :=
  ((((((((But.refl b w).setCell 0 v0).setCell 1 v1).setCell 2 v2).setCell 3 v3).setCell 4 v4).setCell 5 v5).setCell 6 v6).setCell 7 v7
set_option maxHeartbeats 4000000 in
set_option maxRecDepth 100000 in
theorem read_calls (s : ByteArray) (w : World) (hl : s.size ≤ 1000000) :
    Calls Tryz.prog 45 #[.string s] w (ReadPost (readC s.data.toList) w) := by
  obtain ⟨W0, hW0⟩ : ∃ W0, w.alloc (.cells (headA [] (.slice none 0 0)) 60) = W0 := ⟨_, rfl⟩
  have hA0 : w.alloc (.cells #[.int .i64 0, .int .i64 0, .int .i64 0, .int .i64 0, .int .i64 0, .int .i64 0, .int .i64 0, .slice none 0 0] 60) = W0 := hW0
  have HB0 := Lib.hid (show Below w.heap.size w W0 from by rw [← hW0]; exact box_below _ _)
  have HR0 := Lib.hid (show W0.heap[w.heap.size]? = some (.cells (headA [] (.slice none 0 0)) 60) from by rw [← hW0]; exact heap_new _ _)
  obtain ⟨bv, W1, hcv, hba, hb1⟩ := str_bytes s W0
  have HB1 := Lib.hid hb1
  have HNW := Lib.hid (new_calls bv s.data.toList W1 hba (by have : s.data.toList.length = s.size := Array.length_toList; omega))
  clear hba hb1 hW0
  go_enter Tryz.func45, Tryz.ntmps45
  go_wp2_with fail
  (with_reducible refine HNW.out.mono ?_)
  rintro e W2 ⟨rb, rfl, hrb, hrd, hb2⟩
  have HB2 := Lib.hid hb2
  obtain ⟨q0, hq0⟩ : ∃ q0 : Rd, some s.data.toList = q0 := ⟨_, rfl⟩
  rw [hq0] at hrd
  have HQ0 := Lib.hid hq0
  have HRD := Lib.hid hrd
  have HRB := Lib.hid hrb
  have hpt : ∀ k : Nat, k < 7 → (#[.pointer (some ⟨W2.heap.size, 0, none⟩), .pointer (some ⟨W2.heap.size, 1, none⟩), .pointer (some ⟨W2.heap.size, 2, none⟩), .pointer (some ⟨W2.heap.size, 3, none⟩), .pointer (some ⟨W2.heap.size, 4, none⟩), .pointer (some ⟨W2.heap.size, 5, none⟩), .pointer (some ⟨W2.heap.size, 6, none⟩)] : Array Value)[k]? = some (.pointer (some ⟨W2.heap.size, k, none⟩)) := by
    intro k hk
    have hks : k = 0 ∨ k = 1 ∨ k = 2 ∨ k = 3 ∨ k = 4 ∨ k = 5 ∨ k = 6 := by omega
    rcases hks with rfl | rfl | rfl | rfl | rfl | rfl | rfl <;> rfl
  have HPT := Lib.hid hpt
  clear hrd hrb hb2 hq0 hA0 hcv HNW hpt
  go_wp2_with fail
  obtain ⟨W3, hW3⟩ : ∃ W3, W2.alloc (.cells #[.int .i64 0, .int .i64 0, .int .i64 0, .int .i64 0, .int .i64 0, .int .i64 0, .int .i64 0, .slice none 0 0] 60) = W3 := ⟨_, rfl⟩
  have HZ3 := Lib.hid (show W3.heap.size = W2.heap.size + 1 from by rw [← hW3]; simp)
  have HC3 := Lib.hid (show W3.heap[W2.heap.size]? = some (.cells (headA [] (.slice none 0 0)) 60) from by rw [← hW3]; exact heap_new _ _)
  have HB3 := Lib.hid (show Below W2.heap.size W2 W3 from by rw [← hW3]; exact box_below _ _)
  rw [hW3]
  clear hW3
  obtain ⟨W4, hW4⟩ : ∃ W4, W3.alloc (.cells #[.pointer (some ⟨W2.heap.size, 0, none⟩), .pointer (some ⟨W2.heap.size, 1, none⟩), .pointer (some ⟨W2.heap.size, 2, none⟩), .pointer (some ⟨W2.heap.size, 3, none⟩), .pointer (some ⟨W2.heap.size, 4, none⟩), .pointer (some ⟨W2.heap.size, 5, none⟩), .pointer (some ⟨W2.heap.size, 6, none⟩)] 149) = W4 := ⟨_, rfl⟩
  have HB4 := Lib.hid (show Below W3.heap.size W3 W4 from by rw [← hW4]; exact box_below _ _)
  have HPC := Lib.hid (show ∀ k : Nat, k < 7 → W4.cell? ⟨W2.heap.size + 1, k, none⟩ = some (.pointer (some ⟨W2.heap.size, k, none⟩)) from fun k hk => by rw [← hW4]; exact cell_new HZ3.out.symm (HPT.out k hk))
  have HZ4 := Lib.hid (show W4.heap.size = W2.heap.size + 2 from by rw [← hW4]; simp [HZ3.out])
  rw [hW4]
  have HC4 := Lib.hid (show W4.heap[W2.heap.size]? = some (.cells (headA [] (.slice none 0 0)) 60) from (HB4.out.block _ (by have := HZ3.out; omega)).trans HC3.out)
  have HR4 := Lib.hid (show RdAt W4 rb q0 from (HRD.out.below HB3.out).below HB4.out)
  have HL0 := Lib.hid (show RdLe 1000000 q0 from fun l e => by
    rw [← HQ0.out] at e
    cases e
    have : s.data.toList.length = s.size := Array.length_toList
    omega)
  have HRB2 := Lib.hid HRD.out.lt
  obtain ⟨c0, hc0⟩ : ∃ c0, W2.heap.size = c0 := ⟨_, rfl⟩
  rw [hc0] at HC4 HPC HZ4 HRB2 ⊢
  have HWC := Lib.hid (show W1.heap.size ≤ c0 from by rw [← hc0]; exact HB2.out.size)
  have HBW := Lib.hid (show Below W1.heap.size W1 W4 from (HB2.out.trans (HB3.out.mono HB2.out.size)).trans (HB4.out.mono (Nat.le_trans HB2.out.size HB3.out.size)))
  clear hW4 HPT HC3 HRD HZ3 HB3 HB4 HB2 hc0
  go_loopw [22] (fun vi wr => ∃ k : Nat, k ≤ 7 ∧ vi = .int .i64 (k : Int) ∧ Hid (RdAt wr rb (readNs k q0).2 ∧ wr.heap[c0]? = some (.cells (headA (readNs k q0).1 (.slice none 0 0)) 60) ∧ Kp2 rb c0 W4 wr)) (fun vi _ => 7 - (RowKit.intOf vi).toNat)
  case atStart => exact ⟨0, Nat.zero_le _, rfl, Lib.hid ⟨HR4.out, HC4.out, Kp.refl _ _⟩⟩
  case round =>
    clear HR4 HC4
    obtain ⟨k, hk, rfl, HI⟩ := hrel
    by_cases hlt : k < 7
    · have l0 : (k : Int) < 7 := by omega
      have hne : rb ≠ c0 := by have := HRB2.out; omega
      have hp : wr.cell? ⟨c0 + 1, k, none⟩ = some (.pointer (some ⟨c0, k, none⟩)) := HI.out.2.2.cell (p := ⟨c0 + 1, k, none⟩) (by have := HRB2.out; show ¬ (c0 + 1 = rb ∨ c0 + 1 = c0); omega) (HPC.out k hlt)
      have hbl := lt_of_cell hp
      have HCN := Lib.hid (readNum_calls rb _ wr HI.out.1 (readNs_le k HL0.out))
      obtain ⟨x, hx⟩ : ∃ x, (readN (readNs k q0).2).1 = x := ⟨_, rfl⟩
      rw [hx] at HCN
      have HXS := Lib.hid hx
      have HNE := Lib.hid hne
      clear hx hne
      go_wp2_with fail
      (with_reducible refine HCN.out.mono ?_)
      rintro e w6 ⟨rfl, hr6, hb6⟩
      have hh6 : w6.heap[c0]? = some (.cells (headA (readNs k q0).1 (.slice none 0 0)) 60) := (hb6.block c0 (Array.getElem?_eq_some_iff.1 HI.out.2.1).1 (fun e => HNE.out (by cases e; rfl))).trans HI.out.2.1
      have hcl : ∃ u, w6.cell? ⟨c0, k, none⟩ = some u := by
        rw [cell_of_row _ _ _ _ _ _ hh6]
        exact ⟨_, Array.getElem?_eq_getElem (show k < (headA (readNs k q0).1 (.slice none 0 0)).size from by show k < 8; omega)⟩
      obtain ⟨u0, hu0⟩ := hcl
      have hf6 : w6.frozen? ⟨c0, k, none⟩ = false := by simp [World.frozen?, hh6]
      have HH6 := Lib.hid hh6
      have HR6 := Lib.hid hr6
      have HB6 := Lib.hid hb6
      clear hh6 hr6 hb6 hp hbl
      go_wp2_with fail
      refine ⟨⟨k + 1, by omega, by simp, Lib.hid ⟨?_, ?_, ?_⟩⟩, by simp only [RowKit.intOf]; omega⟩
      · rw [readNs_snoc]
        exact HR6.out.set HRB2.out
      · rw [set_heap (i := k) _ HH6.out, headA_set hlt (readNs_len _ _), readNs_snoc, HXS.out]
      · exact (HI.out.2.2.trans (Kp.of_but (U := fun i => i = rb ∨ i = c0) HB6.out (.inl rfl)) (fun _ _ h => h)).trans (Kp.of_but (U := fun i => i = rb ∨ i = c0) ((But.refl c0 w6).setCell k _) (.inr rfl)) (fun _ _ h => h)
    · obtain rfl : k = 7 := by omega
      have HCN := Lib.hid (readNum_calls rb _ wr HI.out.1 (readNs_le 7 HL0.out))
      obtain ⟨xs, hxs⟩ : ∃ xs, (readNs 7 q0).1 = xs := ⟨_, rfl⟩
      obtain ⟨q1, hq1⟩ : ∃ q1, (readNs 7 q0).2 = q1 := ⟨_, rfl⟩
      rw [hxs, hq1] at HI
      rw [hq1] at HCN
      obtain ⟨m, hm⟩ : ∃ m, (readN q1).1 = m := ⟨_, rfl⟩
      obtain ⟨q2, hq2⟩ : ∃ q2, (readN q1).2 = q2 := ⟨_, rfl⟩
      rw [hm, hq2] at HCN
      have hrc : readC s.data.toList = if m < 0 ∨ 32 < m then none else if (readPs m.toNat q2).2 = some [] then some ⟨xs.getD 0 0, xs.getD 1 0, xs.getD 2 0, xs.getD 3 0, xs.getD 4 0, xs.getD 5 0, xs.getD 6 0, (readPs m.toNat q2).1⟩ else none := by
        have e0 : readC s.data.toList = if (readN (readNs 7 (some s.data.toList)).2).1 < 0 ∨ 32 < (readN (readNs 7 (some s.data.toList)).2).1 then none else if (readPs (readN (readNs 7 (some s.data.toList)).2).1.toNat (readN (readNs 7 (some s.data.toList)).2).2).2 = some [] then some ⟨(readNs 7 (some s.data.toList)).1.getD 0 0, (readNs 7 (some s.data.toList)).1.getD 1 0, (readNs 7 (some s.data.toList)).1.getD 2 0, (readNs 7 (some s.data.toList)).1.getD 3 0, (readNs 7 (some s.data.toList)).1.getD 4 0, (readNs 7 (some s.data.toList)).1.getD 5 0, (readNs 7 (some s.data.toList)).1.getD 6 0, (readPs (readN (readNs 7 (some s.data.toList)).2).1.toNat (readN (readNs 7 (some s.data.toList)).2).2).1⟩ else none := rfl
        rw [e0, HQ0.out, hq1, hxs, hm, hq2]
      have HRC := Lib.hid hrc
      have HL2 := Lib.hid (show RdLe 1000000 q2 from by rw [← hq2, ← hq1]; exact readN_le (readNs_le 7 HL0.out))
      clear hxs hq1 hm hq2 hrc
      go_wp2_with fail
      (with_reducible refine HCN.out.mono ?_)
      rintro e w6 ⟨rfl, hr6, hb6⟩
      have hne : rb ≠ c0 := by have := HRB2.out; omega
      have HNE := Lib.hid hne
      have hr0 : w6.heap[w.heap.size]? = some (.cells (headA [] (.slice none 0 0)) 60) := by
        have h1 := HR0.out
        have hlt0 : w.heap.size < W0.heap.size := (Array.getElem?_eq_some_iff.1 h1).1
        have h2 := (HB1.out.block _ hlt0).trans h1
        have hlt1 : w.heap.size < W1.heap.size := (Array.getElem?_eq_some_iff.1 h2).1
        have h4 := (HBW.out.block _ hlt1).trans h2
        have hlt4 : w.heap.size < W4.heap.size := (Array.getElem?_eq_some_iff.1 h4).1
        have hrb := HRB.out
        have hwc := HWC.out
        have h5 := (HI.out.2.2.block _ hlt4 (by rintro (e | e) <;> omega)).trans h4
        exact (hb6.block _ (Array.getElem?_eq_some_iff.1 h5).1 (fun e => by have := Option.some.inj e; omega)).trans h5
      have hc6 : w6.heap[c0]? = some (.cells (headA xs (.slice none 0 0)) 60) := (hb6.block c0 (Array.getElem?_eq_some_iff.1 HI.out.2.1).1 (fun e => hne (by cases e; rfl))).trans HI.out.2.1
      have hk6 : Kp2 rb c0 W4 w6 := HI.out.2.2.trans (Kp.of_but (U := fun i => i = rb ∨ i = c0) hb6 (.inl rfl)) (fun _ _ h => h)
      have HR04 := Lib.hid (show W4.heap[w.heap.size]? = some (.cells (headA [] (.slice none 0 0)) 60) ∧ w.heap.size < W1.heap.size from by
        have h1 := HR0.out
        have h2 := (HB1.out.block _ (Array.getElem?_eq_some_iff.1 h1).1).trans h1
        have hlt1 : w.heap.size < W1.heap.size := (Array.getElem?_eq_some_iff.1 h2).1
        exact ⟨(HBW.out.block _ hlt1).trans h2, hlt1⟩)
      have HW1B := Lib.hid (show Below w.heap.size w W4 from (HB0.out.trans (HB1.out.mono HB0.out.size)).trans (HBW.out.mono (Nat.le_trans HB0.out.size HB1.out.size)))
      have HB6W := Lib.hid (show Below w.heap.size w w6 from HW1B.out.trans (hk6.below HW1B.out.size (by
        have h1 := HRB.out
        have h2 := HWC.out
        have h3 := HB0.out.size
        have h4 := HB1.out.size
        rintro i (e | e) <;> omega)))
      have HH6 := Lib.hid hc6
      have HR6 := Lib.hid hr6
      have HK6 := Lib.hid hk6
      have HR00 := Lib.hid hr0
      clear hc6 hr6 hb6 hk6 hne hr0 HI HCN
      have a0 : w6.cell? ⟨w.heap.size, 0, none⟩ = some (.int .i64 0) := by rw [cell_of_row _ _ _ _ _ _ HR00.out]; rfl
      have z0 : w6.frozen? ⟨w.heap.size, 0, none⟩ = false := by simp [World.frozen?, HR00.out]
      have a1 : w6.cell? ⟨w.heap.size, 1, none⟩ = some (.int .i64 0) := by rw [cell_of_row _ _ _ _ _ _ HR00.out]; rfl
      have z1 : w6.frozen? ⟨w.heap.size, 1, none⟩ = false := by simp [World.frozen?, HR00.out]
      have a2 : w6.cell? ⟨w.heap.size, 2, none⟩ = some (.int .i64 0) := by rw [cell_of_row _ _ _ _ _ _ HR00.out]; rfl
      have z2 : w6.frozen? ⟨w.heap.size, 2, none⟩ = false := by simp [World.frozen?, HR00.out]
      have a3 : w6.cell? ⟨w.heap.size, 3, none⟩ = some (.int .i64 0) := by rw [cell_of_row _ _ _ _ _ _ HR00.out]; rfl
      have z3 : w6.frozen? ⟨w.heap.size, 3, none⟩ = false := by simp [World.frozen?, HR00.out]
      have a4 : w6.cell? ⟨w.heap.size, 4, none⟩ = some (.int .i64 0) := by rw [cell_of_row _ _ _ _ _ _ HR00.out]; rfl
      have z4 : w6.frozen? ⟨w.heap.size, 4, none⟩ = false := by simp [World.frozen?, HR00.out]
      have a5 : w6.cell? ⟨w.heap.size, 5, none⟩ = some (.int .i64 0) := by rw [cell_of_row _ _ _ _ _ _ HR00.out]; rfl
      have z5 : w6.frozen? ⟨w.heap.size, 5, none⟩ = false := by simp [World.frozen?, HR00.out]
      have a6 : w6.cell? ⟨w.heap.size, 6, none⟩ = some (.int .i64 0) := by rw [cell_of_row _ _ _ _ _ _ HR00.out]; rfl
      have z6 : w6.frozen? ⟨w.heap.size, 6, none⟩ = false := by simp [World.frozen?, HR00.out]
      have a7 : w6.cell? ⟨w.heap.size, 7, none⟩ = some (.slice none 0 0) := by rw [cell_of_row _ _ _ _ _ _ HR00.out]; rfl
      have z7 : w6.frozen? ⟨w.heap.size, 7, none⟩ = false := by simp [World.frozen?, HR00.out]
      by_cases hbad : m < 0 ∨ 32 < m
      · have HN := Lib.hid (show readC s.data.toList = none from by rw [HRC.out, if_pos hbad])
        clear HRC
        rcases hbad with hbad | hbad
        · have t1 : decide (m < 0) = true := decide_eq_true hbad
          go_wp2_with fail
          refine bodyPost_ret (cell_ret rfl rfl (set8_heap HR00.out rfl _ _ _ _ _ _ _ _) rfl) rfl ?_
          rw [HN.out]
          exact ⟨But.fresh HB6W.out (Nat.le_refl _) HB6W.out.size (set8_but _ _ _ _ _ _ _ _ _ _), rfl⟩
        · have t1 : decide (m < 0) = false := decide_eq_false (by omega)
          have t2 : decide ((32 : Int) < m) = true := decide_eq_true hbad
          go_wp2_with fail
          refine bodyPost_ret (cell_ret rfl rfl (set8_heap HR00.out rfl _ _ _ _ _ _ _ _) rfl) rfl ?_
          rw [HN.out]
          exact ⟨But.fresh HB6W.out (Nat.le_refl _) HB6W.out.size (set8_but _ _ _ _ _ _ _ _ _ _), rfl⟩
      · have hm0 : 0 ≤ m := by omega
        have hm32 : m ≤ 32 := by omega
        have HRC2 := Lib.hid (show readC s.data.toList = if (readPs m.toNat q2).2 = some [] then some ⟨xs.getD 0 0, xs.getD 1 0, xs.getD 2 0, xs.getD 3 0, xs.getD 4 0, xs.getD 5 0, xs.getD 6 0, (readPs m.toNat q2).1⟩ else none from by rw [HRC.out, if_neg hbad])
        obtain ⟨n, rfl⟩ : ∃ n : Nat, m = (n : Int) := ⟨m.toNat, by omega⟩
        rw [Int.toNat_natCast] at HRC2
        have t1 : decide ((n : Int) < 0) = false := decide_eq_false (by omega)
        have t2 : decide ((32 : Int) < (n : Int)) = false := decide_eq_false (by omega)
        have hn32 : n ≤ 32 := by omega
        have HN0 := Lib.hid (show RdAt w6 rb (readPs 0 q2).2 ∧ (∃ A cp, w6.heap[c0]? = some (.cells (headA xs (.slice A 0 cp)) 60) ∧ w6.ownsRow W4.heap.size 75 2 (.slice A 0 cp) 0 ((readPs 0 q2).1.flatMap partCells)) ∧ Kp2 rb c0 W4 w6 from ⟨HR6.out, ⟨none, 0, HH6.out, own_nil _ _ _ _⟩, HK6.out⟩)
        clear HRC hbad hm0 hm32 a0 a1 a2 a3 a4 a5 a6 a7 z0 z1 z2 z3 z4 z5 z6 z7 HH6 HR6 HK6
        go_wp2_with fail
        go_loopw [41] (fun vi wr => ∃ k : Nat, k ≤ n ∧ vi = .int .i64 (k : Int) ∧ Hid (RdAt wr rb (readPs k q2).2 ∧ (∃ A cp, wr.heap[c0]? = some (.cells (headA xs (.slice A k cp)) 60) ∧ wr.ownsRow W4.heap.size 75 2 (.slice A k cp) k ((readPs k q2).1.flatMap partCells)) ∧ Kp2 rb c0 W4 wr)) (fun vi _ => n - (RowKit.intOf vi).toNat)
        case atStart => exact ⟨0, Nat.zero_le _, rfl, HN0⟩
        case round =>
          clear HN0
          obtain ⟨k, hk, rfl, HI⟩ := hrel
          by_cases hlt : k < n
          · have l0 : (k : Int) < (n : Int) := by omega
            have HCN := Lib.hid (readNum_calls rb _ wr HI.out.1 (readPs_le k HL2.out))
            obtain ⟨x1, hx1⟩ : ∃ x, (readN (readPs k q2).2).1 = x := ⟨_, rfl⟩
            obtain ⟨q3, hq3⟩ : ∃ q, (readN (readPs k q2).2).2 = q := ⟨_, rfl⟩
            rw [hx1, hq3] at HCN
            have HL3 := Lib.hid (show RdLe 1000000 q3 from by rw [← hq3]; exact readN_le (readPs_le k HL2.out))
            have HPS := Lib.hid (show readPs (k + 1) q2 = ((readPs k q2).1 ++ [(x1, (readN q3).1)], (readN q3).2) from by rw [readPs_snoc, hx1, hq3])
            obtain ⟨A, cp, hc0, ho0⟩ := HI.out.2.1
            have HC0 := Lib.hid hc0
            have HO0 := Lib.hid ho0
            clear hx1 hq3 hc0 ho0
            go_wp2_with fail
            (with_reducible refine HCN.out.mono ?_)
            rintro e w7 ⟨rfl, hr7, hb7⟩
            obtain ⟨X7, hX7⟩ : ∃ X7, w7.alloc (.cells #[.int .i64 x1, .int .i64 0] 75) = X7 := ⟨_, rfl⟩
            have hrX : RdAt X7 rb q3 := by rw [← hX7]; exact hr7.below (box_below _ _)
            have HC2 := Lib.hid (readNum_calls rb _ X7 hrX HL3.out)
            obtain ⟨x2, hx2⟩ : ∃ x, (readN q3).1 = x := ⟨_, rfl⟩
            obtain ⟨q4, hq4⟩ : ∃ q, (readN q3).2 = q := ⟨_, rfl⟩
            rw [hx2, hq4] at HC2 HPS
            have hpX : X7.heap[w7.heap.size]? = some (.cells #[.int .i64 x1, .int .i64 0] 75) := by rw [← hX7]; exact heap_new _ _
            have HX7 := Lib.hid (show Below w7.heap.size w7 X7 ∧ w7.heap.size < X7.heap.size from by rw [← hX7]; exact ⟨box_below _ _, by simp⟩)
            have HB7 := Lib.hid hb7
            have HPX := Lib.hid hpX
            have HXE := Lib.hid hX7
            clear hr7 hb7 hrX hx2 hq4 hpX hX7
            go_wp2_with fail
            rw [HXE.out]
            clear HXE
            (with_reducible refine HC2.out.mono ?_)
            rintro e w9 ⟨rfl, hr9, hb9⟩
            have hwr4 : W4.heap.size ≤ wr.heap.size := HI.out.2.2.size
            have hw7 : wr.heap.size ≤ w7.heap.size := HB7.out.size
            have hcz : c0 < W4.heap.size := by have := HZ4.out; omega
            have hrz : rb < c0 := HRB2.out
            have hp9 : w9.heap[w7.heap.size]? = some (.cells #[.int .i64 x1, .int .i64 0] 75) := (hb9.block _ HX7.out.2 (fun e => by have := Option.some.inj e; omega)).trans HPX.out
            have hc9 : w9.heap[c0]? = some (.cells (headA xs (.slice A k cp)) 60) := (hb9.block _ (by have := HX7.out.2; omega) (fun e => by have := Option.some.inj e; omega)).trans ((HX7.out.1.block _ (by omega)).trans ((HB7.out.block _ (by omega) (fun e => by have := Option.some.inj e; omega)).trans HC0.out))
            have ho9 : w9.ownsRow W4.heap.size 75 2 (.slice A k cp) k ((readPs k q2).1.flatMap partCells) := own_same HO0.out fun i h1 h2 => (hb9.block _ (by have := HX7.out.2; omega) (fun e => by have := Option.some.inj e; omega)).trans ((HX7.out.1.block _ (by omega)).trans (HB7.out.block _ h2 (fun e => by have := Option.some.inj e; omega)))
            have p0 : w9.cell? ⟨w7.heap.size, 0, none⟩ = some (.int .i64 x1) := by rw [cell_of_row _ _ _ _ _ _ hp9]; rfl
            have p1 : w9.cell? ⟨w7.heap.size, 1, none⟩ = some (.int .i64 0) := by rw [cell_of_row _ _ _ _ _ _ hp9]; rfl
            have f1 : w9.frozen? ⟨w7.heap.size, 1, none⟩ = false := by simp [World.frozen?, hp9]
            have hnc : ¬ w7.heap.size = c0 := by omega
            have hnc2 : ¬ c0 = w7.heap.size := by omega
            have c7 : w9.cell? ⟨c0, 7, none⟩ = some (.slice A k cp) := by rw [cell_of_row _ _ _ _ _ _ hc9]; rfl
            have HEQ := Lib.hid (show ∀ i, i < wr.heap.size → i ≠ rb → w9.heap[i]? = wr.heap[i]? from fun i h2 h3 => (hb9.block _ (by have := HX7.out.2; omega) (fun e => h3 (Option.some.inj e))).trans ((HX7.out.1.block _ (by omega)).trans (HB7.out.block _ h2 (fun e => h3 (Option.some.inj e)))))
            have hyb : ∀ i, i < w9.heap.size → i ≠ w7.heap.size → ((w9.setCell ⟨w7.heap.size, 1, none⟩ (.int .i64 x2)).alloc (.cells #[.int .i64 x1, .int .i64 x2] 75)).heap[i]? = w9.heap[i]? := fun i h1 h2 => (Below.heap_alloc _ _ i (by simpa [World.setCell] using h1)).trans (Below.heap_setCell _ _ _ _ (fun e => h2 (by have e : i = w7.heap.size := e; exact e)))
            have HYB := Lib.hid hyb
            have HOY := Lib.hid (show ((w9.setCell ⟨w7.heap.size, 1, none⟩ (.int .i64 x2)).alloc (.cells #[.int .i64 x1, .int .i64 x2] 75)).ownsRow W4.heap.size 75 2 (.slice A k cp) k ((readPs k q2).1.flatMap partCells) from own_same HO0.out fun i h1 h2 => (hyb i (by have := hb9.size; have := HX7.out.2; omega) (by omega)).trans (HEQ.out i h2 (by omega)))
            have HSZ := Lib.hid (show W4.heap.size ≤ w9.heap.size ∧ w7.heap.size < w9.heap.size from ⟨by have := hb9.size; have := HX7.out.2; omega, by have := hb9.size; have := HX7.out.2; omega⟩)
            have hys : ((w9.setCell ⟨w7.heap.size, 1, none⟩ (.int .i64 x2)).alloc (.cells #[.int .i64 x1, .int .i64 x2] 75)).heap.size = w9.heap.size + 1 := by simp [World.setCell]
            have HYS := Lib.hid hys
            have HBX := Lib.hid (show ((w9.setCell ⟨w7.heap.size, 1, none⟩ (.int .i64 x2)).alloc (.cells #[.int .i64 x1, .int .i64 x2] 75)).heap[w9.heap.size]? = some (.cells #[.int .i64 x1, .int .i64 x2] 75) from by have := heap_new (w9.setCell ⟨w7.heap.size, 1, none⟩ (.int .i64 x2)) (.cells #[.int .i64 x1, .int .i64 x2] 75); simpa [World.setCell] using this)
            have HC9 := Lib.hid hc9
            have HR9 := Lib.hid hr9
            have HB9 := Lib.hid hb9
            clear hp9 hc9 ho9 hr9 hb9 hyb hys
            go_wp2_with (at_builtin; go_must (refine list_app sliceOfPartP rfl _ _ rfl (base := W4.heap.size) rfl HOY.out rfl (Src.at HBX.out 2 1 1 rfl (by intro u hu; simp at hu; rcases hu with rfl | rfl <;> rfl)) (by unfold maxLen; omega) (by omega) (by have := HSZ.out.1; have := HYS.out; omega) ?_); intro v10 w10 ho10 hB10 hg10; obtain ⟨A', cp', rfl, -, -, -, -⟩ := own_form ho10; have hc10 : w10.heap[c0]? = some (.cells (headA xs (.slice A k cp)) 60) := (hg10.block c0 (by have := HSZ.out.1; have := HYS.out; omega) (fun e => by have := own_blk HOY.out c0 e.symm; omega)).trans ((HYB.out c0 (by have := HSZ.out.1; omega) (by omega)).trans HC9.out); have d7 : w10.cell? ⟨c0, 7, none⟩ = some (.slice A k cp) := (by rw [cell_of_row _ _ _ _ _ _ hc10]; rfl); have df7 : w10.frozen? ⟨c0, 7, none⟩ = false := (by simp [World.frozen?, hc10]); have HC10 := Lib.hid hc10; have HO10 := Lib.hid ho10; have HG10 := Lib.hid hg10; clear hc10 ho10 hB10 hg10)
            have hwr4 : W4.heap.size ≤ wr.heap.size := HI.out.2.2.size
            have hw7 : wr.heap.size ≤ w7.heap.size := HB7.out.size
            have hcz : c0 < W4.heap.size := by have := HZ4.out; omega
            have hrz : rb < c0 := HRB2.out
            refine ⟨⟨k + 1, by omega, by simp, Lib.hid ⟨?_, ⟨A', cp', ?_, ?_⟩, ?_⟩⟩, by simp only [RowKit.intOf]; omega⟩
            · rw [HPS.out]
              refine HR9.out.keep fun i hi => ?_
              refine (Below.heap_setCell _ _ _ _ (fun e => by have e : i = c0 := e; omega)).trans ((HG10.out.block i (by have := HYS.out; have := HSZ.out.1; omega) (fun e => by have := own_blk HOY.out i e.symm; omega)).trans (HYB.out i (by have := HSZ.out.1; omega) (by omega)))
            · exact set_heap (i := 7) _ HC10.out
            · rw [HPS.out]
              have := own_same (w' := w10.setCell ⟨c0, 7, none⟩ (.slice A' (k + 1) cp')) HO10.out fun i h1 h2 => Below.heap_setCell _ _ _ _ (fun e => by have e : i = c0 := e; omega)
              rw [List.flatMap_append]
              exact this
            · have k1 : Kp2 rb c0 W4 w7 := HI.out.2.2.trans (Kp.of_but (U := fun i => i = rb ∨ i = c0) HB7.out (.inl rfl)) (fun _ _ h => h)
              have k2 : Kp2 rb c0 W4 X7 := k1.trans (Kp.of_below (U := fun i => i = rb ∨ i = c0) HX7.out.1) (fun _ _ h => h)
              have k3 : Kp2 rb c0 W4 w9 := k2.trans (Kp.of_but (U := fun i => i = rb ∨ i = c0) HB9.out (.inl rfl)) (fun _ _ h => h)
              have k4 := k3.trans (Kp.of_but (U := fun i => i = w7.heap.size) (((But.refl w7.heap.size w9).setCell 1 (.int .i64 x2)).alloc (.cells #[.int .i64 x1, .int .i64 x2] 75)) rfl) (fun i h1 h2 => by exfalso; have h2 : i = w7.heap.size := h2; omega)
              have k5 := k4.trans (Kp.grown (V := fun i => W4.heap.size ≤ i) HG10.out (fun j e => own_blk HOY.out j e)) (fun i h1 h2 => by exfalso; have h2 : W4.heap.size ≤ i := h2; omega)
              exact k5.trans (Kp.of_but (U := fun i => i = rb ∨ i = c0) ((But.refl c0 w10).setCell 7 _) (.inr rfl)) (fun _ _ h => h)
          · obtain rfl : k = n := by omega
            obtain ⟨A, cp, hc0, ho0⟩ := HI.out.2.1
            have HC0 := Lib.hid hc0
            have HO0 := Lib.hid ho0
            have hcz : c0 < W4.heap.size := by have := HZ4.out; omega
            have hrz : rb < c0 := HRB2.out
            have hr0 : wr.heap[w.heap.size]? = some (.cells (headA [] (.slice none 0 0)) 60) := by
              have h1 := HRB.out
              have h2 := HWC.out
              have h3 := HR04.out.2
              exact (HI.out.2.2.block _ (Array.getElem?_eq_some_iff.1 HR04.out.1).1 (by rintro (e | e) <;> omega)).trans HR04.out.1
            have HBE := Lib.hid (show Below w.heap.size w wr from HW1B.out.trans (HI.out.2.2.below HW1B.out.size (by
              have h1 := HRB.out
              have h2 := HWC.out
              have h3 := HB0.out.size
              have h4 := HB1.out.size
              rintro i (e | e) <;> omega)))
            have HR00 := Lib.hid hr0
            have a0 : wr.cell? ⟨w.heap.size, 0, none⟩ = some (.int .i64 0) := by rw [cell_of_row _ _ _ _ _ _ hr0]; rfl
            have z0 : wr.frozen? ⟨w.heap.size, 0, none⟩ = false := by simp [World.frozen?, hr0]
            have a1 : wr.cell? ⟨w.heap.size, 1, none⟩ = some (.int .i64 0) := by rw [cell_of_row _ _ _ _ _ _ hr0]; rfl
            have z1 : wr.frozen? ⟨w.heap.size, 1, none⟩ = false := by simp [World.frozen?, hr0]
            have a2 : wr.cell? ⟨w.heap.size, 2, none⟩ = some (.int .i64 0) := by rw [cell_of_row _ _ _ _ _ _ hr0]; rfl
            have z2 : wr.frozen? ⟨w.heap.size, 2, none⟩ = false := by simp [World.frozen?, hr0]
            have a3 : wr.cell? ⟨w.heap.size, 3, none⟩ = some (.int .i64 0) := by rw [cell_of_row _ _ _ _ _ _ hr0]; rfl
            have z3 : wr.frozen? ⟨w.heap.size, 3, none⟩ = false := by simp [World.frozen?, hr0]
            have a4 : wr.cell? ⟨w.heap.size, 4, none⟩ = some (.int .i64 0) := by rw [cell_of_row _ _ _ _ _ _ hr0]; rfl
            have z4 : wr.frozen? ⟨w.heap.size, 4, none⟩ = false := by simp [World.frozen?, hr0]
            have a5 : wr.cell? ⟨w.heap.size, 5, none⟩ = some (.int .i64 0) := by rw [cell_of_row _ _ _ _ _ _ hr0]; rfl
            have z5 : wr.frozen? ⟨w.heap.size, 5, none⟩ = false := by simp [World.frozen?, hr0]
            have a6 : wr.cell? ⟨w.heap.size, 6, none⟩ = some (.int .i64 0) := by rw [cell_of_row _ _ _ _ _ _ hr0]; rfl
            have z6 : wr.frozen? ⟨w.heap.size, 6, none⟩ = false := by simp [World.frozen?, hr0]
            have a7 : wr.cell? ⟨w.heap.size, 7, none⟩ = some (.slice none 0 0) := by rw [cell_of_row _ _ _ _ _ _ hr0]; rfl
            have z7 : wr.frozen? ⟨w.heap.size, 7, none⟩ = false := by simp [World.frozen?, hr0]
            have HDN := Lib.hid (done_calls rb _ wr HI.out.1)
            obtain ⟨qe, hqe⟩ : ∃ q, (readPs k q2).2 = q := ⟨_, rfl⟩
            rw [hqe] at HDN HRC2
            clear hqe hc0 ho0 hr0
            by_cases hq : qe = some []
            · have hd : decide (qe = some []) = true := decide_eq_true hq
              rw [hd] at HDN
              have HN := Lib.hid (show readC s.data.toList = some ⟨xs.getD 0 0, xs.getD 1 0, xs.getD 2 0, xs.getD 3 0, xs.getD 4 0, xs.getD 5 0, xs.getD 6 0, (readPs k q2).1⟩ from by rw [HRC2.out, if_pos hq])
              clear hd hq
              have b0 : wr.cell? ⟨c0, 0, none⟩ = some (.int .i64 (xs.getD 0 0)) := by rw [cell_of_row _ _ _ _ _ _ HC0.out]; rfl
              have b1 : wr.cell? ⟨c0, 1, none⟩ = some (.int .i64 (xs.getD 1 0)) := by rw [cell_of_row _ _ _ _ _ _ HC0.out]; rfl
              have b2 : wr.cell? ⟨c0, 2, none⟩ = some (.int .i64 (xs.getD 2 0)) := by rw [cell_of_row _ _ _ _ _ _ HC0.out]; rfl
              have b3 : wr.cell? ⟨c0, 3, none⟩ = some (.int .i64 (xs.getD 3 0)) := by rw [cell_of_row _ _ _ _ _ _ HC0.out]; rfl
              have b4 : wr.cell? ⟨c0, 4, none⟩ = some (.int .i64 (xs.getD 4 0)) := by rw [cell_of_row _ _ _ _ _ _ HC0.out]; rfl
              have b5 : wr.cell? ⟨c0, 5, none⟩ = some (.int .i64 (xs.getD 5 0)) := by rw [cell_of_row _ _ _ _ _ _ HC0.out]; rfl
              have b6 : wr.cell? ⟨c0, 6, none⟩ = some (.int .i64 (xs.getD 6 0)) := by rw [cell_of_row _ _ _ _ _ _ HC0.out]; rfl
              have b7 : wr.cell? ⟨c0, 7, none⟩ = some (.slice A k cp) := by rw [cell_of_row _ _ _ _ _ _ HC0.out]; rfl
              go_wp2_with fail
              (with_reducible refine HDN.out.mono ?_)
              rintro e w8 ⟨rfl, rfl⟩
              go_wp2_with fail
              refine bodyPost_ret (cell_ret rfl rfl (set8_heap HR00.out rfl _ _ _ _ _ _ _ _) rfl) rfl ?_
              rw [HN.out]
              refine ⟨But.fresh HBE.out (Nat.le_refl _) HBE.out.size (set8_but _ _ _ _ _ _ _ _ _ _), _, rfl, ?_⟩
              have hlen := readPs_len k q2
              show World.ownsRow _ _ _ _ _ (readPs k q2).1.length _
              rw [hlen]
              refine own_base (own_same HO0.out fun i h1 h2 => (set8_but w8 w.heap.size _ _ _ _ _ _ _ _).block i h2 (fun e => ?_)) (by have := HW1B.out.size; omega)
              have := HR04.out.2
              have := HBW.out.size
              have := Option.some.inj e
              omega
            · have hd : decide (qe = some []) = false := decide_eq_false hq
              rw [hd] at HDN
              have HN := Lib.hid (show readC s.data.toList = none from by rw [HRC2.out, if_neg hq])
              clear hd hq
              go_wp2_with fail
              (with_reducible refine HDN.out.mono ?_)
              rintro e w8 ⟨rfl, rfl⟩
              go_wp2_with fail
              refine bodyPost_ret (cell_ret rfl rfl (set8_heap HR00.out rfl _ _ _ _ _ _ _ _) rfl) rfl ?_
              rw [HN.out]
              exact ⟨But.fresh HBE.out (Nat.le_refl _) HBE.out.size (set8_but _ _ _ _ _ _ _ _ _ _), rfl⟩
end Go.Proofs.YtkjajlolfcioiaaGreatDoor.Pack
