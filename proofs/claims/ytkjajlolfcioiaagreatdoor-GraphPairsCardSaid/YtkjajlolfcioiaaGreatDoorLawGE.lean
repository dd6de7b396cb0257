/- the law's line of flows, walked. -/
import Derived.Test.YtkjajlolfcioiaaGreatDoorLawGD
import Derived.Test.YtkjajlolfcioiaaGreatDoorForce
import Derived.Deep.RegionHeld3
import Derived.Laws.IdiomStrings
import Derived.WalkSpells
namespace Go.Proofs.YtkjajlolfcioiaaGreatDoor.Graph
open Go.RowKit Go.Proofs.YtkjajlolfcioiaaGreatDoor Go.Proofs.YtkjajlolfcioiaaGreatDoor.Own Go.Proofs.YtkjajlolfcioiaaGreatDoor.Tail Go.Proofs.YtkjajlolfcioiaaGreatDoor.Mp Go.Proofs.YtkjajlolfcioiaaGreatDoor.Ints Go.Proofs.YtkjajlolfcioiaaGreatDoor.Scan Go.Proofs.YtkjajlolfcioiaaGreatDoor.Plan Go.Proofs.YtkjajlolfcioiaaGreatDoor.Expr Go.Proofs.YtkjajlolfcioiaaGreatDoor.Check Go.Lib

def bs (l : List UInt8) : ByteArray := ⟨l.toArray⟩
def lineTops : List Top := [⟨bs [97], 16⟩, ⟨bs [99], 16⟩, ⟨bs [100], 16⟩, ⟨bs [101], 16⟩]
/-- a flow of a line. -/
def lineFlw (k : Nat) (s : ByteArray) : Flw := ⟨bs [102, UInt8.ofNat (48 + k)], s.extract 0 1, s.extract 1 s.size, -1, 1, 1, [], 0, 0, 0, 0, []⟩
def lineFlv (k : Nat) (s : ByteArray) : FlwV := ⟨lineFlw k s, .slice none 0 0, .slice none 0 0⟩
theorem sliceOfFlow : SliceOf Tryz.prog 23 71 12 152 := sliceOf (z := .agg #[.string ⟨#[]⟩, .string ⟨#[]⟩, .string ⟨#[]⟩, .int .i64 0, .int .i64 0, .int .i64 0, .slice none 0 0, .int .i64 0, .int .i64 0, .int .i64 0, .int .i64 0, .slice none 0 0]) Tryz.underlying23 (by kernel_rfl) rfl (by decide)
def lineFl : Nat → List ByteArray → List FlwV
  | _, [] => []
  | k, s :: r => lineFlv k s :: lineFl (k + 1) r
theorem lineFl_snoc (s : ByteArray) : ∀ (L : List ByteArray) (j : Nat), lineFl j (L ++ [s]) = lineFl j L ++ [lineFlv (j + L.length) s]
  | [], j => rfl
  | x :: r, j => by
    rw [List.cons_append, lineFl, lineFl_snoc s r, lineFl]
    rw [show j + 1 + r.length = j + (x :: r).length by simp; omega]
    rfl
theorem lineFl_length : ∀ (L : List ByteArray) (j : Nat), (lineFl j L).length = L.length
  | [], _ => rfl
  | x :: r, j => by rw [lineFl, List.length_cons, lineFl_length r, List.length_cons]
theorem lineFl_mem {x : FlwV} : ∀ {L : List ByteArray} {j : Nat}, x ∈ lineFl j L → ∃ k s, x = lineFlv k s
  | [], _, h => by cases h
  | s :: r, j, h => by
    rcases List.mem_cons.1 h with rfl | h
    · exact ⟨_, _, rfl⟩
    · exact lineFl_mem h
theorem sliceAt_own {base E size n : Nat} {v : Value} {xs : List Value} {w : World} (h : w.ownsRow base E size v n xs) : SliceAt w v n xs := by
  rcases h.2 with ⟨rfl, rfl⟩ | ⟨g, cap, cur, rfl, hb, hh, hle, hmax, hsz, htake⟩
  · exact ⟨none, 0, rfl, by omega, fun h => by omega⟩
  · refine ⟨some ⟨g, 0, none⟩, cap, rfl, hle, fun _ => ⟨g, 0, rfl, fun j u hj => ?_⟩⟩
    have := RowAt.of_heap hh j u (by
      rw [← htake, List.getElem?_take] at hj
      split at hj
      · exact hj
      · cases hj)
    rw [Own.add_plain] at this
    rwa [Nat.zero_add]
def topBlock : Obj := .cells #[.string ⟨#[97]⟩, .int .i64 16, .string ⟨#[99]⟩, .int .i64 16, .string ⟨#[100]⟩, .int .i64 16, .string ⟨#[101]⟩, .int .i64 16] 66
def LinePost (L : List ByteArray) (w : World) (e : Ending) (w' : World) : Prop := ∃ tv fv, e = .returned (.agg #[tv, fv]) ∧ PlanAt w' tv fv lineTops (lineFl 0 L) ∧ Below w.heap.size w w'
set_option maxHeartbeats 8000000 in
set_option maxRecDepth 100000 in
theorem line_calls (L : List ByteArray) (b c : Nat) (w : World) (hl : L.length ≤ 3) (h2 : ∀ s ∈ L, s.size = 2) (hL : CellsAt w b 0 (L.map Value.string)) (hb : L ≠ [] → b < w.heap.size) :
    Calls Tryz.prog 57 #[.slice (some ⟨b, 0, none⟩) L.length c] w (LinePost L w) := by
  have HL := Lib.hid hL
  have H2 := Lib.hid h2
  have HBB := Lib.hid hb
  clear hL h2 hb
  go_enter Tryz.func57, Tryz.ntmps57
  go_wp2
  have q0 : (((w.alloc (.cells #[.slice none 0 0, .slice none 0 0] 25)).alloc topBlock).alloc (.cells #[.slice (some ⟨w.heap.size + 1, 0, none⟩) 4 4, .slice none 0 0] 25)).heap[w.heap.size]? = some (.cells #[.slice none 0 0, .slice none 0 0] 25) := heap_up (heap_up (heap_new _ _))
  have q1 : (((w.alloc (.cells #[.slice none 0 0, .slice none 0 0] 25)).alloc topBlock).alloc (.cells #[.slice (some ⟨w.heap.size + 1, 0, none⟩) 4 4, .slice none 0 0] 25)).heap[w.heap.size + 1]? = some topBlock := heap_up (heap_at (by simp))
  have q2 : (((w.alloc (.cells #[.slice none 0 0, .slice none 0 0] 25)).alloc topBlock).alloc (.cells #[.slice (some ⟨w.heap.size + 1, 0, none⟩) 4 4, .slice none 0 0] 25)).heap[w.heap.size + 1 + 1]? = some (.cells #[.slice (some ⟨w.heap.size + 1, 0, none⟩) 4 4, .slice none 0 0] 25) := heap_at (by simp)
  have Q0 := Lib.hid q0
  have Q1 := Lib.hid q1
  have Q2 := Lib.hid q2
  clear q0 q1 q2
  go_loopw [4] (fun iv wr => ∃ (k : Nat) (A : Option Addr) (cp : Nat), k ≤ L.length ∧ iv = .int .i64 (k : Int) ∧ wr.ownsRow (w.heap.size + 1 + 1 + 1) 71 12 (.slice A k cp) k ((lineFl 0 (L.take k)).flatMap flwvCells) ∧ wr.heap[w.heap.size]? = some (.cells #[.slice none 0 0, .slice none 0 0] 25) ∧ wr.heap[w.heap.size + 1]? = some topBlock ∧ wr.heap[w.heap.size + 1 + 1]? = some (.cells #[.slice (some ⟨w.heap.size + 1, 0, none⟩) 4 4, .slice A k cp] 25) ∧ Below w.heap.size w wr) (fun iv _ => L.length - (RowKit.intOf iv).toNat)
  case atStart => exact ⟨0, none, 0, Nat.zero_le _, rfl, own_nil _ _ _ _, Q0.out, Q1.out, Q2.out, three_below _ _ _ _⟩
  case round =>
    clear Q0 Q1 Q2
    obtain ⟨k, A, cp, hk, rfl, hown, h0, h1, hp, hB⟩ := hrel
    have p0 : wr.cell? ⟨w.heap.size + 1 + 1, 0, none⟩ = some (.slice (some ⟨w.heap.size + 1, 0, none⟩) 4 4) := by rw [cell_of_row _ _ _ _ _ _ hp]; rfl
    have p1 : wr.cell? ⟨w.heap.size + 1 + 1, 1, none⟩ = some (.slice A k cp) := by rw [cell_of_row _ _ _ _ _ _ hp]; rfl
    have f1 : wr.frozen? ⟨w.heap.size + 1 + 1, 1, none⟩ = false := by simp only [World.frozen?, hp]; rfl
    have hsz : w.heap.size + 1 + 1 < wr.heap.size := by
      rcases Nat.lt_or_ge (w.heap.size + 1 + 1) wr.heap.size with h | h
      · exact h
      · rw [Array.getElem?_eq_none h] at hp; cases hp
    have HOWN := Lib.hid hown
    have HP0 := Lib.hid h0
    have HP1 := Lib.hid h1
    have HPP := Lib.hid hp
    clear hown h0 h1 hp
    by_cases hlt : k < L.length
    · have hlt' : (k : Int) < L.length := by omega
      obtain ⟨s, hs⟩ : ∃ s, L[k]? = some s := ⟨_, List.getElem?_eq_getElem hlt⟩
      have hs2 := H2.out s (List.mem_of_getElem? hs)
      have s0 : wr.cell? ⟨b, k, none⟩ = some (.string s) := by
        have := HL.out k (.string s) (by rw [List.getElem?_map, hs]; rfl)
        rw [Nat.zero_add] at this
        exact kb hB (HBB.out (by intro e; rw [e] at hlt; simp at hlt)) this
      have hbl : b < w.heap.size := HBB.out (by intro e; rw [e] at hlt; simp at hlt)
      have HSS := Lib.hid hs
      have hs1 : (1 : Int) ≤ s.size := by omega
      have hs0 : (0 : Int) ≤ s.size := by omega
      have hk0 : (0 : Int) ≤ k := by omega
      have hwr : IntKind.i64.wrap (48 + (k : Int)) = 48 + k := IntWalk.i64_in _ (by omega)
      have hw8 : IntKind.u8.wrap (48 + (k : Int)) = 48 + k := by simp [IntKind.wrap, IntKind.bits, IntKind.signed]; omega
      have hb8 : ((UInt8.ofNat (48 + k)).toNat : Int) = 48 + k := by
        have : (UInt8.ofNat (48 + k)).toNat = 48 + k := by simp; omega
        rw [this]; omega
      have hcv : (convert 145 9 (.slice (some ⟨wr.heap.size, 0, none⟩) 1 1)).run Tryz.prog (wr.alloc (.cells #[.int .u8 (48 + (k : Int))] 5)).drew = .ok (.string ⟨#[UInt8.ofNat (48 + k)]⟩) (wr.alloc (.cells #[.int .u8 (48 + (k : Int))] 5)).drew := by
        refine run_convert_bytes_back _ 145 9 5 ⟨wr.heap.size, 0, none⟩ 1 [UInt8.ofNat (48 + k)] Tryz.underlying145 Tryz.underlying5 Tryz.underlying9 (fun j hj => ?_)
        obtain rfl : j = 0 := by simpa using hj
        rw [Own.add_plain]
        exact kc (Below.refl _ _).drew (cell_new rfl (by rw [← hb8]; rfl))
      have HBW := Lib.hid hB
      clear hs hB hb8
      go_wp2
      refine wp_region_forced 22 (by kernel_rfl) (by kernel_rfl) ?_
      simp only [List.take_succ_cons, List.take_zero, List.drop_succ_cons, List.drop_zero, List.size_toArray, List.length_cons, List.length_nil, Nat.zero_add, Nat.reduceAdd]
      refine wpAny_of_held (S := fun w' => w'.cell? ⟨w.heap.size + 1 + 1, 1, none⟩ = some (.slice A k cp) ∧ w'.cell? ⟨b, k, none⟩ = some (.string s)) _ _ _ _ ?_
      have hS0 : (fun w' : World => w'.cell? ⟨w.heap.size + 1 + 1, 1, none⟩ = some (.slice A k cp) ∧ w'.cell? ⟨b, k, none⟩ = some (.string s)) wr.drew := ⟨p1, s0⟩
      refine wpAnyH_take (i := 0) (v := ?_) rfl (by kernel_rfl) (by kernel_rfl) (by kernel_rfl) (fun _ _ _ h => h) (Or.inl ⟨by rfl, ?_⟩) hS0 ?_
      rotate_left
      · intro w hSw; (try dsimp only at hSw); go_simp; (first | done | with_reducible rfl)
      simp only [Act.put, List.setIfInBounds_toArray, List.set_cons_zero, List.set_cons_succ]
      refine wpAnyH_take (i := 1) (v := ?_) rfl (by kernel_rfl) (by kernel_rfl) (by kernel_rfl) (fun _ _ _ h => h) (Or.inl ⟨by rfl, ?_⟩) hS0 ?_
      rotate_left
      · intro w hSw; (try dsimp only at hSw); go_simp; (first | done | with_reducible rfl)
      simp only [Act.put, List.setIfInBounds_toArray, List.set_cons_zero, List.set_cons_succ]
      refine wpAnyH_take (i := 2) (v := ?_) rfl (by kernel_rfl) (by kernel_rfl) (by kernel_rfl) (fun _ _ _ h => h) (Or.inl ⟨by rfl, ?_⟩) hS0 ?_
      rotate_left
      · intro w hSw; (try dsimp only at hSw); go_simp; (first | done | with_reducible rfl)
      simp only [Act.put, List.setIfInBounds_toArray, List.set_cons_zero, List.set_cons_succ]
      refine wpAnyH_take (i := 3) (v := ?_) rfl (by kernel_rfl) (by kernel_rfl) (by kernel_rfl) (fun _ _ _ h => h) (Or.inl ⟨by rfl, ?_⟩) hS0 ?_
      rotate_left
      · intro w hSw; (try dsimp only at hSw); go_simp; (first | done | with_reducible rfl)
      simp only [Act.put, List.setIfInBounds_toArray, List.set_cons_zero, List.set_cons_succ]
      refine wpAnyH_take (i := 4) (v := ?_) rfl (by kernel_rfl) (by kernel_rfl) (by kernel_rfl) (fun _ _ _ h => h) (Or.inl ⟨by rfl, ?_⟩) hS0 ?_
      rotate_left
      · intro w hSw; (try dsimp only at hSw); go_simp; (first | done | with_reducible rfl)
      simp only [Act.put, List.setIfInBounds_toArray, List.set_cons_zero, List.set_cons_succ]
      refine wpAnyH_take (i := 8) (v := ?_) rfl (by kernel_rfl) (by kernel_rfl) (by kernel_rfl) (fun _ _ _ h => h) (Or.inl ⟨by rfl, ?_⟩) hS0 ?_
      rotate_left
      · intro w hSw; (try dsimp only at hSw); go_simp; (first | done | with_reducible rfl)
      simp only [Act.put, List.setIfInBounds_toArray, List.set_cons_zero, List.set_cons_succ]
      refine wpAnyH_take (i := 9) (v := ?_) rfl (by kernel_rfl) (by kernel_rfl) (by kernel_rfl) (fun _ _ _ h => h) (Or.inl ⟨by rfl, ?_⟩) hS0 ?_
      rotate_left
      · intro w hSw; (try dsimp only at hSw); go_simp; (first | done | with_reducible rfl)
      simp only [Act.put, List.setIfInBounds_toArray, List.set_cons_zero, List.set_cons_succ]
      refine wpAnyH_take (i := 10) (v := ?_) rfl (by kernel_rfl) (by kernel_rfl) (by kernel_rfl) (fun _ _ _ h => h) (Or.inl ⟨by rfl, ?_⟩) hS0 ?_
      rotate_left
      · intro w hSw; (try dsimp only at hSw); go_simp; (first | done | with_reducible rfl)
      simp only [Act.put, List.setIfInBounds_toArray, List.set_cons_zero, List.set_cons_succ]
      refine wpAnyH_take (i := 11) (v := ?_) rfl (by kernel_rfl) (by kernel_rfl) (by kernel_rfl) (fun _ _ _ h => h) (Or.inl ⟨by rfl, ?_⟩) hS0 ?_
      rotate_left
      · intro w hSw; (try dsimp only at hSw); go_simp; (first | done | with_reducible rfl)
      simp only [Act.put, List.setIfInBounds_toArray, List.set_cons_zero, List.set_cons_succ]
      refine wpAnyH_take (i := 12) (v := ?_) rfl (by kernel_rfl) (by kernel_rfl) (by kernel_rfl) (fun _ _ _ h => h) (Or.inl ⟨by rfl, ?_⟩) hS0 ?_
      rotate_left
      · intro w hSw; (try dsimp only at hSw); go_simp; (first | done | with_reducible rfl)
      simp only [Act.put, List.setIfInBounds_toArray, List.set_cons_zero, List.set_cons_succ]
      refine wpAnyH_take (i := 13) (v := ?_) rfl (by kernel_rfl) (by kernel_rfl) (by kernel_rfl) (fun _ _ _ h => h) (Or.inl ⟨by rfl, ?_⟩) hS0 ?_
      rotate_left
      · intro w hSw; (try dsimp only at hSw); go_simp; (first | done | with_reducible rfl)
      simp only [Act.put, List.setIfInBounds_toArray, List.set_cons_zero, List.set_cons_succ]
      refine wpAnyH_take (i := 14) (v := ?_) rfl (by kernel_rfl) (by kernel_rfl) (by kernel_rfl) (fun _ _ _ h => h) (Or.inl ⟨by rfl, ?_⟩) hS0 ?_
      rotate_left
      · intro w hSw; (try dsimp only at hSw); go_simp; (first | done | with_reducible rfl)
      simp only [Act.put, List.setIfInBounds_toArray, List.set_cons_zero, List.set_cons_succ]
      refine wpAnyH_take (i := 15) (v := ?_) rfl (by kernel_rfl) (by kernel_rfl) (by kernel_rfl) (fun _ _ _ h => h) (Or.inl ⟨by rfl, ?_⟩) hS0 ?_
      rotate_left
      · intro w hSw; (try dsimp only at hSw); go_simp; (first | done | with_reducible rfl)
      simp only [Act.put, List.setIfInBounds_toArray, List.set_cons_zero, List.set_cons_succ]
      refine wpAnyH_take (i := 16) (v := ?_) rfl (by kernel_rfl) (by kernel_rfl) (by kernel_rfl) (fun _ _ _ h => h) (Or.inl ⟨by rfl, ?_⟩) hS0 ?_
      rotate_left
      · intro w hSw; (try dsimp only at hSw); go_simp; (first | done | with_reducible rfl)
      simp only [Act.put, List.setIfInBounds_toArray, List.set_cons_zero, List.set_cons_succ]
      refine wpAnyH_take (i := 17) (v := ?_) rfl (by kernel_rfl) (by kernel_rfl) (by kernel_rfl) (fun _ _ _ h => h) (Or.inl ⟨by rfl, ?_⟩) hS0 ?_
      rotate_left
      · intro w hSw; (try dsimp only at hSw); go_simp; (first | done | with_reducible rfl)
      simp only [Act.put, List.setIfInBounds_toArray, List.set_cons_zero, List.set_cons_succ]
      refine wpAnyH_ready (rs := [5]) (by kernel_rfl) (by simp) ?_
      refine AllReadyH.cons rfl (fun K hK => ?_) AllReadyH.nil
      go_simp
      refine hK.out _ _ ⟨kc (box_below _ _).drew p1, kc (box_below _ _).drew s0⟩ (fun hS1 => ?_)
      clear hK K
      try simp only [Act.put, List.setIfInBounds_toArray, List.set_cons_zero, List.set_cons_succ]
      refine wpAnyH_ready (rs := [6]) (by kernel_rfl) (by simp) ?_
      refine AllReadyH.cons rfl (fun K hK => ?_) AllReadyH.nil
      go_simp
      refine hK.out _ _ ⟨kc (box_below _ _).drew p1, kc (box_below _ _).drew s0⟩ (fun hS2 => ?_)
      clear hK K
      try simp only [Act.put, List.setIfInBounds_toArray, List.set_cons_zero, List.set_cons_succ]
      refine wpAnyH_take (i := 7) (v := ?_) rfl (by kernel_rfl) (by kernel_rfl) (by kernel_rfl) (fun _ _ _ h => h) (Or.inl ⟨by rfl, ?_⟩) hS2 ?_
      rotate_left
      · intro w hSw; (try dsimp only at hSw); go_simp; (first | done | with_reducible rfl)
      simp only [Act.put, List.setIfInBounds_toArray, List.set_cons_zero, List.set_cons_succ]
      refine wpAnyH_take (i := 18) (v := ?_) rfl (by kernel_rfl) (by kernel_rfl) (by kernel_rfl) (fun _ _ _ h => h) (Or.inl ⟨by rfl, ?_⟩) hS2 ?_
      rotate_left
      · intro w hSw; (try dsimp only at hSw); go_simp; (first | done | with_reducible rfl)
      simp only [Act.put, List.setIfInBounds_toArray, List.set_cons_zero, List.set_cons_succ]
      refine wpAnyH_ready (rs := [19]) (by kernel_rfl) (by simp) ?_
      refine AllReadyH.cons rfl (fun K hK => ?_) AllReadyH.nil
      go_simp
      refine hK.out _ _ ⟨kc (balloc (box_below _ _) _).drew p1, kc (balloc (box_below _ _) _).drew s0⟩ (fun hS3 => ?_)
      clear hK K
      try simp only [Act.put, List.setIfInBounds_toArray, List.set_cons_zero, List.set_cons_succ]
      refine wpAnyH_ready (rs := [20]) (by kernel_rfl) (by simp) ?_
      refine AllReadyH.cons rfl (fun K hK => ?_) AllReadyH.nil
      refine Own.step_app (o := ⟨some 37, _, _, _, _, _⟩) sliceOfFlow (by rfl) (.tmp 18) (.tmp 36) (by rfl) (base := w.heap.size + 1 + 1 + 1) (by rfl) (own_kept HOWN.out (balloc (box_below _ _) _).drew) (by rfl) (Own.Src.at (T := 71) (by (repeat (first | (with_reducible exact Own.heap_at (by simp; done)) | (with_reducible refine Own.heap_drew ?_) | (with_reducible refine Own.heap_up ?_))); done) 12 1 1 (by simp) (by simp [Value.oneCell'])) (by unfold maxLen; omega) (by omega) (by simp; omega) ?_
      intro v7 w7 ho7 hB7 hg7
      obtain ⟨A7, d7, rfl, -, -, -, -⟩ := own_form ho7
      refine hK.out _ _ ⟨kb hB7 (by simp) (kc (balloc (box_below _ _) _).drew p1), kb hB7 (by simp; omega) (kc (balloc (box_below _ _) _).drew s0)⟩ (fun hS4 => ?_)
      clear hK K
      try simp only [Act.put, List.setIfInBounds_toArray, List.set_cons_zero, List.set_cons_succ]
      refine wpAnyH_take (i := 21) (v := ?_) rfl (by kernel_rfl) (by kernel_rfl) (by kernel_rfl) (fun _ _ _ h => h) (Or.inl ⟨by rfl, ?_⟩) hS4 ?_
      rotate_left
      · intro w hSw; (try dsimp only at hSw); go_simp; (first | done | with_reducible rfl)
      simp only [Act.put, List.setIfInBounds_toArray, List.set_cons_zero, List.set_cons_succ]
      refine wpAnyH_done (by kernel_rfl) ?_ _
      have c7 := hS4.1
      have f7 : w7.frozen? ⟨w.heap.size + 1 + 1, 1, none⟩ = false := (hB7.frozen (by simp)).trans (kf (balloc (box_below _ _) _).drew p1 f1)
      show wpList _ _ _ _ _ _
      go_wp2
      have hle : Below wr.heap.size wr _ := (balloc (box_below wr (.cells #[.int .u8 (48 + (k : Int))] 5)) (.cells #[.string (⟨#[102]⟩ ++ ⟨#[48 + UInt8.ofNat k]⟩), .string (s.extract 0 1), .string (s.extract 1 2), .int .i64 (-1), .int .i64 1, .int .i64 1, .slice none 0 0, .int .i64 0, .int .i64 0, .int .i64 0, .int .i64 0, .slice none 0 0] 71)).drew
      have hB8 : Below (w.heap.size + 1 + 1 + 1) wr w7 := (hle.mono (by omega)).trans hB7
      have hrow : ∀ i o, i < w.heap.size + 1 + 1 + 1 → wr.heap[i]? = some o → w7.heap[i]? = some o := fun i o hi h => (hB8.block i hi).trans h
      have hB9 : Below w.heap.size w w7 := HBW.out.trans (hB8.mono (by omega))
      have hnm : (lineFl 0 (L.take (k + 1))).flatMap flwvCells = (lineFl 0 (L.take k)).flatMap flwvCells ++ [.string (⟨#[102]⟩ ++ ⟨#[48 + UInt8.ofNat k]⟩), .string (s.extract 0 1), .string (s.extract 1 2), .int .i64 (-1), .int .i64 1, .int .i64 1, .slice none 0 0, .int .i64 0, .int .i64 0, .int .i64 0, .int .i64 0, .slice none 0 0] := by
        rw [List.take_add_one, HSS.out, Option.toList_some, lineFl_snoc, List.flatMap_append, List.length_take, Nat.zero_add, Nat.min_eq_left (by omega)]
        have hn : (⟨#[102]⟩ : ByteArray) ++ ⟨#[48 + UInt8.ofNat k]⟩ = bs [102, UInt8.ofNat (48 + k)] := by
          rcases (show k = 0 ∨ k = 1 ∨ k = 2 by omega) with rfl | rfl | rfl <;> rfl
        rw [hn]
        simp [lineFlv, lineFlw, flwvCells, flwCells, hs2]
      refine ⟨⟨k + 1, A7, d7, by omega, by rfl, ?_, ?_, ?_, ?_, ?_⟩, by simp [RowKit.intOf]; omega⟩
      · rw [hnm]; exact ownsRow_setCell_below ho7 (by simp) _
      · rw [Below.heap_setCell _ _ _ _ (by simp; omega)]; exact hrow _ _ (by omega) HP0.out
      · rw [Below.heap_setCell _ _ _ _ (by simp)]; exact hrow _ _ (by omega) HP1.out
      · have := hrow _ _ (by omega) HPP.out
        simp [World.setCell, Array.getElem?_modify, this]
      · exact ⟨hB9.os, hB9.tape, hB9.output, by simpa [World.setCell] using hB9.size, fun i hi => (Below.heap_setCell _ _ _ _ (by simp; omega)).trans (hB9.block i hi)⟩
    · obtain rfl : k = L.length := by omega
      have hlt' : decide (((L.length : Nat) : Int) < L.length) = false := by simp
      have c0 : wr.cell? ⟨w.heap.size, 0, none⟩ = some (.slice none 0 0) := by rw [cell_of_row _ _ _ _ _ _ HP0.out]; rfl
      have c1 : wr.cell? ⟨w.heap.size, 1, none⟩ = some (.slice none 0 0) := by rw [cell_of_row _ _ _ _ _ _ HP0.out]; rfl
      have g0 : wr.frozen? ⟨w.heap.size, 0, none⟩ = false := by simp only [World.frozen?, HP0.out]; rfl
      have g1 : wr.frozen? ⟨w.heap.size, 1, none⟩ = false := by simp only [World.frozen?, HP0.out]; rfl
      go_wp2
      have e0 : ((wr.setCell ⟨w.heap.size, 0, none⟩ (.slice (some ⟨w.heap.size + 1, 0, none⟩) 4 4)).setCell ⟨w.heap.size, 1, none⟩ (.slice A L.length cp)).cell? ⟨w.heap.size, 0, none⟩ = some (.slice (some ⟨w.heap.size + 1, 0, none⟩) 4 4) :=
        (World.cell?_setCell_other _ _ _ _ (by simp)).trans (World.cell?_setCell_same _ _ _ c0)
      have e1 : ((wr.setCell ⟨w.heap.size, 0, none⟩ (.slice (some ⟨w.heap.size + 1, 0, none⟩) 4 4)).setCell ⟨w.heap.size, 1, none⟩ (.slice A L.length cp)).cell? ⟨w.heap.size, 1, none⟩ = some (.slice A L.length cp) :=
        World.cell?_setCell_same _ _ _ ((World.cell?_setCell_other _ _ _ _ (by simp)).trans c1)
      have hBe : Below w.heap.size w ((wr.setCell ⟨w.heap.size, 0, none⟩ (.slice (some ⟨w.heap.size + 1, 0, none⟩) 4 4)).setCell ⟨w.heap.size, 1, none⟩ (.slice A L.length cp)) := by
        refine ⟨hB.os, hB.tape, hB.output, by simpa [World.setCell] using hB.size, fun i hi => ?_⟩
        rw [Below.heap_setCell _ _ _ _ (by simp; omega), Below.heap_setCell _ _ _ _ (by simp; omega)]
        exact hB.block i hi
      have hoE : ((wr.setCell ⟨w.heap.size, 0, none⟩ (.slice (some ⟨w.heap.size + 1, 0, none⟩) 4 4)).setCell ⟨w.heap.size, 1, none⟩ (.slice A L.length cp)).ownsRow (w.heap.size + 1 + 1 + 1) 71 12 (.slice A L.length cp) L.length ((lineFl 0 L).flatMap flwvCells) := by
        have := HOWN.out
        rw [List.take_length] at this
        exact ownsRow_setCell_below (ownsRow_setCell_below this (by simp; omega) _) (by simp; omega) _
      have hr1 : ((wr.setCell ⟨w.heap.size, 0, none⟩ (.slice (some ⟨w.heap.size + 1, 0, none⟩) 4 4)).setCell ⟨w.heap.size, 1, none⟩ (.slice A L.length cp)).heap[w.heap.size + 1]? = some topBlock := by
        rw [Below.heap_setCell _ _ _ _ (by simp), Below.heap_setCell _ _ _ _ (by simp)]; exact HP1.out
      generalize (wr.setCell ⟨w.heap.size, 0, none⟩ (.slice (some ⟨w.heap.size + 1, 0, none⟩) 4 4)).setCell ⟨w.heap.size, 1, none⟩ (.slice A L.length cp) = W at *
      refine bodyPost_ret (v := .agg #[.slice (some ⟨w.heap.size + 1, 0, none⟩) 4 4, .slice A L.length cp]) ?_ rfl ?_
      · simp [results, Tryz.f57]
        go_simp
      · refine ⟨_, _, rfl, ⟨?_, ?_, ?_, ?_⟩, hBe⟩
        · refine ⟨_, _, rfl, by decide, fun _ => ⟨_, 0, rfl, fun j u hj => ?_⟩⟩
          have := RowAt.of_heap hr1 j u hj
          rw [Own.add_plain] at this
          rwa [Nat.zero_add]
        · rw [lineFl_length]; exact sliceAt_own hoE
        · intro x hx
          obtain ⟨k, s, rfl⟩ := lineFl_mem hx
          exact ⟨none, 0, rfl, Nat.le_refl _, fun h => by simp [lineFlv, lineFlw] at h⟩
        · intro x hx
          obtain ⟨k, s, rfl⟩ := lineFl_mem hx
          exact ⟨none, 0, rfl, Nat.le_refl _, fun h => by simp [lineFlv, lineFlw] at h⟩
end Go.Proofs.YtkjajlolfcioiaaGreatDoor.Graph
