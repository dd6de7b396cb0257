/- graph.reach, Ahead, Behind, Source, walked. -/
import Derived.Test.YtkjajlolfcioiaaGreatDoorGraphD
import Derived.Laws.EntriesVeiled
import Derived.WalkSpells
namespace Go.Proofs.YtkjajlolfcioiaaGreatDoor.Graph
open Go.RowKit Go.Proofs.YtkjajlolfcioiaaGreatDoor Go.Proofs.YtkjajlolfcioiaaGreatDoor.Own Go.Proofs.YtkjajlolfcioiaaGreatDoor.Tail Go.Proofs.YtkjajlolfcioiaaGreatDoor.Mp Go.Proofs.YtkjajlolfcioiaaGreatDoor.Ints Go.Proofs.YtkjajlolfcioiaaGreatDoor.Scan Go.Proofs.YtkjajlolfcioiaaGreatDoor.Plan Go.Proofs.YtkjajlolfcioiaaGreatDoor.Expr Go.Proofs.YtkjajlolfcioiaaGreatDoor.Check Go.Lib

/-- what a reach comes to. -/
def ReachPost (P : Int → Prop) (w : World) (e : Ending) (w' : World) : Prop := ∃ v L, e = .returned v ∧ L.Pairwise (· < ·) ∧ (∀ k, k ∈ L ↔ P k) ∧ IntsAt w' v L ∧ Below w.heap.size w w'
theorem Seen.all {nx : Int → List Int} {n : Nat} {i : Int} {T : List Int} (h : Seen nx n i [] T) (hn : ∀ k ∈ nx i, k ∈ T) (k : Int) : k ∈ T ↔ Rch nx i k := by
  constructor
  · intro hk
    rcases h.sound k hk with h1 | h1
    · cases h1
    · exact h1
  · have step : ∀ j, j ∈ T → ∀ k ∈ nx j, k ∈ T := fun j hj => by
      rcases h.closed j hj with h1 | h1
      · cases h1
      · exact h1
    have all : ∀ a b, Rch nx a b → (∀ k ∈ nx a, k ∈ T) → b ∈ T := by
      intro a b hab
      induction hab with
      | one hk => intro h2; exact h2 _ hk
      | more hj _ ih => intro h2; exact ih (step _ (h2 _ hj))
    intro hk
    exact all i k hk hn
theorem four_below (w : World) (o p q r : Obj) : Below w.heap.size w ((((w.alloc o).alloc p).alloc q).alloc r) := balloc (three_below w o p q) r
set_option maxHeartbeats 4000000 in
set_option maxRecDepth 100000 in
theorem reach_calls (J : World → Prop) (n K : Nat) (caps : Array Value) (nx : Int → List Int) (i : Int) (w : World) (hN : NextFn J (w.heap.size + 1) n K caps nx) (hJ : ∀ X, Below w.heap.size w X → w.heap.size + 1 < X.heap.size → J X) (hi0 : 0 ≤ i) (hin : i < n) (hn : n ≤ 1000) :
    Calls Tryz.prog 59 #[.int .i64 i, .func (.func K) #[] caps] w (ReachPost (Rch nx i) w) := by
  have HN := Lib.hid hN
  have HJ := Lib.hid hJ
  have hmf : ∀ (fn : Fn) (first cap : Array Value) (w : World), (Instr.makeFunc fn first cap).run Tryz.prog w = .ok (.func fn first cap) w := fun _ _ _ _ => rfl
  have hmm := @run_makeMap Tryz.prog
  have hE2 : ∀ (args : Array Value) (X : World), (callFunc 103 args).run Tryz.prog X = .ok (.enter 103 args) X := enters_of Tryz.func103 (by kernel_rfl) rfl
  clear hN hJ
  go_enter Tryz.func59, Tryz.ntmps59
  go_wp2_with fail
  have hS := (((IntSet.made (w.alloc (.cells #[.func (.func K) #[] caps] 107))).below (box_below _ (.cells #[.map (some (w.heap.size + 1))] 101))).below (box_below _ (.cells #[.func (.func 103) #[] #[.pointer (some ⟨w.heap.size, 0, none⟩), .pointer (some ⟨w.heap.size + 1 + 1, 0, none⟩), .pointer (some ⟨w.heap.size + 1 + 1 + 1, 0, none⟩)]] 144)))
  rw [show (w.alloc (.cells #[.func (.func K) #[] caps] 107)).heap.size = w.heap.size + 1 by simp] at hS
  have hV : Vars ((((w.alloc (.cells #[.func (.func K) #[] caps] 107)).alloc (.map #[] 0)).alloc (.cells #[.map (some (w.heap.size + 1))] 101)).alloc (.cells #[.func (.func 103) #[] #[.pointer (some ⟨w.heap.size, 0, none⟩), .pointer (some ⟨w.heap.size + 1 + 1, 0, none⟩), .pointer (some ⟨w.heap.size + 1 + 1 + 1, 0, none⟩)]] 144)) (w.heap.size + 1) K caps w.heap.size (w.heap.size + 1 + 1) (w.heap.size + 1 + 1 + 1) := by
    refine ⟨?_, ?_, ?_, by omega, by omega, by omega⟩
    · rw [cell_of_row _ _ _ _ _ _ (heap_up (heap_up (heap_up (heap_new _ _))))]; rfl
    · rw [cell_of_row _ _ _ _ _ _ (heap_up (heap_at (by simp)))]; rfl
    · rw [cell_of_row _ _ _ _ _ _ (heap_at (by simp))]; rfl
  have HV := Lib.hid hV
  have HK := Lib.hid (HJ.out _ (four_below w (.cells #[.func (.func K) #[] caps] 107) (.map #[] 0) (.cells #[.map (some (w.heap.size + 1))] 101) (.cells #[.func (.func 103) #[] #[.pointer (some ⟨w.heap.size, 0, none⟩), .pointer (some ⟨w.heap.size + 1 + 1, 0, none⟩), .pointer (some ⟨w.heap.size + 1 + 1 + 1, 0, none⟩)]] 144)) (by simp))
  refine (walk_calls J (w.heap.size + 1) n K caps nx _ _ _ HN.out n [] i _ (by simp) List.nodup_nil (by simp) hi0 hin HK.out hV hS).mono ?_
  rintro e w5 ⟨rfl, hB5, T, hT, hSe, hUn⟩
  have v2 := (HV.out.but hB5).c2
  have HB5 := Lib.hid ((four_below w _ _ _ _).grown hB5 (four_below w _ _ _ _).size (fun _ e => by cases e; omega))
  have HALL := Lib.hid (hSe.all hUn)
  have HSI := Lib.hid (sortedI_calls (w.heap.size + 1) n T w5 hT hSe.range hn)
  clear hV hS hB5 hT hSe hUn HV
  go_wp2_with (first
    | (go_at_call 104; (with_reducible refine (keysI_calls _ _).mono ?_); rintro e w6 ⟨rfl, rfl⟩)
    | (go_at_call 85; go_must (refine HSI.out.mono ?_); rintro e w7 ⟨v, L, rfl, ⟨hL1, hL2⟩, hLI, hB7⟩; have HL2 := Lib.hid hL2; have HB7 := Lib.hid hB7; have HLI := Lib.hid hLI; have HL1 := Lib.hid hL1; clear hL2 hB7 hLI hL1))
  go_ret
  exact ⟨_, _, rfl, HL1.out, fun k => (HL2.out k).trans (HALL.out k), HLI.out, go HB5.out HB7.out⟩
end Go.Proofs.YtkjajlolfcioiaaGreatDoor.Graph
