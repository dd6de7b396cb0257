/- slices.Sorted(maps.Keys(m)), of a set of small integers. -/
import Derived.Test.YtkjajlolfcioiaaGreatDoorYShelfI
import Derived.Test.YtkjajlolfcioiaaGreatDoorYGraphC
import Derived.WalkSpells
namespace Go.Proofs.YtkjajlolfcioiaaGreatDoor.Graph
open Go.RowKit Go.MapKept Go.Proofs Go.Proofs.YtkjajlolfcioiaaGreatDoor Go.Proofs.YtkjajlolfcioiaaGreatDoor.Own Go.Proofs.YtkjajlolfcioiaaGreatDoor.Tail Go.Proofs.YtkjajlolfcioiaaGreatDoor.Mp Go.Proofs.YtkjajlolfcioiaaGreatDoor.Ints Go.Proofs.YtkjajlolfcioiaaGreatDoor.Plan Go.Proofs.YtkjajlolfcioiaaGreatDoor.Check

def unitR (_ : Value) : Option (DataW Unit × List MemPlace) := some (.lit (.bool true), [])
theorem set_keys {X : World} {b n : Nat} {S : List Int} (h : IntSet X b S) (hS : ∀ k ∈ S, 0 ≤ k ∧ k < n) (hn : n ≤ 1000) :
    ∃ D0 : DataW Unit, X.ownsMap Tryz.prog 3 unitR b n D0 ∧ Maps.size D0 ≤ n ∧ (∀ k, k ∈ Go.intKeys D0 ↔ k ∈ S) ∧ (Go.intKeys D0).Nodup := by
  obtain ⟨es, clock, hb, hs, hks, h1, h2⟩ := h
  -- every key is a number of S
  have hint : ∀ x ∈ es.toList, ∃ k : Int, x.key = .int .i64 k ∧ k ∈ S := fun x hx => by
    have hk := hks x hx
    have hv := h1 x hx
    obtain ⟨key, val, born⟩ := x
    cases key <;> try exact hk.elim
    rename_i q k
    obtain rfl : q = .i64 := hk
    refine ⟨k, rfl, ?_⟩
    simp only [setF] at hv
    split at hv
    · assumption
    · cases hv
  have hread : ∀ x ∈ es.toList, ∀ k : Int, x.key = .int .i64 k → WideElems.rd Tryz.prog 3 unitR x = some (.int .i64 k, .lit (.bool true)) := fun x hx k hk => by
    obtain ⟨k', hk', hm⟩ := hint x hx
    obtain rfl : k = k' := by rw [hk] at hk'; simpa using hk'
    obtain ⟨key, val, born⟩ := x
    have hk2 : key = .int .i64 k := hk
    subst hk2
    have hw := hS k hm
    exact WideElems.rd_mk (R := unitR) (yv := (.lit (.bool true), [])) (Go.Maps.keyOf_int_mk (a := k) Tryz.underlying3 (WalkArith.wf_i64 (n := k) (by omega))) rfl
  let f : MapEntry → Int := fun x => match x.key with | .int _ k => k | _ => 0
  have hf : ∀ x ∈ es.toList, x.key = .int .i64 (f x) ∧ f x ∈ S := fun x hx => by
    obtain ⟨k, hk, hm⟩ := hint x hx
    have : f x = k := by show (match x.key with | .int _ k => k | _ => 0) = k; rw [hk]
    rw [this]
    exact ⟨hk, hm⟩
  have hnod : (es.toList.map f).Nodup := by
    have hp := ((stamped_iff _ _).1 hs).2.2
    rw [List.nodup_iff_pairwise_ne, List.pairwise_map]
    refine List.Pairwise.imp_of_mem (fun {x y} hx hy hne e => hne ?_) hp
    rw [(hf x hx).1, (hf y hy).1, e]
  have hlen : es.size ≤ n := by
    have := nodup_len n (es.toList.map f) hnod (fun x hx => by
      obtain ⟨y, hy, rfl⟩ := List.mem_map.1 hx
      exact hS _ (hf y hy).2)
    simpa using this
  have hperm : (Go.intKeys (DataW.map ((es.toList.map (WideElems.rg Tryz.prog 3 unitR)).foldr DataW.insert []))).Perm (es.toList.map f) := by
    show (((es.toList.map (WideElems.rg Tryz.prog 3 unitR)).foldr DataW.insert []).map fun p => Go.intOf p.1).Perm _
    refine ((WideShapes.sorted_perm _).map _).trans ?_
    rw [List.map_map]
    have : es.toList.map ((fun p : Lit × DataW Unit => Go.intOf p.1) ∘ WideElems.rg Tryz.prog 3 unitR) = es.toList.map f := by
      refine List.map_congr_left (fun x hx => ?_)
      have e := WideElems.rg_of (hread x hx (f x) (hf x hx).1)
      simp only [Function.comp_apply, e, Go.intOf]
    rw [this]
  refine ⟨_, ⟨es, clock, hb, ⟨by unfold maxLen; omega, hs, fun x hx => ⟨_, hread x hx _ (hf x hx).1⟩⟩, hlen, rfl⟩, ?_, ?_, ?_⟩
  · show ((es.toList.map (WideElems.rg Tryz.prog 3 unitR)).foldr DataW.insert []).length ≤ n
    rw [(WideShapes.sorted_perm _).length_eq]
    simpa using hlen
  · intro k
    rw [hperm.mem_iff, List.mem_map]
    constructor
    · rintro ⟨x, hx, rfl⟩
      exact (hf x hx).2
    · intro hk
      obtain ⟨x, hx, hxk⟩ := h2 (.int .i64 k) (.agg #[]) (by simp [setF, hk])
      refine ⟨x, hx, ?_⟩
      have := (hf x hx).1
      rw [hxk] at this
      simpa using this.symm
  · exact hperm.nodup_iff.2 hnod
theorem sortsI (m : Nat) : AnyZI.SortsIn Tryz.prog Tryz.sortedI_ren Fence.wide m :=
  ⟨fun blk off cap ss W hH hblk hsz => callsIn_wide.2 (AnyM.slices_Sort_int Tryz.sortI blk off cap ss W hH hblk hsz), fun p cap W => callsIn_wide.2 (AnyM.slices_Sort_int_none Tryz.sortI p cap W)⟩
/-- maps.Keys. -/
theorem keysI_calls (mb : Option Nat) (W : World) : Calls Tryz.prog 104 #[.map mb] W fun e w' => e = .returned (.func (.func 127) #[] #[.pointer (some ⟨W.heap.size, 0, none⟩)]) ∧ w' = W.alloc (.cells #[.map mb] 101) :=
  (callsIn_wide (n := 5)).1 (AnyZI.keys_in Tryz.keysI Fence.wide 5 trivial rfl mb W)
/-- L is the set S, rising. -/
structure SortedOf (L S : List Int) : Prop where
  rises : L.Pairwise (· < ·)
  mem : ∀ k, k ∈ L ↔ k ∈ S
theorem sortedI_calls (b n : Nat) (S : List Int) (w : World) (h : IntSet w b S) (hS : ∀ k ∈ S, 0 ≤ k ∧ k < n) (hn : n ≤ 1000) :
    Calls Tryz.prog 85 #[.func (.func 127) #[] #[.pointer (some ⟨w.heap.size, 0, none⟩)]] (w.alloc (.cells #[.map (some b)] 101)) fun e w' =>
      ∃ v L, e = .returned v ∧ SortedOf L S ∧ IntsAt w' v L ∧ Below w.heap.size w w' := by
  obtain ⟨D0, hown, hsz, hmem, hnd⟩ := set_keys h hS hn
  have hbl := hown.lt
  have hseq : SeqGives Fence.wide 2 Tryz.prog 127 #[.pointer (some ⟨w.heap.size, 0, none⟩)] Go.encZ (fun ss => ss.Perm (Go.intKeys D0)) (Maps.size D0) (w.alloc (.cells #[.map (some b)] 101)) :=
    AnyZI.keys_gives (ρ := Tryz.keysI_ren) { Tryz.keysI with } Fence.wide _ trivial rfl (by omega) w.heap.size b n D0 _ (by simp) (by simp) (by
      obtain ⟨es, clock, hb, Ft, hs, hD⟩ := hown
      exact ⟨es, clock, (Below.heap_alloc _ _ b hbl).trans hb, Ft, hs, hD⟩)
  have cS := AnyZI.sorted_in Tryz.sortedI Fence.wide 5 trivial trivial trivial trivial rfl (by omega) (sortsI _) (enters_of Tryz.func117 (by kernel_rfl) rfl) 127 #[.pointer (some ⟨w.heap.size, 0, none⟩)] trivial (enters_of Tryz.func127 (by kernel_rfl) rfl) _ _ (by unfold maxLen; omega) (by omega) _ hseq
  refine ((callsIn_wide (n := 5)).1 cS).mono ?_
  rintro e w' ⟨v, ss, rfl, hp, hrow, -, hb⟩
  refine ⟨v, ss.mergeSort (fun x y => decide (x ≤ y)), rfl, ⟨?_, fun k => by rw [(List.mergeSort_perm ss _).mem_iff, hp.mem_iff, hmem]⟩, ?_, go (box_below _ _) hb⟩
  · have h1 : (ss.mergeSort (fun x y => decide (x ≤ y))).Pairwise (fun x y => decide (x ≤ y) = true) := List.pairwise_mergeSort (fun a b c h1 h2 => by simp at *; omega) (fun a b => by simp; omega) ss
    have h2 : (ss.mergeSort (fun x y => decide (x ≤ y))).Nodup := (List.mergeSort_perm ss _).nodup_iff.2 (hp.nodup_iff.2 hnd)
    exact (h1.and h2).imp (fun {x y} ⟨q1, q2⟩ => by simp at q1; omega)
  · have hl : ss.length = (ss.mergeSort (fun x y => decide (x ≤ y))).length := by simp
    rw [hl] at hrow
    exact own_ints (base := _) hrow
end Go.Proofs.YtkjajlolfcioiaaGreatDoor.Graph
