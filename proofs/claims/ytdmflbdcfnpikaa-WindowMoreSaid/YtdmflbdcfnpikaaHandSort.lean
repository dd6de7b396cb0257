/- slices.SortFunc at spans, by their beginnings: a permutation that rises. -/
import Derived.Test.YtdmflbdcfnpikaaHandClo
import Derived.Test.YtdmflbdcfnpikaaShelf
namespace Go.Proofs.Ytdmflbdcfnpikaa.Hand
open Go.RowKit Go.Shelf Go.Lib Go.Sort Go.Proofs Go.Proofs.Ytdmflbdcfnpikaa Go.Proofs.Ytdmflbdcfnpikaa.Spans

theorem ltLo (x y : Sp) : ltOf (fun x y : Sp => Lib.compareInt x.1 y.1) x y = decide (x.1 < y.1) := by
  unfold ltOf Lib.compareInt
  by_cases h1 : x.1 < y.1
  · simp [h1]
  · by_cases h2 : y.1 < x.1 <;> simp [h1, h2]
theorem swoLo : SWO (ltOf fun x y : Sp => Lib.compareInt x.1 y.1) where
  irrefl x := by rw [ltLo]; simp
  trans x y z h1 h2 := by rw [ltLo] at *; simp at *; omega
  ntrans x y z h1 h2 := by rw [ltLo] at *; simp at *; omega

set_option maxHeartbeats 1000000 in
theorem clo25 (x y : Sp) (W : World) : Calls Try.prog 25 #[.agg #[.int .i64 x.1, .int .i64 x.2], .agg #[.int .i64 y.1, .int .i64 y.2]] W fun e w' => e = .returned (.int .i64 (Lib.compareInt x.1 y.1)) ∧ ∃ q os', w' = grow (W.drewN q) os' := by
  have hcon := fun W' => AnyG.cmp_Compare_int Try.cmpInt x.1 y.1 W'
  change ∀ W', Calls Try.prog 26 _ _ _ at hcon
  generalize Lib.compareInt x.1 y.1 = r at hcon ⊢
  go_enter Try.func25, Try.ntmps25
  go_wp2_with (go_at_call 26; refine (hcon _).mono ?_; rintro e w' ⟨rfl, rfl⟩)
  go_ret
  exact ⟨rfl, 0, _, by rw [alloc_eq_grow, alloc_eq_grow, grow_grow]; rfl⟩

theorem flat_get (d : List Sp) (j : Nat) (hj : j < d.length * 2) : (flatK enc 2 d.toArray)[j]! = (encs d)[j]! := by
  rw [get_flatK _ _ _ _ (by simpa using hj)]
  have h2 : j / 2 < d.length := by omega
  obtain ⟨h1, h3⟩ := encs_get d (j / 2) _ (List.getElem?_eq_getElem h2)
  have e : d.toArray[j / 2]! = d[j / 2] := by simp [getElem!_pos, h2]
  rw [e]
  rcases Nat.mod_two_eq_zero_or_one j with h | h
  · have hj2 : j = j / 2 * 2 := by omega
    rw [h]
    conv => rhs; rw [hj2]
    simp [enc, List.getElem!_eq_getElem?_getD, h1]
  · have hj2 : j = j / 2 * 2 + 1 := by omega
    rw [h]
    conv => rhs; rw [hj2]
    simp [enc, List.getElem!_eq_getElem?_getD, h3]
theorem flat_encs (d : List Sp) : flatK enc 2 d.toArray = (encs d).toArray := by
  apply Array.ext
  · simp [encs_length]
  · intro i h1 h2
    have := flat_get d i (by simpa using h1)
    rw [getElem!_pos (flatK enc 2 d.toArray) i h1, getElem!_pos (encs d) i (by simpa using h2)] at this
    simpa using this

theorem holds_of {w : World} {base g cap : Nat} {d : List Sp} (h : w.ownsRow base 34 2 (.slice (some ⟨g, 0, none⟩) d.length cap) d.length (encs d)) : HoldsK enc 2 w g 0 d.toArray := by
  unfold HoldsK
  rw [flat_encs]
  intro j hj
  simp only [List.size_toArray, encs_length] at hj
  rcases h.2 with ⟨e0, _⟩ | ⟨g', cap', cur, e0, _, hg, _⟩
  · cases e0
  · obtain ⟨rfl, rfl⟩ : g = g' ∧ cap = cap' := by simpa using e0
    have hlt : j < (encs d).length := by rw [encs_length]; exact hj
    have hc := World.ownsRow.cells h (g := g) rfl j (encs d)[j] (List.getElem?_eq_getElem hlt)
    rw [show (⟨g, 0, none⟩ : Addr).add j = ⟨g, 0 + j, none⟩ from by unfold Addr.add; split <;> simp_all] at hc
    refine ⟨by rw [hc]; simp [getElem!_pos, hlt], ?_⟩
    simp [World.frozen?, hg]

theorem grown_sorted {w : World} {g n : Nat} {os : Array Obj} (d : Array Value) : w.grownBy (grow (putRow id (Sort.ahead w n) g 0 d) os) (some g) := by
  refine ⟨rfl, rfl, rfl, by simp, fun k hk hne => ?_⟩
  rw [heap_grow_old _ _ (by simpa using hk)]
  have : g ≠ k := fun e => hne (by rw [e])
  simp [putRow, mapBlock, Sort.ahead, Array.getElem?_modify, this]

theorem owns_sorted {w : World} {base g cap n : Nat} {os : Array Obj} {d d' : List Sp} (hl : d'.length = d.length) (h : w.ownsRow base 34 2 (.slice (some ⟨g, 0, none⟩) d.length cap) d.length (encs d)) :
    (grow (putRow id (Sort.ahead w n) g 0 (encs d').toArray) os).ownsRow base 34 2 (.slice (some ⟨g, 0, none⟩) d.length cap) d.length (encs d') := by
  rcases h.2 with ⟨e0, _⟩ | ⟨g', cap', cur, e0, hb, hg, hn, hm, hs, ht⟩
  · cases e0
  · obtain ⟨rfl, rfl⟩ : g = g' ∧ cap = cap' := by simpa using e0
    have hgl : g < w.heap.size := (Array.getElem?_eq_some_iff.1 hg).1
    refine ⟨by rw [encs_length, hl], .inr ⟨g, cap, putCells id 0 (encs d').toArray cur, rfl, hb, ?_, hn, hm, by simpa [putCells] using hs, ?_⟩⟩
    · rw [heap_grow_old _ _ (by simpa using hgl)]
      simp [putRow, mapBlock, Sort.ahead, Array.getElem?_modify, hg, onCells]
    · apply List.ext_getElem?
      intro j
      have hlen : (encs d').length = d.length * 2 := by rw [encs_length, hl]
      by_cases hj : j < d.length * 2
      · have hjc : j < cur.size := by omega
        rw [List.getElem?_take_of_lt hj, Array.getElem?_toList]
        simp [putCells, hjc, hlen, hj]
      · rw [List.getElem?_take_eq_none (by omega), List.getElem?_eq_none (by omega)]

set_option maxHeartbeats 1000000 in
theorem SortFunc_calls (base g cap : Nat) (d : List Sp) (w : World) (hl : d.length ≤ 4096) (h : w.ownsRow base 34 2 (.slice (some ⟨g, 0, none⟩) d.length cap) d.length (encs d)) :
    Calls Try.prog 24 #[.slice (some ⟨g, 0, none⟩) d.length cap, .func (.func 25) #[] #[]] w fun e w' => e = .returned (.tuple #[]) ∧
      ∃ d' : List Sp, d'.Perm d ∧ d'.Pairwise (fun a b => a.1 ≤ b.1) ∧ w'.ownsRow base 34 2 (.slice (some ⟨g, 0, none⟩) d.length cap) d.length (encs d') ∧ w.grownBy w' (some g) := by
  have hgl : g < w.heap.size := (h.lt g rfl).2
  have eg : ∀ args w, (callFunc 25 args).run Try.prog w = .ok (.enter 25 args) w := enters_of Try.func25 (by kernel_rfl) rfl
  have hcon := AnyQ.slices_SortFunc Try.sortSpan 2 Try.isAgg34 Try.sizeOf34 enc (fun _ => rfl) (fun x v hv => by simp [enc] at hv; rcases hv with rfl | rfl <;> rfl) (fun x y => Lib.compareInt x.1 y.1) swoLo 25 #[] g 0 cap d.toArray w eg (fun _ _ _ _ x y => clo25 x y _) (holds_of h) hgl (by simp; omega)
  change Calls Try.prog 24 _ _ _ at hcon
  simp only [List.size_toArray] at hcon
  refine hcon.mono ?_
  rintro e w' ⟨rfl, da, n, os, hp, hs, rfl⟩
  obtain ⟨hsz, _, hperm⟩ := hp
  obtain ⟨d', rfl⟩ : ∃ d' : List Sp, da = d'.toArray := ⟨da.toList, by simp⟩
  have hlen : d'.length = d.length := by simpa using hsz
  refine ⟨rfl, d', ?_, ?_, ?_, ?_⟩
  · simpa [hlen, List.extract_eq_take_drop, List.take_of_length_le] using hperm
  · rw [List.pairwise_iff_getElem]
    intro i j hi hj hij
    have := hs i j (Nat.zero_le _) hij (by omega)
    rw [ltLo] at this
    simp only [List.getElem!_toArray, getElem!_pos d' i hi, getElem!_pos d' j hj, decide_eq_false_iff_not] at this
    omega
  · unfold sortWorldK putRowK
    rw [flat_encs]
    exact owns_sorted hlen h
  · unfold sortWorldK putRowK
    exact grown_sorted _
end Go.Proofs.Ytdmflbdcfnpikaa.Hand
