/- layer 9's small functions, walked. -/
import Derived.Test.YtdmflbdcfnpikaaHandMerge
import Derived.Test.YtdmflbdcfnpikaaShelfR
namespace Go.Proofs.Ytdmflbdcfnpikaa.Hand
open Go.RowKit Go.Proofs.Ytdmflbdcfnpikaa Go.Proofs.Ytdmflbdcfnpikaa.Spans Go.Proofs.YtdmflbdcfnpikaaW Go.Proofs.YtdmflbdcfnpikaaW.PrintWords Go.Lib Go.Sort Go.Shelf

abbrev win (k s l : Int) : Value := .agg #[.int .i64 k, .int .i64 s, .int .i64 l]
/-- windows that may be. -/
def Righted (k s l : Int) : Prop := (k = 0 ∧ s = 0 ∧ l = 0) ∨ ((k = 1 ∨ k = 3) ∧ 1 ≤ s ∧ s ≤ 1000000 ∧ l = 0) ∨ (k = 2 ∧ 1 ≤ s ∧ s ≤ 1000000 ∧ 1 ≤ l ∧ l ≤ s ∧ s ≤ 16 * l)
instance (k s l : Int) : Decidable (Righted k s l) := by unfold Righted; infer_instance

theorem Due_calls (x : Sp) (m : Int) (w : World) : Calls Try.prog 13 #[.agg #[.int .i64 x.1, .int .i64 x.2], .int .i64 m] w fun e w' => e = .returned (.bool (decide (x.2 ≤ m ∨ m = 1000000001))) ∧ Below w.heap.size w w' := by
  by_cases h1 : x.2 ≤ m
  · go_enter Try.func13, Try.ntmps13
    go_wp2
    go_ret
    exact ⟨ret_bool (decide_eq_true (.inl h1)).symm, (Below.refl _ _).alloc (Nat.le_refl _) _⟩
  · go_enter Try.func13, Try.ntmps13
    go_wp2
    go_ret
    exact ⟨ret_bool (by rw [Bool.eq_iff_iff, beq_iff_eq, Bool.or_eq_true, decide_eq_true_eq, decide_eq_true_eq]; omega), (Below.refl _ _).alloc (Nat.le_refl _) _⟩

theorem yes_of {p : Prop} [Decidable p] (h : p) : true = decide p := (decide_eq_true h).symm
theorem no_of {p : Prop} [Decidable p] (h : ¬ p) : false = decide p := (decide_eq_false h).symm

set_option maxHeartbeats 2000000 in
theorem Right_calls (k s l : Int) (w : World) : Calls Try.prog 10 #[win k s l] w fun e w' => e = .returned (.bool (decide (Righted k s l))) ∧ Below w.heap.size w w' := by
  by_cases h0 : k = 0
  · subst h0
    by_cases h1 : s = 0
    · by_cases h2 : l = 0
      · go_enter Try.func10, Try.ntmps10
        go_wp2
        go_ret
        exact ⟨ret_bool (yes_of (.inl ⟨rfl, h1, h2⟩)), (Below.refl _ _).alloc (Nat.le_refl _) _⟩
      · go_enter Try.func10, Try.ntmps10
        go_wp2
        go_ret
        exact ⟨ret_bool (no_of (by unfold Righted; omega)), (Below.refl _ _).alloc (Nat.le_refl _) _⟩
    · have h3 := fun b : Bool => b
      by_cases h4 : 1 ≤ s
      · go_enter Try.func10, Try.ntmps10
        go_wp2
        go_ret
        exact ⟨ret_bool (no_of (by unfold Righted; omega)), (Below.refl _ _).alloc (Nat.le_refl _) _⟩
      · go_enter Try.func10, Try.ntmps10
        go_wp2
        go_ret
        exact ⟨ret_bool (no_of (by unfold Righted; omega)), (Below.refl _ _).alloc (Nat.le_refl _) _⟩
  by_cases hs : 1 ≤ s ∧ s ≤ 1000000
  · obtain ⟨s1, s2⟩ := hs
    by_cases h1 : k = 1
    · by_cases h2 : l = 0
      · go_enter Try.func10, Try.ntmps10
        go_wp2
        go_ret
        exact ⟨ret_bool (yes_of (by unfold Righted; omega)), (Below.refl _ _).alloc (Nat.le_refl _) _⟩
      · go_enter Try.func10, Try.ntmps10
        go_wp2
        go_ret
        exact ⟨ret_bool (by rw [Bool.eq_iff_iff, beq_iff_eq, decide_eq_true_eq]; unfold Righted; omega), (Below.refl _ _).alloc (Nat.le_refl _) _⟩
    by_cases h3 : k = 3
    · by_cases h2 : l = 0
      · go_enter Try.func10, Try.ntmps10
        go_wp2
        go_ret
        exact ⟨ret_bool (yes_of (by unfold Righted; omega)), (Below.refl _ _).alloc (Nat.le_refl _) _⟩
      · go_enter Try.func10, Try.ntmps10
        go_wp2
        go_ret
        exact ⟨ret_bool (by rw [Bool.eq_iff_iff, beq_iff_eq, decide_eq_true_eq]; unfold Righted; omega), (Below.refl _ _).alloc (Nat.le_refl _) _⟩
    by_cases h4 : k = 2
    · by_cases h5 : 1 ≤ l
      · by_cases h6 : l ≤ s
        · have e : IntKind.i64.wrap (16 * l) = 16 * l := by rw [IntKind.wrap_i64]; omega
          by_cases h7 : s ≤ 16 * l
          · go_enter Try.func10, Try.ntmps10
            go_wp2
            go_ret
            exact ⟨ret_bool (yes_of (by unfold Righted; omega)), (Below.refl _ _).alloc (Nat.le_refl _) _⟩
          · go_enter Try.func10, Try.ntmps10
            go_wp2
            go_ret
            exact ⟨ret_bool (no_of (by unfold Righted; omega)), (Below.refl _ _).alloc (Nat.le_refl _) _⟩
        · go_enter Try.func10, Try.ntmps10
          go_wp2
          go_ret
          exact ⟨ret_bool (no_of (by unfold Righted; omega)), (Below.refl _ _).alloc (Nat.le_refl _) _⟩
      · go_enter Try.func10, Try.ntmps10
        go_wp2
        go_ret
        exact ⟨ret_bool (no_of (by unfold Righted; omega)), (Below.refl _ _).alloc (Nat.le_refl _) _⟩
    · go_enter Try.func10, Try.ntmps10
      go_wp2
      go_ret
      exact ⟨ret_bool (no_of (by unfold Righted; omega)), (Below.refl _ _).alloc (Nat.le_refl _) _⟩
  · by_cases s1 : 1 ≤ s
    · have s2 : ¬ s ≤ 1000000 := by omega
      go_enter Try.func10, Try.ntmps10
      go_wp2
      all_goals (go_ret; exact ⟨ret_bool (no_of (by unfold Righted; omega)), (Below.refl _ _).alloc (Nat.le_refl _) _⟩)
    · go_enter Try.func10, Try.ntmps10
      go_wp2
      all_goals (go_ret; exact ⟨ret_bool (no_of (by unfold Righted; omega)), (Below.refl _ _).alloc (Nat.le_refl _) _⟩)

theorem same_calls (A B : Option Addr) (ca cb : Nat) (a b : List Sp) (w : World) (ha : RdSp w A a) (hb : RdSp w B b) (hl : a.length ≤ 5000) :
    Calls Try.prog 12 #[.slice A a.length ca, .slice B b.length cb] w fun e w' => e = .returned (.bool (decide (a = b))) ∧ Below w.heap.size w w' := by
  by_cases hn : a.length = b.length
  · go_enter Try.func12, Try.ntmps12
    go_wp2
    go_loopw [5] (fun i wr => ∃ k : Nat, k ≤ a.length ∧ i = .int .i64 (k : Int) ∧ Hid (a.take k = b.take k) ∧ Below w.heap.size w wr) (fun i _ => a.length - (intOf i).toNat)
    case atStart => exact ⟨0, by omega, rfl, Lib.hid rfl, Below.refl _ _⟩
    case round =>
      obtain ⟨k, hk, rfl, ht, hB⟩ := hrel
      by_cases hlt : k < a.length
      · obtain ⟨x, hx⟩ : ∃ x, a[k]? = some x := ⟨_, List.getElem?_eq_getElem hlt⟩
        obtain ⟨y, hy⟩ : ∃ x, b[k]? = some x := ⟨_, List.getElem?_eq_getElem (by omega)⟩
        obtain ⟨ad, rfl, x1, x2⟩ := (ha.below hB) k x hx
        obtain ⟨bd, rfl, y1, y2⟩ := (hb.below hB) k y hy
        have HX := Lib.hid hx
        have HY := Lib.hid hy
        have hkb : k < b.length := by omega
        clear hx hy
        by_cases hxy : x = y
        · subst hxy
          go_wp2
          go_quiet (fail)
          go_wp2
          go_roundw
          case rel => exact ⟨k + 1, by omega, by go_num, Lib.hid (by rw [take_snoc a k x HX.out, take_snoc b k x HY.out, ht.out]), below_drewN hB _⟩
          case measure => simp [intOf]; omega
        · have hne : a ≠ b := fun e => hxy (by have h1 := HX.out; have h2 := HY.out; rw [e, h2] at h1; exact (Option.some.inj h1).symm)
          have HNE := Lib.hid hne
          clear hne
          by_cases h1 : x.1 = y.1
          · have h2 : ¬ x.2 = y.2 := fun h2 => hxy (Prod.ext h1 h2)
            go_wp2
            go_quiet (fail)
            go_wp2
            go_ret
            exact ⟨ret_bool (no_of HNE.out), below_drewN hB _⟩
          · go_wp2
            go_quiet (fail)
            go_wp2
            go_ret
            exact ⟨ret_bool (no_of HNE.out), below_drewN hB _⟩
      · obtain rfl : k = a.length := by omega
        go_wp2
        go_ret
        have h := ht.out
        rw [List.take_length, hn, List.take_length] at h
        exact ⟨ret_bool (yes_of h), hB⟩
  · go_enter Try.func12, Try.ntmps12
    go_wp2
    go_ret
    exact ⟨ret_bool (no_of (fun e => hn (by rw [e]))), Below.refl _ _⟩
theorem Reverse_calls (base g cap : Nat) (d : List Sp) (w : World) (hl : d.length ≤ 4096) (h : w.ownsRow base 34 2 (.slice (some ⟨g, 0, none⟩) d.length cap) d.length (encs d)) :
    Calls Try.prog 18 #[.slice (some ⟨g, 0, none⟩) d.length cap] w fun e w' => e = .returned (.tuple #[]) ∧
      w'.ownsRow base 34 2 (.slice (some ⟨g, 0, none⟩) d.length cap) d.length (encs d.reverse) ∧ w.grownBy w' (some g) := by
  have hcon := AnyQ.slices_Reverse Try.revSpan 2 Try.isAgg34 Try.sizeOf34 enc (fun _ => rfl) (fun x v hv => by simp [enc] at hv; rcases hv with rfl | rfl <;> rfl) g 0 cap d.toArray w (holds_of h) (by simp; omega)
  change Calls Try.prog 18 _ _ _ at hcon
  simp only [List.size_toArray] at hcon
  refine hcon.mono ?_
  rintro e w' ⟨rfl, n, rfl⟩
  have e0 : ∀ X : World, X = grow X #[] := fun X => by simp [grow]
  have hw : putRowK enc 2 (Sort.ahead w n) g 0 d.toArray.reverse = grow (putRow id (Sort.ahead w n) g 0 (encs d.reverse).toArray) #[] := by
    rw [← e0]
    unfold putRowK
    rw [← flat_encs, List.reverse_toArray]
  rw [hw]
  exact ⟨rfl, owns_sorted (by simp) h, grown_sorted _⟩
end Go.Proofs.Ytdmflbdcfnpikaa.Hand
