/- A drawn region whose last operations are forced: its head in any order, then the tail one by one. Laws over any program. -/
import Derived.Test.YtkjajlolfcioiaaGreatDoorYTail
namespace Go.Proofs.YtkjajlolfcioiaaGreatDoor.Tail
open Go Go.RowKit
/-- what follows a head: the tail, one by one. -/
def tailQ (P : Program) (Q : Exit → Act → World → Prop) (ops : Array Oper) (l : List Oper) : Exit → Act → World → Prop
  | .normal, a, w => wpList P ops Q l a w
  | e, a, w => Q e a w
theorem any_fuel {P : Program} {md : Region.Mode} {ops : Array Oper} {Q : Exit → Act → World → Prop} : ∀ (g k : Nat) (listed : Array Bool) (a : Act) (w : World), wpAny P md ops Q g listed a w → wpAny P md ops Q (g + k) listed a w
  | 0, 0, _, _, _, h => h
  | 0, k + 1, listed, a, w, h => by
    rw [Nat.zero_add]
    exact ⟨fun _ => h.2, fun i hi => by rw [h.1] at hi; cases hi⟩
  | g + 1, k, listed, a, w, h => by
    rw [show g + 1 + k = (g + k) + 1 by omega]
    exact ⟨h.1, fun i hi => wpOp_mono (fun a' w' h' => any_fuel g k _ a' w' h') (h.2 i hi)⟩
theorem upon_back {P : Program} {Q : Exit → Act → World → Prop} {ops : Array Oper} {l : List Oper} {o : Oper} {a : Act} {w : World} {K : Act → World → Prop} (h : o.wp P a w K (tailQ P Q ops l)) : o.wp P a w K Q := by
  unfold Oper.wp at *
  generalize (execOp a.eval o).run P w = r at *
  cases r with
  | ok n w' => cases n <;> exact h
  | halt x w' => cases x <;> exact h
/-- no operation of the head waits for a later one, none is guarded. -/
def headB (md : Region.Mode) (ops : Array Oper) (n : Nat) : Bool := (List.range n).all fun i => match ops[i]? with
  | some o => o.guard.isNone && o.after.all fun e => !Region.binds md e || decide (e.on < i)
  | none => false
theorem headB_spec {md : Region.Mode} {ops : Array Oper} {n i : Nat} (h : headB md ops n = true) (hi : i < n) : ∃ o, ops[i]? = some o ∧ o.guard = none ∧ ∀ e ∈ o.after, Region.binds md e = true → e.on < i := by
  have := List.all_eq_true.1 h i (List.mem_range.2 hi)
  split at this
  · rename_i o ho
    simp only [Bool.and_eq_true, Option.isNone_iff_eq_none] at this
    refine ⟨o, ho, this.1, fun e he hb => ?_⟩
    have h2 := Array.all_eq_true'.1 this.2 e he
    simpa [hb] using h2
  · cases this
def fullAt (n m : Nat) : Array Bool := (List.replicate n true ++ List.replicate m false).toArray
def forceB (md : Region.Mode) (ops : Array Oper) (n : Nat) : Bool := decide (n < ops.size) && Region.sinkB md ops n && Region.chainB md ops n && headB md ops n && Region.seqB md ops (ops.size - n) n (fullAt n (ops.size - n))
section
variable {P : Program} {md : Region.Mode} {ops ops' : Array Oper} {n g : Nat} {Q : Exit → Act → World → Prop} {l : List Oper}
theorem any_force (hsz : ops'.size = n) (hpre : ∀ i, i < n → ops'[i]? = ops[i]?) (hn : n < ops.size) (hs : Region.sinkB md ops n = true) (hc : Region.chainB md ops n = true) (hh : headB md ops n = true)
    (hg : g = ops.size - n) (hsq : Region.seqB md ops g n (fullAt n g) = true) (hl : ∀ j, l[j]? = ops[n + j]?) (hgl : l.length = g) :
    ∀ (f : Nat) (listed listed' : Array Bool) (a : Act) (w : World), HeadInv md ops n listed → listed'.size = n → (∀ j, j < n → listed'.getD j false = listed.getD j false) →
      wpAny P md ops' (tailQ P Q ops l) f listed' a w → wpAny P md ops Q (f + g) listed a w := by
  have key : ∀ (listed listed' : Array Bool), HeadInv md ops n listed → listed'.size = n → (∀ j, j < n → listed'.getD j false = listed.getD j false) → ∀ i, i < n → (i ∈ Region.ready md ops' listed' ↔ i ∈ Region.ready md ops listed) := by
    intro listed listed' inv hz hsame i hi
    obtain ⟨o, ho, -, hup⟩ := headB_spec hh hi
    rw [mem_ready, mem_ready]
    have hlow : listed.getD i true = false ↔ listed'.getD i true = false := by
      constructor
      · intro h
        exact getD_in (by omega) ((hsame i hi).trans (getD_both h))
      · intro h
        exact getD_in (by rw [inv.size]; omega) ((hsame i hi).symm.trans (getD_both h))
    have hon : ∀ e ∈ o.after, Region.binds md e = true → listed'.getD e.on false = listed.getD e.on false := fun e he hb => hsame _ (by have := hup e he hb; omega)
    rw [hpre i hi, hlow]
    refine and_congr Iff.rfl ⟨?_, ?_⟩
    · rintro ⟨o', ho', h⟩
      obtain rfl : o' = o := Option.some.inj (ho'.symm.trans ho)
      exact ⟨_, ho', fun e he hb => (hon e he hb).symm.trans (h e he hb)⟩
    · rintro ⟨o', ho', h⟩
      obtain rfl : o' = o := Option.some.inj (ho'.symm.trans ho)
      exact ⟨_, ho', fun e he hb => (hon e he hb).trans (h e he hb)⟩
  have last : ∀ (f : Nat) (listed listed' : Array Bool) (a : Act) (w : World), HeadInv md ops n listed → listed'.size = n → (∀ j, j < n → listed'.getD j false = listed.getD j false) → Region.ready md ops' listed' = [] →
      wpList P ops Q l a w → wpAny P md ops Q (f + g) listed a w := by
    intro f listed listed' a w inv hz hsame hr h
    have hall : ∀ i, i < n → listed.getD i false = true := by
      intro i
      induction i using Nat.strongRecOn with
      | _ i ih =>
        intro hi
        cases hb : listed.getD i false with
        | true => rfl
        | false =>
          exfalso
          obtain ⟨o, ho, -, hup⟩ := headB_spec hh hi
          have : i ∈ Region.ready md ops listed := mem_ready.2 ⟨getD_in (by rw [inv.size]; omega) hb, o, ho, fun e he hbd => ih _ (hup e he hbd) (by have := hup e he hbd; omega)⟩
          rw [← key listed listed' inv hz hsame i hi, hr] at this
          cases this
    have hfull : listed = fullAt n g := by
      apply Array.ext
      · rw [inv.size]; simp [fullAt]; omega
      · intro i h1 h2
        by_cases hi : i < n
        · have := hall i hi
          simp [h1] at this
          rw [this]
          simp [fullAt, hi]
        · have := inv.tail i (by omega) (by rw [← inv.size]; exact h1)
          simp [h1] at this
          rw [this]
          simp [fullAt, List.getElem_append, hi]
    have := wpAny_of_seq (md := md) (Q' := Q) l n listed a w hl (by rw [hgl, hfull]; exact hsq) h
    rw [hgl] at this
    rw [Nat.add_comm f g]
    exact any_fuel g f _ _ _ this
  intro f
  induction f with
  | zero =>
    intro listed listed' a w inv hz hsame h
    exact last 0 listed listed' a w inv hz hsame h.1 h.2
  | succ f ih =>
    intro listed listed' a w inv hz hsame h
    by_cases hr : Region.ready md ops' listed' = []
    · exact last _ listed listed' a w inv hz hsame hr (h.1 hr)
    · obtain ⟨i0, hi0⟩ := List.exists_mem_of_ne_nil _ hr
      have hi0n : i0 < n := by
        obtain ⟨-, o, ho, -⟩ := mem_ready.1 hi0
        rw [← hsz]; exact (Array.getElem?_eq_some_iff.1 ho).1
      have hi0r := (key listed listed' inv hz hsame i0 hi0n).1 hi0
      rw [show f + 1 + g = (f + g) + 1 by omega]
      refine ⟨fun h0 => (by rw [h0] at hi0r; cases hi0r), fun i hi => ?_⟩
      have hin : i < n := by
        rcases Nat.lt_or_ge i n with h' | h'
        · exact h'
        · exact absurd hi (tail_waits hs hc hn inv _ i0 rfl hi0n (mem_ready.1 hi0r).1 i h')
      have hstep := h.2 i ((key listed listed' inv hz hsame i hin).2 hi)
      obtain ⟨o, ho, hgd, -⟩ := headB_spec hh hin
      have hwant : ∀ y, Region.wanted o y = true := fun y => by simp [Region.wanted, hgd]
      unfold wpOp at hstep ⊢
      rw [hpre i hin] at hstep
      simp only [ho, hwant, if_true] at hstep ⊢
      have hnext : ∀ a w, wpAny P md ops' (tailQ P Q ops l) f (listed'.setIfInBounds i true) a w → wpAny P md ops Q (f + g) (listed.setIfInBounds i true) a w := fun a' w' h' => by
        refine ih _ _ a' w' (inv.set hi hin) (by simp [hz]) (fun j hj => ?_) h'
        by_cases hij : i = j
        · subst hij
          simp [hz, inv.size, hin, show i < ops.size by omega]
        · rw [getD_set_ne false hij, getD_set_ne false hij]
          exact hsame j hj
      exact hstep.imp (fun h => Oper.wp_mono hnext (upon_back h)) (fun h => h)
/-- a drawn region whose last operations are forced: the head is a drawn region of its own. -/
theorem wp_region_forced {id : Nat} {a : Act} {w : World} (n : Nat) (hm : P.follows .mixedOrders = true) {l : List Oper} (hB : forceB .any l.toArray n = true)
    (h : wpAny P .any (l.take n).toArray (tailQ P Q l.toArray (l.drop n)) (l.take n).toArray.size (Array.replicate (l.take n).toArray.size false) a w.drew) : (Code.region id l.toArray true).wp P Q a w := by
  simp only [forceB, Bool.and_eq_true, decide_eq_true_eq] at hB
  obtain ⟨⟨⟨⟨hn, hs⟩, hc⟩, hh⟩, hsq⟩ := hB
  have hn' : n < l.length := by simpa using hn
  refine wp_region_any hm ?_
  have hsz : (l.take n).toArray.size = n := by simp; omega
  have := any_force (P := P) (Q := Q) (md := .any) (ops := l.toArray) (ops' := (l.take n).toArray) (n := n) (g := l.toArray.size - n) (l := l.drop n) hsz (fun i hi => by simp [hi]) hn hs hc hh rfl hsq (fun j => by simp [List.getElem?_drop]) (by simp)
    n (Array.replicate l.toArray.size false) (Array.replicate n false) a w.drew
    ⟨by simp, fun j oj _ hl => (by rw [getD_replicate_false] at hl; cases hl), fun t _ ht => getD_in (by simpa using ht) (getD_replicate_false _ _)⟩ (by simp) (fun j hj => by rw [getD_replicate_false, getD_replicate_false]) (by rw [hsz] at h; exact h)
  rw [show n + (l.toArray.size - n) = l.toArray.size by omega] at this
  exact this
end
end Go.Proofs.YtkjajlolfcioiaaGreatDoor.Tail
