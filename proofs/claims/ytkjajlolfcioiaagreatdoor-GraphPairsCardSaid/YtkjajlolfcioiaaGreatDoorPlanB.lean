/- Plans: the first error, place by place. No program here. -/
import Derived.Test.YtkjajlolfcioiaaGreatDoorPlan
namespace Go.Proofs.YtkjajlolfcioiaaGreatDoor.Plan
open Go.Proofs.YtkjajlolfcioiaaGreatDoor.Scan

theorem bytes_eq {a b : ByteArray} (h : a.data.toList = b.data.toList) : a = b := by
  cases a; cases b
  simpa using h
/-- what the map of topics holds. -/
def partsG : List Top → List UInt8 → Option Int
  | [], _ => none
  | t :: r, s => if t.name.data.toList = s then some t.parts else partsG r s
theorem partsG_snoc (t : Top) (s : List UInt8) : ∀ (l : List Top), (∀ g ∈ l, g.name ≠ t.name) → partsG (l ++ [t]) s = if s = t.name.data.toList then some t.parts else partsG l s
  | [], _ => by
    show (if t.name.data.toList = s then some t.parts else none) = (if s = t.name.data.toList then some t.parts else none)
    by_cases h : t.name.data.toList = s
    · rw [if_pos h, if_pos h.symm]
    · rw [if_neg h, if_neg (fun e => h e.symm)]
  | x :: r, hn => by
    rw [List.cons_append, partsG, partsG, partsG_snoc t s r (fun g hg => hn g (List.mem_cons_of_mem _ hg))]
    by_cases h : x.name.data.toList = s
    · have hx : s ≠ t.name.data.toList := fun e => hn x List.mem_cons_self (bytes_eq (h.trans e))
      rw [if_pos h, if_pos h, if_neg hx]
    · rw [if_neg h, if_neg h]
theorem partsG_some (s : ByteArray) : ∀ (l : List Top), (partsG l s.data.toList).isSome = true ↔ ∃ g ∈ l, g.name = s
  | [] => by simp [partsG]
  | x :: r => by
    rw [partsG]
    by_cases h : x.name = s
    · rw [if_pos (by rw [h])]
      simp [h]
    · rw [if_neg (fun e => h (bytes_eq e)), partsG_some s r]
      simp [h]
theorem partsG_get (s : ByteArray) : ∀ (l : List Top), (partsG l s.data.toList).getD 0 = partsOf l s
  | [] => rfl
  | x :: r => by
    rw [partsG, partsOf]
    by_cases h : x.name = s
    · rw [if_pos (by rw [h]), if_pos h]
      rfl
    · rw [if_neg (fun e => h (bytes_eq e)), if_neg h, partsG_get s r]
theorem topsE_at (t : Top) : ∀ (l ahead : List Top) (k : Nat), topsE ahead (l.take k) = 0 → l[k]? = some t → topE (ahead ++ l.take k) t ≠ 0 → topsE ahead l = topE (ahead ++ l.take k) t
  | [], _, _, _, h, _ => by simp at h
  | x :: r, ahead, 0, _, h, hn => by
    obtain rfl : x = t := by simpa using h
    simp only [List.take_zero, List.append_nil] at hn ⊢
    rw [topsE, if_neg hn]
  | x :: r, ahead, k + 1, h0, h, hn => by
    rw [List.take_succ_cons, topsE] at h0
    by_cases hx : topE ahead x = 0
    · rw [if_pos hx] at h0
      rw [topsE, if_pos hx]
      have := topsE_at t r (ahead ++ [x]) k h0 (by simpa using h) (by simpa using hn)
      rw [this]
      simp
    · rw [if_neg hx] at h0
      exact absurd h0 hx
theorem topsE_next (t : Top) : ∀ (l ahead : List Top) (k : Nat), topsE ahead (l.take k) = 0 → l[k]? = some t → topE (ahead ++ l.take k) t = 0 → topsE ahead (l.take (k + 1)) = 0
  | [], _, _, _, h, _ => by simp at h
  | x :: r, ahead, 0, _, h, hn => by
    obtain rfl : x = t := by simpa using h
    simp only [List.take_zero, List.append_nil] at hn
    simp [topsE, hn]
  | x :: r, ahead, k + 1, h0, h, hn => by
    rw [List.take_succ_cons, topsE] at h0 ⊢
    by_cases hx : topE ahead x = 0
    · rw [if_pos hx] at h0 ⊢
      exact topsE_next t r (ahead ++ [x]) k h0 (by simpa using h) (by simpa using hn)
    · rw [if_neg hx] at h0
      exact absurd h0 hx
theorem flowsE_at (p : Pln) (t : Flw) : ∀ (l ahead : List Flw) (k : Nat), flowsE p ahead (l.take k) = 0 → l[k]? = some t → flowE p (ahead ++ l.take k) t ≠ 0 → flowsE p ahead l = flowE p (ahead ++ l.take k) t
  | [], _, _, _, h, _ => by simp at h
  | x :: r, ahead, 0, _, h, hn => by
    obtain rfl : x = t := by simpa using h
    simp only [List.take_zero, List.append_nil] at hn ⊢
    rw [flowsE, if_neg hn]
  | x :: r, ahead, k + 1, h0, h, hn => by
    rw [List.take_succ_cons, flowsE] at h0
    by_cases hx : flowE p ahead x = 0
    · rw [if_pos hx] at h0
      rw [flowsE, if_pos hx]
      have := flowsE_at p t r (ahead ++ [x]) k h0 (by simpa using h) (by simpa using hn)
      rw [this]
      simp
    · rw [if_neg hx] at h0
      exact absurd h0 hx
theorem flowsE_next (p : Pln) (t : Flw) : ∀ (l ahead : List Flw) (k : Nat), flowsE p ahead (l.take k) = 0 → l[k]? = some t → flowE p (ahead ++ l.take k) t = 0 → flowsE p ahead (l.take (k + 1)) = 0
  | [], _, _, _, h, _ => by simp at h
  | x :: r, ahead, 0, _, h, hn => by
    obtain rfl : x = t := by simpa using h
    simp only [List.take_zero, List.append_nil] at hn
    simp [flowsE, hn]
  | x :: r, ahead, k + 1, h0, h, hn => by
    rw [List.take_succ_cons, flowsE] at h0 ⊢
    by_cases hx : flowE p ahead x = 0
    · rw [if_pos hx] at h0 ⊢
      exact flowsE_next p t r (ahead ++ [x]) k h0 (by simpa using h) (by simpa using hn)
    · rw [if_neg hx] at h0
      exact absurd h0 hx
/-- how often a topic is written. -/
def wrote (l : List Flw) (s : List UInt8) : Nat := (l.filter (fun g => decide (g.to.data.toList = s))).length
def wroteG (l : List Flw) (s : List UInt8) : Option Int := if wrote l s = 0 then none else some (wrote l s)
theorem wroteG_get (l : List Flw) (s : List UInt8) : (wroteG l s).getD 0 = wrote l s := by
  unfold wroteG
  by_cases h : wrote l s = 0
  · rw [if_pos h, h]; rfl
  · rw [if_neg h]; rfl
theorem wrote_le (l : List Flw) (s : List UInt8) : wrote l s ≤ l.length := List.length_filter_le _ _
theorem wrote_snoc (l : List Flw) (f : Flw) (s : List UInt8) : wrote (l ++ [f]) s = if s = f.to.data.toList then wrote l s + 1 else wrote l s := by
  unfold wrote
  rw [List.filter_append, List.length_append]
  by_cases h : f.to.data.toList = s
  · rw [if_pos h.symm]
    simp [h]
  · rw [if_neg (fun e => h e.symm)]
    simp [h]
theorem wrote_zero (l : List Flw) (s : ByteArray) : wrote l s.data.toList = 0 ↔ ¬ ∃ g ∈ l, g.to = s := by
  unfold wrote
  rw [List.length_eq_zero_iff, List.filter_eq_nil_iff]
  constructor
  · rintro h ⟨g, hg, e⟩
    exact h g hg (by rw [e]; simp)
  · intro h g hg e
    exact h ⟨g, hg, bytes_eq (by simpa using e)⟩
end Go.Proofs.YtkjajlolfcioiaaGreatDoor.Plan
