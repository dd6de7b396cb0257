/- Readers and keepers are spread evenly: a plain fact. No program here. -/
import Derived.Test.YtkjajlolfcioiaaGreatDoorYGraphPlain
namespace Go.Proofs.YtkjajlolfcioiaaGreatDoor.Ctl
theorem gstep {L p x : Nat} (hp : p < L) : (x + 1 + (L - 1 - p)) / L = (x + (L - 1 - p)) / L + if x % L = p then 1 else 0 := by
  have h1 := Nat.div_add_mod x L
  have h2 := Nat.mod_lt x (show 0 < L by omega)
  have h3 : (x + (L - 1 - p)) / L = x / L + (x % L + (L - 1 - p)) / L := by
    rw [show x + (L - 1 - p) = (x % L + (L - 1 - p)) + L * (x / L) by omega, Nat.add_mul_div_left _ _ (by omega)]
    omega
  have h4 : (x + 1 + (L - 1 - p)) / L = x / L + (x % L + 1 + (L - 1 - p)) / L := by
    rw [show x + 1 + (L - 1 - p) = (x % L + 1 + (L - 1 - p)) + L * (x / L) by omega, Nat.add_mul_div_left _ _ (by omega)]
    omega
  rw [h3, h4]
  by_cases e : x % L = p
  · rw [if_pos e, show x % L + 1 + (L - 1 - p) = L by omega, Nat.div_self (by omega), show x % L + (L - 1 - p) = L - 1 by omega, Nat.div_eq_of_lt (show L - 1 < L by omega)]
  · rw [if_neg e]
    rcases Nat.lt_or_gt_of_ne e with e | e
    · rw [Nat.div_eq_of_lt (show x % L + 1 + (L - 1 - p) < L by omega), Nat.div_eq_of_lt (show x % L + (L - 1 - p) < L by omega)]
    · rw [show x % L + 1 + (L - 1 - p) = (x % L - p) + L by omega, show x % L + (L - 1 - p) = (x % L - p - 1) + L by omega, Nat.add_div_right _ (by omega), Nat.add_div_right _ (by omega), Nat.div_eq_of_lt (show x % L - p < L by omega), Nat.div_eq_of_lt (show x % L - p - 1 < L by omega)]
theorem gpair {L p q : Nat} (x : Nat) (hq : q < L) (hpq : p ≤ q) : (x + (L - 1 - q)) / L ≤ (x + (L - 1 - p)) / L ∧ (x + (L - 1 - p)) / L ≤ (x + (L - 1 - q)) / L + 1 := by
  refine ⟨Nat.div_le_div_right (by omega), ?_⟩
  rw [← Nat.add_div_right _ (show 0 < L by omega)]
  exact Nat.div_le_div_right (by omega)
/-- how often one place is taken, of the first n. -/
theorem count_at {live : List Int} (hn : live.Nodup) (a : Nat) {p : Nat} (hp : p < live.length) : ∀ n : Nat, ((List.range n).map fun k : Nat => live.getD (((k : Int) + (a : Int)) % (live.length : Int)).toNat 0).count live[p] + (a + (live.length - 1 - p)) / live.length = (a + n + (live.length - 1 - p)) / live.length
  | 0 => by simp
  | n + 1 => by
    have ih := count_at hn a hp n
    rw [List.range_succ, List.map_append, List.count_append]
    have hL : 0 < live.length := by omega
    have hm := Nat.mod_lt (n + a) hL
    have e : (((n : Nat) : Int) + (a : Int)) % (live.length : Int) = (((n + a) % live.length : Nat) : Int) := by
      push_cast
      rfl
    have hs : (([n] : List Nat).map fun k : Nat => live.getD (((k : Int) + (a : Int)) % (live.length : Int)).toNat 0).count live[p] = if (n + a) % live.length = p then 1 else 0 := by
      simp only [List.map_cons, List.map_nil, e, Int.toNat_natCast]
      rw [List.getD_eq_getElem?_getD, List.getElem?_eq_getElem hm, Option.getD_some]
      by_cases h : (n + a) % live.length = p
      · subst h
        simp
      · rw [if_neg h, List.count_singleton, if_neg]
        intro hb
        exact h ((List.getElem_inj hn).1 (by simpa using hb))
    rw [hs]
    have hg := gstep (x := a + n) hp
    rw [Nat.add_comm n a]
    rw [show a + (n + 1) = a + n + 1 by omega, hg]
    omega
/-- two live workers' shares differ by one at most. -/
theorem spread {live : List Int} (hn : live.Nodup) {a n : Int} (ha : 0 ≤ a) {u v : Int} (hu : u ∈ live) (hv : v ∈ live) : (placesOf live a n).count u ≤ (placesOf live a n).count v + 1 := by
  have hne : live ≠ [] := fun e => by rw [e] at hu; cases hu
  unfold placesOf
  rw [if_neg hne]
  obtain ⟨p, hp, rfl⟩ := List.mem_iff_getElem.1 hu
  obtain ⟨q, hq, rfl⟩ := List.mem_iff_getElem.1 hv
  obtain ⟨b, rfl⟩ : ∃ b : Nat, a = (b : Int) := ⟨a.toNat, by omega⟩
  have h1 := count_at hn b hp n.toNat
  have h2 := count_at hn b hq n.toNat
  rcases Nat.le_total p q with h | h
  · have g1 := gpair (L := live.length) b hq h
    have g2 := gpair (L := live.length) (b + n.toNat) hq h
    omega
  · have g1 := gpair (L := live.length) b hp h
    have g2 := gpair (L := live.length) (b + n.toNat) hp h
    omega
end Go.Proofs.YtkjajlolfcioiaaGreatDoor.Ctl
