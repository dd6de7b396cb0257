/- expr: values and wholes, all. -/
import Derived.Test.YtkjajlolfcioiaaGreatDoorYExprG
import Derived.WalkSpells
namespace Go.Proofs.YtkjajlolfcioiaaGreatDoor.Expr
open Go.RowKit Go.Proofs.YtkjajlolfcioiaaGreatDoor Go.Proofs.YtkjajlolfcioiaaGreatDoor.Own Go.Proofs.YtkjajlolfcioiaaGreatDoor.Scan Go.Lib

theorem value_any (s : ByteArray) (b a p : Nat) (w : World) (hs : s.size ≤ 200) (ha : a ≤ s.size) (hp : p ≤ 64) (h : St w b s a p) (hT : Tab w) (hb : 5 < b) (ihv : Ih s b a) (ihw : Iw s b a) :
    Calls Tryz.prog 188 #[.pointer (some ⟨b, 0, none⟩)] w (Reads s b a p (fun _ => True) w) := by
  rcases hn : skipL ((L s).drop a) with _ | ⟨c, r⟩
  · exact value_none s b a p w hs ha h hn
  · cases hd : isDigit c
    · cases hl : isLetter c
      · by_cases h1 : opT (c :: r) = [45]
        · exact value_sign s b a p w hs ha hp h hT hb c r hn hd hl true h1 ihv
        · by_cases h2 : opT (c :: r) = [33]
          · exact value_sign s b a p w hs ha hp h hT hb c r hn hd hl false h2 ihv
          · by_cases h3 : opT (c :: r) = [40]
            · exact value_open s b a p w hs ha hp h hT hb c r hn hd hl h3 ihw
            · exact value_bad s b a p w hs ha h c r hn hd hl h1 h2 h3
      · exact value_letter s b a p w hs ha hp h c r hn hl
    · exact value_digit s b a p w hs ha hp h hT hb c r hn hd

theorem reads_all (s : ByteArray) (b : Nat) (hs : s.size ≤ 200) (hb : 5 < b) : ∀ n a : Nat, s.size - a ≤ n → a ≤ s.size →
    (∀ (p : Nat) (X : World), p ≤ 64 → St X b s a p → Tab X → Calls Tryz.prog 188 #[.pointer (some ⟨b, 0, none⟩)] X (Reads s b a p (fun _ => True) X)) ∧
    (∀ (p r : Nat) (ri : Int) (X : World), ri = r → p ≤ 64 → 1 ≤ r → r ≤ 6 → St X b s a p → Tab X → Calls Tryz.prog 175 #[.pointer (some ⟨b, 0, none⟩), .int .i64 ri] X (Reads s b a p (Ends s r) X)) := by
  intro n
  induction n with
  | zero =>
    intro a h1 ha
    have ihv : Ih s b a := fun a2 p2 X k1 k2 => absurd k2 (by omega)
    have ihw : Iw s b a := fun a2 p2 r ri X _ k1 k2 => absurd k2 (by omega)
    refine ⟨fun p X hp hst hT => value_any s b a p X hs ha hp hst hT hb ihv ihw, fun p r ri X hri hp hr1 hr6 hst hT => ?_⟩
    exact whole_calls s b a p r ri X hri hs hp hr1 hr6 hst hT hb (value_any s b a p X hs ha hp hst hT hb ihv ihw) ihw
  | succ n ih =>
    intro a h1 ha
    have ihv : Ih s b a := fun a2 p2 X k1 k2 k3 k4 k5 => (ih a2 (by omega) k2).1 p2 X k3 k4 k5
    have ihw : Iw s b a := fun a2 p2 r ri X k0 k1 k2 k3 k4 k5 k6 k7 => (ih a2 (by omega) k2).2 p2 r ri X k0 k3 k4 k5 k6 k7
    refine ⟨fun p X hp hst hT => value_any s b a p X hs ha hp hst hT hb ihv ihw, fun p r ri X hri hp hr1 hr6 hst hT => ?_⟩
    exact whole_calls s b a p r ri X hri hs hp hr1 hr6 hst hT hb (value_any s b a p X hs ha hp hst hT hb ihv ihw) ihw
theorem whole_all (s : ByteArray) (b a p r : Nat) (ri : Int) (w : World) (hs : s.size ≤ 200) (ha : a ≤ s.size) (hri : ri = r) (hp : p ≤ 64) (hr1 : 1 ≤ r) (hr6 : r ≤ 6) (h : St w b s a p) (hT : Tab w) (hb : 5 < b) :
    Calls Tryz.prog 175 #[.pointer (some ⟨b, 0, none⟩), .int .i64 ri] w (Reads s b a p (Ends s r) w) :=
  (reads_all s b hs hb _ a (Nat.le_refl _) ha).2 p r ri w hri hp hr1 hr6 h hT
end Go.Proofs.YtkjajlolfcioiaaGreatDoor.Expr
