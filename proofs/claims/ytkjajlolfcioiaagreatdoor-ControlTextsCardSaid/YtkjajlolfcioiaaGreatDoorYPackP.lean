/- Numbers as bytes, in plain words: what is written is what is read. No program here. -/
import Derived.Lib.Varint
import Derived.Lib.VarintDec
import Derived.Lib.Zigzag
import Derived.Test.YtkjajlolfcioiaaGreatDoorYGraphPlain
namespace Go.Proofs.YtkjajlolfcioiaaGreatDoor.Pack
open Go

/-- a number's bytes. -/
def numB (x : Int) : List UInt8 := Lib.uvarint (Lib.zigzag x)
/-- an int64. -/
def I64 (x : Int) : Prop := -9223372036854775808 ≤ x ∧ x ≤ 9223372036854775807
theorem numB_len {x : Int} (h : I64 x) : 1 ≤ (numB x).length ∧ (numB x).length ≤ 10 := ⟨Lib.uvarint_pos _, Lib.uvarint_length64 (Lib.zigzag_lt h.1 h.2)⟩
/-- the number with which bytes begin: i bytes of it were read, which spell acc. -/
def takeL : Nat → Nat → List UInt8 → Option (Nat × List UInt8)
  | _, _, [] => none
  | i, acc, c :: r => if (i = 9 ∧ c.toNat ≠ 1) ∨ (0 < i ∧ c.toNat = 0) then none else if c.toNat < 128 then some (acc + c.toNat * 2 ^ (7 * i), r) else takeL (i + 1) (acc + c.toNat % 128 * 2 ^ (7 * i)) r
/-- a reader: the bytes that are left; none: there was a fault. -/
abbrev Rd := Option (List UInt8)
def readN : Rd → Int × Rd
  | none => (0, none)
  | some l => match takeL 0 0 l with
    | none => (0, none)
    | some (z, r) => (Lib.unzigzag z, some r)
theorem unzig (x : Int) : Lib.unzigzag (Lib.zigzag x) = x := by
  unfold Lib.unzigzag Lib.zigzag
  split <;> split <;> omega
theorem toU8 {a : Nat} (h : a < 256) : (a.toUInt8).toNat = a := by
  simp [Nat.toUInt8, UInt8.toNat_ofNat']
  omega
theorem take_uv : ∀ (k i y acc : Nat) (r : List UInt8), i + k = 9 → y < 2 ^ (7 * k + 1) → (0 < i → 1 ≤ y) → takeL i acc (Lib.uvarint y ++ r) = some (acc + y * 2 ^ (7 * i), r)
  | 0, i, y, acc, r, hi, hy, h1 => by
    obtain rfl : i = 9 := by omega
    have hy2 : y < 2 := by simpa using hy
    obtain rfl : y = 1 := by have := h1 (by omega); omega
    rw [Lib.uvarint_small (by omega)]
    rfl
  | k + 1, i, y, acc, r, hi, hy, h1 => by
    by_cases hs : y < 128
    · rw [Lib.uvarint_small hs]
      show takeL i acc (y.toUInt8 :: r) = _
      rw [takeL, toU8 (by omega), if_neg (by omega), if_pos hs]
    · rw [Lib.uvarint_big (by omega)]
      show takeL i acc ((y % 128 + 128).toUInt8 :: (Lib.uvarint (y / 128) ++ r)) = _
      rw [takeL, toU8 (by omega), if_neg (by omega), if_neg (by omega)]
      have hp : 2 ^ (7 * (k + 1) + 1) = 128 * 2 ^ (7 * k + 1) := by rw [show 7 * (k + 1) + 1 = 7 + (7 * k + 1) by omega, Nat.pow_add]
      rw [take_uv k (i + 1) (y / 128) _ r (by omega) (by rw [hp] at hy; omega) (fun _ => by omega)]
      have hq : 2 ^ (7 * (i + 1)) = 128 * 2 ^ (7 * i) := by rw [show 7 * (i + 1) = 7 + 7 * i by omega, Nat.pow_add]
      rw [hq]
      have e1 : (y % 128 + 128) % 128 = y % 128 := by omega
      rw [e1]
      congr 2
      have e2 : y = y % 128 + 128 * (y / 128) := by omega
      generalize 2 ^ (7 * i) = P
      have e3 : y / 128 * (128 * P) = 128 * (y / 128) * P := by rw [← Nat.mul_assoc, Nat.mul_comm (y / 128) 128]
      have e4 : y * P = y % 128 * P + 128 * (y / 128) * P := by rw [← Nat.add_mul, ← e2]
      omega
/-- what is written is what is read. -/
theorem read_num {x : Int} (h : I64 x) (r : List UInt8) : readN (some (numB x ++ r)) = (x, some r) := by
  have := take_uv 9 0 (Lib.zigzag x) 0 r (by omega) (by have := Lib.zigzag_lt h.1 h.2; simpa using this) (fun e => by omega)
  have e : readN (some (numB x ++ r)) = match takeL 0 0 (Lib.uvarint (Lib.zigzag x) ++ r) with
    | none => (0, none)
    | some (z, r) => (Lib.unzigzag z, some r) := rfl
  rw [e, this]
  show (Lib.unzigzag (0 + Lib.zigzag x * 2 ^ (7 * 0)), some r) = (x, some r)
  rw [show 0 + Lib.zigzag x * 2 ^ (7 * 0) = Lib.zigzag x by omega, unzig]
/-- what is read fits. -/
theorem takeL_lt : ∀ (l : List UInt8) (i acc z : Nat) (r : List UInt8), i ≤ 9 → acc < 2 ^ (7 * i) → takeL i acc l = some (z, r) → z < 2 ^ 64 ∧ r.length < l.length
  | [], _, _, _, _, _, _, h => by cases h
  | c :: l, i, acc, z, r, hi, ha, h => by
    rw [takeL] at h
    have hc := c.toNat_lt
    split at h
    · cases h
    · rename_i hn
      have hq : 2 ^ (7 * (i + 1)) = 128 * 2 ^ (7 * i) := by rw [show 7 * (i + 1) = 7 + 7 * i by omega, Nat.pow_add]
      split at h
      · rename_i hs
        cases h
        refine ⟨?_, by simp⟩
        by_cases h9 : i = 9
        · subst h9
          have : c.toNat = 1 := Decidable.byContradiction fun e => hn (.inl ⟨rfl, e⟩)
          rw [this]
          have e : (2 : Nat) ^ (7 * 9) = 9223372036854775808 := by decide
          rw [e] at ha ⊢
          omega
        · have hle : 2 ^ (7 * (i + 1)) ≤ 2 ^ 63 := Nat.pow_le_pow_right (by decide) (by omega)
          have hmul : c.toNat * 2 ^ (7 * i) ≤ 127 * 2 ^ (7 * i) := Nat.mul_le_mul_right _ (by omega)
          rw [hq] at hle
          generalize 2 ^ (7 * i) = P at *
          have e : (2 : Nat) ^ 63 = 9223372036854775808 := by decide
          have e2 : (2 : Nat) ^ 64 = 18446744073709551616 := by decide
          omega
      · rename_i hs
        have h9 : i ≠ 9 := fun e => hn (.inl ⟨e, by omega⟩)
        have hmul : c.toNat % 128 * 2 ^ (7 * i) ≤ 127 * 2 ^ (7 * i) := Nat.mul_le_mul_right _ (by omega)
        obtain ⟨h1, h2⟩ := takeL_lt l (i + 1) _ z r (by omega) (by rw [hq]; generalize 2 ^ (7 * i) = P at *; omega) h
        exact ⟨h1, by simp; omega⟩
theorem unzig_fits {z : Nat} (h : z < 2 ^ 64) : I64 (Lib.unzigzag z) := by
  have e2 : (2 : Nat) ^ 64 = 18446744073709551616 := by decide
  unfold Lib.unzigzag I64
  split <;> omega
theorem readN_fits (q : Rd) : I64 (readN q).1 := by
  cases q with
  | none => exact ⟨by decide, by decide⟩
  | some l =>
    have e : readN (some l) = match takeL 0 0 l with
      | none => (0, none)
      | some (z, r) => (Lib.unzigzag z, some r) := rfl
    rw [e]
    rcases h : takeL 0 0 l with _ | ⟨z, r⟩
    · exact ⟨by decide, by decide⟩
    · exact unzig_fits (takeL_lt l 0 0 z r (by omega) (by decide) h).1
end Go.Proofs.YtkjajlolfcioiaaGreatDoor.Pack

/- Commands as bytes, in plain words: what is written is what is read. No program here. -/
namespace Go.Proofs.YtkjajlolfcioiaaGreatDoor.Pack
open Go Go.Proofs.YtkjajlolfcioiaaGreatDoor.Ctl
def numsB (l : List Int) : List UInt8 := l.flatMap numB
theorem numsB_nil : numsB [] = [] := rfl
theorem numsB_snoc (l : List Int) (x : Int) : numsB (l ++ [x]) = numsB l ++ numB x := by simp [numsB]
theorem numsB_append (l m : List Int) : numsB (l ++ m) = numsB l ++ numsB m := by simp [numsB]
theorem numsB_len : ∀ l : List Int, (∀ x ∈ l, I64 x) → (numsB l).length ≤ 10 * l.length
  | [], _ => Nat.le_refl _
  | x :: r, h => by
    have := numsB_len r fun y hy => h y (List.mem_cons_of_mem _ hy)
    have := (numB_len (h x (by simp))).2
    show ((numB x) ++ numsB r).length ≤ _
    rw [List.length_append, List.length_cons]
    omega
/-- a command's numbers. -/
def cmdNums (c : Cmd) : List Int := [c.kind, c.flow, c.att, c.num, c.wk, c.rd, c.kp, (c.parts.length : Int)]
def partNums (P : List (Int × Int)) : List Int := P.flatMap fun p => [p.1, p.2]
theorem partNums_len (P : List (Int × Int)) : (partNums P).length = 2 * P.length := by
  induction P with
  | nil => rfl
  | cons p r ih => rw [show partNums (p :: r) = [p.1, p.2] ++ partNums r from rfl, List.length_append, ih, List.length_cons]; simp; omega
def cmdB (c : Cmd) : List UInt8 := numsB (cmdNums c) ++ numsB (partNums c.parts)
/-- numbers of a command that may be. -/
structure CmdI (c : Cmd) : Prop where
  kind : I64 c.kind
  flow : I64 c.flow
  att : I64 c.att
  num : I64 c.num
  wk : I64 c.wk
  rd : I64 c.rd
  kp : I64 c.kp
  parts : ∀ p ∈ c.parts, I64 p.1 ∧ I64 p.2
/-- n numbers are read. -/
def readNs : Nat → Rd → List Int × Rd
  | 0, q => ([], q)
  | n + 1, q => ((readN q).1 :: (readNs n (readN q).2).1, (readNs n (readN q).2).2)
theorem readNs_snoc : ∀ (n : Nat) (q : Rd), readNs (n + 1) q = ((readNs n q).1 ++ [(readN (readNs n q).2).1], (readN (readNs n q).2).2)
  | 0, q => rfl
  | n + 1, q => by
    rw [readNs, readNs_snoc n]
    rfl
/-- parts are read. -/
def readPs : Nat → Rd → List (Int × Int) × Rd
  | 0, q => ([], q)
  | n + 1, q =>
    let a := readN q
    let b := readN a.2
    ((a.1, b.1) :: (readPs n b.2).1, (readPs n b.2).2)
theorem readPs_snoc : ∀ (n : Nat) (q : Rd), readPs (n + 1) q = ((readPs n q).1 ++ [((readN (readPs n q).2).1, (readN (readN (readPs n q).2).2).1)], (readN (readN (readPs n q).2).2).2)
  | 0, q => rfl
  | n + 1, q => by
    have e : readPs (n + 1 + 1) q = (((readN q).1, (readN (readN q).2).1) :: (readPs (n + 1) (readN (readN q).2).2).1, (readPs (n + 1) (readN (readN q).2).2).2) := rfl
    rw [e, readPs_snoc n]
    rfl
theorem readPs_len : ∀ (n : Nat) (q : Rd), (readPs n q).1.length = n
  | 0, _ => rfl
  | n + 1, q => by
    show (_ :: (readPs n _).1).length = _
    rw [List.length_cons, readPs_len n]
def cmd0 : Cmd := ⟨0, 0, 0, 0, 0, 0, 0, []⟩
/-- the command of some bytes: the code's way. -/
def readC (l : List UInt8) : Option Cmd :=
  let h := readNs 7 (some l)
  let m := readN h.2
  if m.1 < 0 ∨ 32 < m.1 then none
  else
    let p := readPs m.1.toNat m.2
    if p.2 = some [] then some ⟨h.1.getD 0 0, h.1.getD 1 0, h.1.getD 2 0, h.1.getD 3 0, h.1.getD 4 0, h.1.getD 5 0, h.1.getD 6 0, p.1⟩ else none
theorem readPs_write : ∀ (P : List (Int × Int)), (∀ p ∈ P, I64 p.1 ∧ I64 p.2) → ∀ r : List UInt8, readPs P.length (some (numsB (partNums P) ++ r)) = (P, some r)
  | [], _, r => rfl
  | p :: P, h, r => by
    obtain ⟨h1, h2⟩ := h p (by simp)
    have e : numsB (partNums (p :: P)) ++ r = numB p.1 ++ (numB p.2 ++ (numsB (partNums P) ++ r)) := by simp [partNums, numsB]
    have e2 : readPs (p :: P).length (some (numsB (partNums (p :: P)) ++ r)) = (((readN (some (numsB (partNums (p :: P)) ++ r))).1, (readN (readN (some (numsB (partNums (p :: P)) ++ r))).2).1) :: (readPs P.length (readN (readN (some (numsB (partNums (p :: P)) ++ r))).2).2).1, (readPs P.length (readN (readN (some (numsB (partNums (p :: P)) ++ r))).2).2).2) := rfl
    rw [e2, e, read_num h1]
    simp only [read_num h2]
    rw [readPs_write P (fun q hq => h q (List.mem_cons_of_mem _ hq)) r]
theorem readNs_write : ∀ (L : List Int), (∀ x ∈ L, I64 x) → ∀ r : List UInt8, readNs L.length (some (numsB L ++ r)) = (L, some r)
  | [], _, r => rfl
  | x :: L, h, r => by
    have e : numsB (x :: L) ++ r = numB x ++ (numsB L ++ r) := by simp [numsB]
    have e2 : readNs (x :: L).length (some (numsB (x :: L) ++ r)) = ((readN (some (numsB (x :: L) ++ r))).1 :: (readNs L.length (readN (some (numsB (x :: L) ++ r))).2).1, (readNs L.length (readN (some (numsB (x :: L) ++ r))).2).2) := rfl
    rw [e2, e, read_num (h x (by simp))]
    simp only
    rw [readNs_write L (fun y hy => h y (List.mem_cons_of_mem _ hy)) r]
/-- **what is written is what is read.** -/
theorem read_write {c : Cmd} (h : CmdI c) (hl : c.parts.length ≤ 32) : readC (cmdB c) = some c := by
  have e1 : cmdB c = numsB [c.kind, c.flow, c.att, c.num, c.wk, c.rd, c.kp] ++ (numB (c.parts.length : Int) ++ (numsB (partNums c.parts) ++ [])) := by
    unfold cmdB cmdNums
    rw [show [c.kind, c.flow, c.att, c.num, c.wk, c.rd, c.kp, (c.parts.length : Int)] = [c.kind, c.flow, c.att, c.num, c.wk, c.rd, c.kp] ++ [(c.parts.length : Int)] from rfl, numsB_snoc]
    simp
  have h7 : readNs 7 (some (cmdB c)) = ([c.kind, c.flow, c.att, c.num, c.wk, c.rd, c.kp], some (numB (c.parts.length : Int) ++ (numsB (partNums c.parts) ++ []))) := by
    rw [e1]
    exact readNs_write [c.kind, c.flow, c.att, c.num, c.wk, c.rd, c.kp] (by
      intro x hx
      simp only [List.mem_cons, List.not_mem_nil, or_false] at hx
      rcases hx with rfl | rfl | rfl | rfl | rfl | rfl | rfl
      · exact h.kind
      · exact h.flow
      · exact h.att
      · exact h.num
      · exact h.wk
      · exact h.rd
      · exact h.kp) _
  have hn : I64 (c.parts.length : Int) := ⟨by omega, by omega⟩
  have hp := readPs_write c.parts h.parts []
  unfold readC
  simp only [h7, read_num hn, Int.toNat_natCast, hp]
  rw [if_neg (by omega), if_pos trivial]
  rfl
end Go.Proofs.YtkjajlolfcioiaaGreatDoor.Pack
