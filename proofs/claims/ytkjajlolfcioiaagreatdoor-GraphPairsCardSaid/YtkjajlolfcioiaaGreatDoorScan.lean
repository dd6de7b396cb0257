/- Expressions: which error a text has, by one pass over its words. No program here. -/
import Derived.KernelRfl
namespace Go.Proofs.YtkjajlolfcioiaaGreatDoor.Scan

def isDigit (c : UInt8) : Bool := decide (48 ≤ c.toNat ∧ c.toNat ≤ 57)
def isLetter (c : UInt8) : Bool := decide ((97 ≤ c.toNat ∧ c.toNat ≤ 122) ∨ (65 ≤ c.toNat ∧ c.toNat ≤ 90))
/-- how many bytes at the head are of a kind. -/
def run (p : UInt8 → Bool) (l : List UInt8) : Nat := (l.takeWhile p).length
def skipL (l : List UInt8) : List UInt8 := l.dropWhile (fun c => c == 32)
def twos : List (List UInt8) := [[124, 124], [38, 38], [61, 61], [33, 61], [60, 61], [62, 61]]
def ones : List UInt8 := [60, 62, 43, 45, 42, 47, 37, 33, 40, 41]
/-- the word of signs at the head. -/
def opT : List UInt8 → List UInt8
  | a :: b :: _ => if [a, b] ∈ twos then [a, b] else if a ∈ ones then [a] else []
  | [a] => if a ∈ ones then [a] else []
  | [] => []
/-- an operator's rank; 0: it is none. -/
def rankB (op : List UInt8) : Nat :=
  if op = [124, 124] then 1 else if op = [38, 38] then 2
  else if op = [61, 61] ∨ op = [33, 61] ∨ op = [60, 61] ∨ op = [62, 61] ∨ op = [60] ∨ op = [62] then 3
  else if op = [43] ∨ op = [45] then 4 else if op = [42] ∨ op = [47] ∨ op = [37] then 5 else 0

def scanN : Nat → Bool → Nat → List UInt8 → Nat → Int
  | 0, _, _, _, _ => 0
  | n + 1, wants, opn, l, parts =>
    match skipL l with
    | [] => if wants = true ∨ 0 < opn then 41 else 0
    | c :: r =>
      if wants = true then
        if isDigit c = true then (if 18 < run isDigit (c :: r) then 40 else if 64 < parts + 1 then 5 else scanN n false opn ((c :: r).drop (run isDigit (c :: r))) (parts + 1))
        else if isLetter c = true then (if run isLetter (c :: r) = 1 ∧ (c = 110 ∨ c = 116 ∨ c = 118) then (if 64 < parts + 1 then 5 else scanN n false opn r (parts + 1)) else 40)
        else if opT (c :: r) = [45] ∨ opT (c :: r) = [33] then (if 64 < parts + 1 then 5 else scanN n true opn r (parts + 1))
        else if opT (c :: r) = [40] then scanN n true (opn + 1) r parts
        else 40
      else if 0 < rankB (opT (c :: r)) then (if 64 < parts + 1 then 5 else scanN n true opn ((c :: r).drop (opT (c :: r)).length) (parts + 1))
      else if opT (c :: r) = [41] ∧ 0 < opn then scanN n false (opn - 1) r parts
      else 40

theorem skipL_length (l : List UInt8) : (skipL l).length ≤ l.length := by
  unfold skipL
  exact (List.dropWhile_suffix _).length_le
theorem run_pos {p : UInt8 → Bool} {c : UInt8} {r : List UInt8} (h : p c = true) : 0 < run p (c :: r) := by
  unfold run
  rw [List.takeWhile_cons_of_pos h]
  simp
theorem run_le (p : UInt8 → Bool) (l : List UInt8) : run p l ≤ l.length := by
  unfold run
  exact (List.takeWhile_prefix _).length_le
theorem rank_pos {op : List UInt8} (h : 0 < rankB op) : 0 < op.length := by
  rcases op with _ | ⟨c, op⟩
  · revert h; decide
  · simp
/-- more rounds than bytes: the same. -/
theorem scanN_more : ∀ (n m : Nat) (wants : Bool) (opn : Nat) (l : List UInt8) (parts : Nat), l.length < n → l.length < m → scanN n wants opn l parts = scanN m wants opn l parts := by
  intro n
  induction n with
  | zero => intro m wants opn l parts h; omega
  | succ n ih =>
    intro m wants opn l parts h1 h2
    obtain ⟨m, rfl⟩ : ∃ k, m = k + 1 := ⟨m - 1, by omega⟩
    unfold scanN
    have hs := skipL_length l
    rcases hk : skipL l with _ | ⟨c, r⟩
    · rfl
    · rw [hk] at hs
      simp only [List.length_cons] at hs
      simp only
      split
      · split
        · rename_i hd
          have := run_pos (r := r) hd
          split
          · rfl
          · split
            · rfl
            · exact ih m _ _ _ _ (by simp only [List.length_drop, List.length_cons]; omega) (by simp only [List.length_drop, List.length_cons]; omega)
        · split
          · split
            · split
              · rfl
              · exact ih m _ _ _ _ (by omega) (by omega)
            · rfl
          · split
            · split
              · rfl
              · exact ih m _ _ _ _ (by omega) (by omega)
            · split
              · exact ih m _ _ _ _ (by omega) (by omega)
              · rfl
      · split
        · rename_i hr
          have := rank_pos hr
          split
          · rfl
          · exact ih m _ _ _ _ (by simp only [List.length_drop, List.length_cons]; omega) (by simp only [List.length_drop, List.length_cons]; omega)
        · split
          · exact ih m _ _ _ _ (by omega) (by omega)
          · rfl

/-- the error of what is left of a text: is a value wanted? how much is open? how many parts were there? -/
def scan (wants : Bool) (opn : Nat) (l : List UInt8) (parts : Nat) : Int := scanN (l.length + 1) wants opn l parts
/-- a text's error. -/
def exprE (l : List UInt8) : Int := if 200 < l.length then 2 else scan true 0 l 0

theorem skipL_skipL (l : List UInt8) : skipL (skipL l) = skipL l := by
  unfold skipL
  rcases hk : l.dropWhile (fun c => c == 32) with _ | ⟨c, r⟩
  · rfl
  · have hc : (c == 32) = false := by
      have := List.head_dropWhile_not (p := fun c : UInt8 => c == 32) (l := l) (by rw [hk]; simp)
      simp only [hk, List.head_cons] at this
      exact this
    rw [List.dropWhile_cons_of_neg (by rw [hc]; simp)]
theorem scan_skip (wants : Bool) (opn : Nat) (l : List UInt8) (parts : Nat) : scan wants opn (skipL l) parts = scan wants opn l parts := by
  have h := skipL_length l
  unfold scan
  rw [scanN_more _ (l.length + 1) _ _ _ _ (by omega) (by omega)]
  unfold scanN
  rw [skipL_skipL]

/-- at a word. -/
theorem scan_end (wants : Bool) (opn : Nat) (parts : Nat) : scan wants opn [] parts = if wants = true ∨ 0 < opn then 41 else 0 := rfl
theorem scan_cons (wants : Bool) (opn : Nat) (c : UInt8) (r : List UInt8) (parts : Nat) (hc : (c == 32) = false) : scan wants opn (c :: r) parts =
      if wants = true then
        if isDigit c = true then (if 18 < run isDigit (c :: r) then 40 else if 64 < parts + 1 then 5 else scan false opn ((c :: r).drop (run isDigit (c :: r))) (parts + 1))
        else if isLetter c = true then (if run isLetter (c :: r) = 1 ∧ (c = 110 ∨ c = 116 ∨ c = 118) then (if 64 < parts + 1 then 5 else scan false opn r (parts + 1)) else 40)
        else if opT (c :: r) = [45] ∨ opT (c :: r) = [33] then (if 64 < parts + 1 then 5 else scan true opn r (parts + 1))
        else if opT (c :: r) = [40] then scan true (opn + 1) r parts
        else 40
      else if 0 < rankB (opT (c :: r)) then (if 64 < parts + 1 then 5 else scan true opn ((c :: r).drop (opT (c :: r)).length) (parts + 1))
      else if opT (c :: r) = [41] ∧ 0 < opn then scan false (opn - 1) r parts
      else 40 := by
  have hs : skipL (c :: r) = c :: r := by unfold skipL; rw [List.dropWhile_cons_of_neg (by rw [hc]; simp)]
  unfold scan
  rw [scanN]
  rw [hs]
  simp only
  have e1 : ∀ w o p, isDigit c = true → scanN (c :: r).length w o ((c :: r).drop (run isDigit (c :: r))) p = scanN (((c :: r).drop (run isDigit (c :: r))).length + 1) w o ((c :: r).drop (run isDigit (c :: r))) p := fun w o p hd => by
    have := run_pos (r := r) hd
    exact scanN_more _ _ _ _ _ _ (by simp only [List.length_drop, List.length_cons]; omega) (by omega)
  have e2 : ∀ w o p, scanN (c :: r).length w o r p = scanN (r.length + 1) w o r p := fun w o p => rfl
  have e3 : ∀ w o p, 0 < rankB (opT (c :: r)) → scanN (c :: r).length w o ((c :: r).drop (opT (c :: r)).length) p = scanN (((c :: r).drop (opT (c :: r)).length).length + 1) w o ((c :: r).drop (opT (c :: r)).length) p := fun w o p hd => by
    have := rank_pos hd
    exact scanN_more _ _ _ _ _ _ (by simp only [List.length_drop, List.length_cons]; omega) (by omega)
  by_cases hd : isDigit c = true
  · by_cases hr : 0 < rankB (opT (c :: r))
    · simp only [e1 _ _ _ hd, e2, e3 _ _ _ hr, hd, hr, if_true]
    · simp only [e1 _ _ _ hd, e2, hd, hr, if_true, if_false]
  · by_cases hr : 0 < rankB (opT (c :: r))
    · simp only [e2, e3 _ _ _ hr, hr, if_true]
      simp only [hd, Bool.false_eq_true, if_false]
    · simp only [e2, hd, hr, Bool.false_eq_true, if_false]
/-! ### places in a text -/
theorem drop_cons {l : List UInt8} {k : Nat} {c : UInt8} (h : l[k]? = some c) : l.drop k = c :: l.drop (k + 1) := by
  obtain ⟨hk, e⟩ := List.getElem?_eq_some_iff.1 h
  rw [List.drop_eq_getElem_cons hk, e]
theorem skip_step {l : List UInt8} {k : Nat} (h : l[k]? = some 32) : skipL (l.drop k) = skipL (l.drop (k + 1)) := by
  rw [drop_cons h]
  unfold skipL
  rw [List.dropWhile_cons_of_pos (by simp)]
theorem skip_stop {l : List UInt8} {k : Nat} {c : UInt8} (h : l[k]? = some c) (hc : ¬ c = 32) : skipL (l.drop k) = l.drop k := by
  rw [drop_cons h]
  unfold skipL
  rw [List.dropWhile_cons_of_neg (by simpa using hc)]
theorem skip_end {l : List UInt8} : skipL (l.drop l.length) = [] := by
  rw [List.drop_length]
  rfl
theorem run_next {p : UInt8 → Bool} {c : UInt8} {r : List UInt8} (h : p c = true) : run p (c :: r) = run p r + 1 := by
  unfold run
  rw [List.takeWhile_cons_of_pos h]
  simp
theorem run_none {p : UInt8 → Bool} {c : UInt8} {r : List UInt8} (h : p c = false) : run p (c :: r) = 0 := by
  unfold run
  rw [List.takeWhile_cons_of_neg (by rw [h]; simp)]
  rfl
/-- n bytes are of the kind, and what is left begins with none. -/
theorem run_step {p : UInt8 → Bool} {l : List UInt8} {k n : Nat} {c : UInt8} (h : l[k + n]? = some c) (hp : p c = true) (hr : run p (l.drop k) = n + run p (l.drop (k + n))) : run p (l.drop k) = n + 1 + run p (l.drop (k + (n + 1))) := by
  rw [hr, drop_cons h, run_next hp]
  rw [show k + n + 1 = k + (n + 1) by omega]
  omega
theorem run_stop {p : UInt8 → Bool} {l : List UInt8} {k n : Nat} {c : UInt8} (h : l[k + n]? = some c) (hp : p c = false) (hr : run p (l.drop k) = n + run p (l.drop (k + n))) : run p (l.drop k) = n := by
  rw [hr, drop_cons h, run_none hp]
  rfl
theorem run_over {p : UInt8 → Bool} {l : List UInt8} {k n : Nat} (h : l.length ≤ k + n) (hr : run p (l.drop k) = n + run p (l.drop (k + n))) : run p (l.drop k) = n := by
  rw [hr, List.drop_eq_nil_of_le h]
  rfl
theorem opT_blank (r : List UInt8) (c : UInt8) (h : isDigit c = true ∨ isLetter c = true) : opT (c :: r) = [] := by
  have hc : c ∉ ones ∧ ∀ b, [c, b] ∉ twos := by
    constructor
    · intro hm
      unfold ones at hm
      simp only [List.mem_cons, List.not_mem_nil, or_false] at hm
      rcases hm with e | e | e | e | e | e | e | e | e | e <;> (subst e; revert h; decide)
    · intro b hm
      unfold twos at hm
      simp only [List.mem_cons, List.not_mem_nil, or_false, List.cons.injEq, and_true] at hm
      rcases hm with ⟨e, _⟩ | ⟨e, _⟩ | ⟨e, _⟩ | ⟨e, _⟩ | ⟨e, _⟩ | ⟨e, _⟩ <;> (subst e; revert h; decide)
  rcases r with _ | ⟨b, r⟩
  · simp [opT, hc.1]
  · simp [opT, hc.1, hc.2 b]
/-- what a word of signs is. -/
theorem opT_is (l : List UInt8) : opT l = [] ∨ (∃ c, c ∈ ones ∧ opT l = [c]) ∨ (∃ t, t ∈ twos ∧ opT l = t) := by
  rcases l with _ | ⟨a, _ | ⟨b, r⟩⟩
  · exact .inl rfl
  · by_cases h : a ∈ ones
    · exact .inr (.inl ⟨a, h, by simp [opT, h]⟩)
    · exact .inl (by simp [opT, h])
  · by_cases h2 : [a, b] ∈ twos
    · exact .inr (.inr ⟨_, h2, by simp [opT, h2]⟩)
    · by_cases h : a ∈ ones
      · exact .inr (.inl ⟨a, h, by simp [opT, h, h2]⟩)
      · exact .inl (by simp [opT, h, h2])
theorem opT_pre (l : List UInt8) : opT l = l.take (opT l).length := by
  rcases l with _ | ⟨a, _ | ⟨b, r⟩⟩
  · rfl
  · by_cases h : a ∈ ones <;> simp [opT, h]
  · by_cases h2 : [a, b] ∈ twos
    · simp [opT, h2]
    · by_cases h : a ∈ ones <;> simp [opT, h, h2]

/-! ### the machine, at what the reading by values does -/
/-- a number. -/
theorem scan_number {opn parts : Nat} {c : UInt8} {r : List UInt8} (hd : isDigit c = true) : scan true opn (c :: r) parts = if 18 < run isDigit (c :: r) then 40 else if 64 < parts + 1 then 5 else scan false opn ((c :: r).drop (run isDigit (c :: r))) (parts + 1) := by
  have h32 : (c == 32) = false := by
    rw [beq_eq_false_iff_ne]; intro e; subst e; revert hd; decide
  rw [scan_cons _ _ _ _ _ h32, if_pos rfl, if_pos hd]
theorem scan_name {opn parts : Nat} {c : UInt8} {r : List UInt8} (hl : isLetter c = true) : scan true opn (c :: r) parts = if run isLetter (c :: r) = 1 ∧ (c = 110 ∨ c = 116 ∨ c = 118) then (if 64 < parts + 1 then 5 else scan false opn r (parts + 1)) else 40 := by
  have h32 : (c == 32) = false := by
    rw [beq_eq_false_iff_ne]; intro e; subst e; revert hl; decide
  have hd : isDigit c = false := by
    rw [← Bool.not_eq_true]
    intro h
    unfold isDigit at h
    unfold isLetter at hl
    rw [decide_eq_true_eq] at h hl
    omega
  rw [scan_cons _ _ _ _ _ h32, if_pos rfl, if_neg (by rw [hd]; simp), if_pos hl]
theorem not_word {c : UInt8} {r : List UInt8} (hd : isDigit c = false) (hl : isLetter c = false) (hb : ¬ c = 32) (opn parts : Nat) : scan true opn (c :: r) parts =
    if opT (c :: r) = [45] ∨ opT (c :: r) = [33] then (if 64 < parts + 1 then 5 else scan true opn r (parts + 1)) else if opT (c :: r) = [40] then scan true (opn + 1) r parts else 40 := by
  rw [scan_cons _ _ _ _ _ (by simpa using hb), if_pos rfl, if_neg (by rw [hd]; simp), if_neg (by rw [hl]; simp)]
theorem scan_sign {c : UInt8} {r : List UInt8} (hd : isDigit c = false) (hl : isLetter c = false) (hb : ¬ c = 32) (h : opT (c :: r) = [45] ∨ opT (c :: r) = [33]) (opn parts : Nat) : scan true opn (c :: r) parts = if 64 < parts + 1 then 5 else scan true opn r (parts + 1) := by
  rw [not_word hd hl hb, if_pos h]
theorem scan_open {c : UInt8} {r : List UInt8} (hd : isDigit c = false) (hl : isLetter c = false) (hb : ¬ c = 32) (h : opT (c :: r) = [40]) (opn parts : Nat) : scan true opn (c :: r) parts = scan true (opn + 1) r parts := by
  rw [not_word hd hl hb, if_neg (by rw [h]; decide), if_pos h]
theorem scan_bad {c : UInt8} {r : List UInt8} (hd : isDigit c = false) (hl : isLetter c = false) (hb : ¬ c = 32) (h1 : ¬ opT (c :: r) = [45]) (h2 : ¬ opT (c :: r) = [33]) (h3 : ¬ opT (c :: r) = [40]) (opn parts : Nat) : scan true opn (c :: r) parts = 40 := by
  rw [not_word hd hl hb, if_neg (by rintro (h | h); exact h1 h; exact h2 h), if_neg h3]
/-- an operator between values. -/
theorem scan_binary {c : UInt8} {r : List UInt8} (hb : ¬ c = 32) (h : 0 < rankB (opT (c :: r))) (opn parts : Nat) : scan false opn (c :: r) parts = if 64 < parts + 1 then 5 else scan true opn ((c :: r).drop (opT (c :: r)).length) (parts + 1) := by
  rw [scan_cons _ _ _ _ _ (by simpa using hb), if_neg (by simp), if_pos h]
theorem scan_close {c : UInt8} {r : List UInt8} (hb : ¬ c = 32) (h : opT (c :: r) = [41]) (opn parts : Nat) : scan false (opn + 1) (c :: r) parts = scan false opn r parts := by
  rw [scan_cons _ _ _ _ _ (by simpa using hb), if_neg (by simp), if_neg (by rw [h]; decide), if_pos ⟨h, by omega⟩]
  rfl
theorem scan_stray {c : UInt8} {r : List UInt8} (hb : ¬ c = 32) (h : rankB (opT (c :: r)) = 0) (h2 : ¬ opT (c :: r) = [41]) (opn parts : Nat) : scan false opn (c :: r) parts = 40 := by
  rw [scan_cons _ _ _ _ _ (by simpa using hb), if_neg (by simp), if_neg (by omega), if_neg (by rintro ⟨h, _⟩; exact h2 h)]
theorem scan_over {c : UInt8} {r : List UInt8} (hb : ¬ c = 32) (h : rankB (opT (c :: r)) = 0) (parts : Nat) : scan false 0 (c :: r) parts = 40 := by
  rw [scan_cons _ _ _ _ _ (by simpa using hb), if_neg (by simp), if_neg (by omega), if_neg (by rintro ⟨_, h⟩; omega)]
end Go.Proofs.YtkjajlolfcioiaaGreatDoor.Scan
