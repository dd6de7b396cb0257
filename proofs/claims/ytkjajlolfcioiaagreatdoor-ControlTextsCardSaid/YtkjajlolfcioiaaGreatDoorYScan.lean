/- Expressions: which error a text has, by one pass over its words. No program here. -/
import Derived.KernelRfl
namespace Go.Proofs.YtkjajlolfcioiaaGreatDoor.Scan

def isDigit (c : UInt8) : Bool := decide (48 ≤ c.toNat ∧ c.toNat ≤ 57)
def isLetter (c : UInt8) : Bool := decide ((97 ≤ c.toNat ∧ c.toNat ≤ 122) ∨ (65 ≤ c.toNat ∧ c.toNat ≤ 90))
/-- how many bytes at the head are of a kind. -/
def run (p : UInt8 → Bool) (l : List UInt8) : Nat := (l.takeWhile p).length
def skipL (l : List UInt8) : List UInt8 := l.dropWhile (fun c => c == 32)
def twos : List (List UInt8) := [[124, 124], [38, 38], [61, 61], [33, 61], [60, 61], [62, 61]]
def ones : List UInt8 := [60, 62, 43, 45, 42, 47, 37, 33, 40, 41]
/-- the word of signs at the head. -/
def opT : List UInt8 → List UInt8
  | a :: b :: _ => if [a, b] ∈ twos then [a, b] else if a ∈ ones then [a] else []
  | [a] => if a ∈ ones then [a] else []
  | [] => []
/-- an operator's rank; 0: it is none. -/
def rankB (op : List UInt8) : Nat :=
  if op = [124, 124] then 1 else if op = [38, 38] then 2
  else if op = [61, 61] ∨ op = [33, 61] ∨ op = [60, 61] ∨ op = [62, 61] ∨ op = [60] ∨ op = [62] then 3
  else if op = [43] ∨ op = [45] then 4 else if op = [42] ∨ op = [47] ∨ op = [37] then 5 else 0

def scanN : Nat → Bool → Nat → List UInt8 → Nat → Int
  | 0, _, _, _, _ => 0
  | n + 1, wants, opn, l, parts =>
    match skipL l with
    | [] => if wants = true ∨ 0 < opn then 41 else 0
    | c :: r =>
      if wants = true then
        if isDigit c = true then (if 18 < run isDigit (c :: r) then 40 else if 64 < parts + 1 then 5 else scanN n false opn ((c :: r).drop (run isDigit (c :: r))) (parts + 1))
        else if isLetter c = true then (if run isLetter (c :: r) = 1 ∧ (c = 110 ∨ c = 116 ∨ c = 118) then (if 64 < parts + 1 then 5 else scanN n false opn r (parts + 1)) else 40)
        else if opT (c :: r) = [45] ∨ opT (c :: r) = [33] then (if 64 < parts + 1 then 5 else scanN n true opn r (parts + 1))
        else if opT (c :: r) = [40] then scanN n true (opn + 1) r parts
        else 40
      else if 0 < rankB (opT (c :: r)) then (if 64 < parts + 1 then 5 else scanN n true opn ((c :: r).drop (opT (c :: r)).length) (parts + 1))
      else if opT (c :: r) = [41] ∧ 0 < opn then scanN n false (opn - 1) r parts
      else 40

theorem skipL_length (l : List UInt8) : (skipL l).length ≤ l.length := by
  unfold skipL
  exact (List.dropWhile_suffix _).length_le
theorem run_pos {p : UInt8 → Bool} {c : UInt8} {r : List UInt8} (h : p c = true) : 0 < run p (c :: r) := by
  unfold run
  rw [List.takeWhile_cons_of_pos h]
  simp
theorem run_le (p : UInt8 → Bool) (l : List UInt8) : run p l ≤ l.length := by
  unfold run
  exact (List.takeWhile_prefix _).length_le
theorem rank_pos {op : List UInt8} (h : 0 < rankB op) : 0 < op.length := by
  rcases op with _ | ⟨c, op⟩
  · revert h; decide
  · simp
/-- more rounds than bytes: the same. -/
theorem scanN_more : ∀ (n m : Nat) (wants : Bool) (opn : Nat) (l : List UInt8) (parts : Nat), l.length < n → l.length < m → scanN n wants opn l parts = scanN m wants opn l parts := by
  intro n
  induction n with
  | zero => intro m wants opn l parts h; omega
  | succ n ih =>
    intro m wants opn l parts h1 h2
    obtain ⟨m, rfl⟩ : ∃ k, m = k + 1 := ⟨m - 1, by omega⟩
    unfold scanN
    have hs := skipL_length l
    rcases hk : skipL l with _ | ⟨c, r⟩
    · rfl
    · rw [hk] at hs
      simp only [List.length_cons] at hs
      simp only
      split
      · split
        · rename_i hd
          have := run_pos (r := r) hd
          split
          · rfl
          · split
            · rfl
            · exact ih m _ _ _ _ (by simp only [List.length_drop, List.length_cons]; omega) (by simp only [List.length_drop, List.length_cons]; omega)
        · split
          · split
            · split
              · rfl
              · exact ih m _ _ _ _ (by omega) (by omega)
            · rfl
          · split
            · split
              · rfl
              · exact ih m _ _ _ _ (by omega) (by omega)
            · split
              · exact ih m _ _ _ _ (by omega) (by omega)
              · rfl
      · split
        · rename_i hr
          have := rank_pos hr
          split
          · rfl
          · exact ih m _ _ _ _ (by simp only [List.length_drop, List.length_cons]; omega) (by simp only [List.length_drop, List.length_cons]; omega)
        · split
          · exact ih m _ _ _ _ (by omega) (by omega)
          · rfl

/-- the error of what is left of a text: is a value wanted? how much is open? how many parts were there? -/
def scan (wants : Bool) (opn : Nat) (l : List UInt8) (parts : Nat) : Int := scanN (l.length + 1) wants opn l parts
/-- a text's error. -/
def exprE (l : List UInt8) : Int := if 200 < l.length then 2 else scan true 0 l 0

theorem skipL_skipL (l : List UInt8) : skipL (skipL l) = skipL l := by
  unfold skipL
  rcases hk : l.dropWhile (fun c => c == 32) with _ | ⟨c, r⟩
  · rfl
  · have hc : (c == 32) = false := by
      have := List.head_dropWhile_not (p := fun c : UInt8 => c == 32) (l := l) (by rw [hk]; simp)
      simp only [hk, List.head_cons] at this
      exact this
    rw [List.dropWhile_cons_of_neg (by rw [hc]; simp)]
theorem scan_skip (wants : Bool) (opn : Nat) (l : List UInt8) (parts : Nat) : scan wants opn (skipL l) parts = scan wants opn l parts := by
  have h := skipL_length l
  unfold scan
  rw [scanN_more _ (l.length + 1) _ _ _ _ (by omega) (by omega)]
  unfold scanN
  rw [skipL_skipL]

/-- at a word. -/
theorem scan_end (wants : Bool) (opn : Nat) (parts : Nat) : scan wants opn [] parts = if wants = true ∨ 0 < opn then 41 else 0 := rfl
theorem scan_cons (wants : Bool) (opn : Nat) (c : UInt8) (r : List UInt8) (parts : Nat) (hc : (c == 32) = false) : scan wants opn (c :: r) parts =
      if wants = true then
        if isDigit c = true then (if 18 < run isDigit (c :: r) then 40 else if 64 < parts + 1 then 5 else scan false opn ((c :: r).drop (run isDigit (c :: r))) (parts + 1))
        else if isLetter c = true then (if run isLetter (c :: r) = 1 ∧ (c = 110 ∨ c = 116 ∨ c = 118) then (if 64 < parts + 1 then 5 else scan false opn r (parts + 1)) else 40)
        else if opT (c :: r) = [45] ∨ opT (c :: r) = [33] then (if 64 < parts + 1 then 5 else scan true opn r (parts + 1))
        else if opT (c :: r) = [40] then scan true (opn + 1) r parts
        else 40
      else if 0 < rankB (opT (c :: r)) then (if 64 < parts + 1 then 5 else scan true opn ((c :: r).drop (opT (c :: r)).length) (parts + 1))
      else if opT (c :: r) = [41] ∧ 0 < opn then scan false (opn - 1) r parts
      else 40 := by
  have hs : skipL (c :: r) = c :: r := by unfold skipL; rw [List.dropWhile_cons_of_neg (by rw [hc]; simp)]
  unfold scan
  rw [scanN]
  rw [hs]
  simp only
  have e1 : ∀ w o p, isDigit c = true → scanN (c :: r).length w o ((c :: r).drop (run isDigit (c :: r))) p = scanN (((c :: r).drop (run isDigit (c :: r))).length + 1) w o ((c :: r).drop (run isDigit (c :: r))) p := fun w o p hd => by
    have := run_pos (r := r) hd
    exact scanN_more _ _ _ _ _ _ (by simp only [List.length_drop, List.length_cons]; omega) (by omega)
  have e2 : ∀ w o p, scanN (c :: r).length w o r p = scanN (r.length + 1) w o r p := fun w o p => rfl
  have e3 : ∀ w o p, 0 < rankB (opT (c :: r)) → scanN (c :: r).length w o ((c :: r).drop (opT (c :: r)).length) p = scanN (((c :: r).drop (opT (c :: r)).length).length + 1) w o ((c :: r).drop (opT (c :: r)).length) p := fun w o p hd => by
    have := rank_pos hd
    exact scanN_more _ _ _ _ _ _ (by simp only [List.length_drop, List.length_cons]; omega) (by omega)
  by_cases hd : isDigit c = true
  · by_cases hr : 0 < rankB (opT (c :: r))
    · simp only [e1 _ _ _ hd, e2, e3 _ _ _ hr, hd, hr, if_true]
    · simp only [e1 _ _ _ hd, e2, hd, hr, if_true, if_false]
  · by_cases hr : 0 < rankB (opT (c :: r))
    · simp only [e2, e3 _ _ _ hr, hr, if_true]
      simp only [hd, Bool.false_eq_true, if_false]
    · simp only [e2, hd, hr, Bool.false_eq_true, if_false]
/-! ### places in a text -/
theorem drop_cons {l : List UInt8} {k : Nat} {c : UInt8} (h : l[k]? = some c) : l.drop k = c :: l.drop (k + 1) := by
  obtain ⟨hk, e⟩ := List.getElem?_eq_some_iff.1 h
  rw [List.drop_eq_getElem_cons hk, e]
theorem skip_step {l : List UInt8} {k : Nat} (h : l[k]? = some 32) : skipL (l.drop k) = skipL (l.drop (k + 1)) := by
  rw [drop_cons h]
  unfold skipL
  rw [List.dropWhile_cons_of_pos (by simp)]
theorem skip_stop {l : List UInt8} {k : Nat} {c : UInt8} (h : l[k]? = some c) (hc : ¬ c = 32) : skipL (l.drop k) = l.drop k := by
  rw [drop_cons h]
  unfold skipL
  rw [List.dropWhile_cons_of_neg (by simpa using hc)]
theorem skip_end {l : List UInt8} : skipL (l.drop l.length) = [] := by
  rw [List.drop_length]
  rfl
theorem run_next {p : UInt8 → Bool} {c : UInt8} {r : List UInt8} (h : p c = true) : run p (c :: r) = run p r + 1 := by
  unfold run
  rw [List.takeWhile_cons_of_pos h]
  simp
theorem run_none {p : UInt8 → Bool} {c : UInt8} {r : List UInt8} (h : p c = false) : run p (c :: r) = 0 := by
  unfold run
  rw [List.takeWhile_cons_of_neg (by rw [h]; simp)]
  rfl
/-- n bytes are of the kind, and what is left begins with none. -/
theorem run_step {p : UInt8 → Bool} {l : List UInt8} {k n : Nat} {c : UInt8} (h : l[k + n]? = some c) (hp : p c = true) (hr : run p (l.drop k) = n + run p (l.drop (k + n))) : run p (l.drop k) = n + 1 + run p (l.drop (k + (n + 1))) := by
  rw [hr, drop_cons h, run_next hp]
  rw [show k + n + 1 = k + (n + 1) by omega]
  omega
theorem run_stop {p : UInt8 → Bool} {l : List UInt8} {k n : Nat} {c : UInt8} (h : l[k + n]? = some c) (hp : p c = false) (hr : run p (l.drop k) = n + run p (l.drop (k + n))) : run p (l.drop k) = n := by
  rw [hr, drop_cons h, run_none hp]
  rfl
theorem run_over {p : UInt8 → Bool} {l : List UInt8} {k n : Nat} (h : l.length ≤ k + n) (hr : run p (l.drop k) = n + run p (l.drop (k + n))) : run p (l.drop k) = n := by
  rw [hr, List.drop_eq_nil_of_le h]
  rfl
theorem opT_blank (r : List UInt8) (c : UInt8) (h : isDigit c = true ∨ isLetter c = true) : opT (c :: r) = [] := by
  have hc : c ∉ ones ∧ ∀ b, [c, b] ∉ twos := by
    constructor
    · intro hm
      unfold ones at hm
      simp only [List.mem_cons, List.not_mem_nil, or_false] at hm
      rcases hm with e | e | e | e | e | e | e | e | e | e <;> (subst e; revert h; decide)
    · intro b hm
      unfold twos at hm
      simp only [List.mem_cons, List.not_mem_nil, or_false, List.cons.injEq, and_true] at hm
      rcases hm with ⟨e, _⟩ | ⟨e, _⟩ | ⟨e, _⟩ | ⟨e, _⟩ | ⟨e, _⟩ | ⟨e, _⟩ <;> (subst e; revert h; decide)
  rcases r with _ | ⟨b, r⟩
  · simp [opT, hc.1]
  · simp [opT, hc.1, hc.2 b]
/-- what a word of signs is. -/
theorem opT_is (l : List UInt8) : opT l = [] ∨ (∃ c, c ∈ ones ∧ opT l = [c]) ∨ (∃ t, t ∈ twos ∧ opT l = t) := by
  rcases l with _ | ⟨a, _ | ⟨b, r⟩⟩
  · exact .inl rfl
  · by_cases h : a ∈ ones
    · exact .inr (.inl ⟨a, h, by simp [opT, h]⟩)
    · exact .inl (by simp [opT, h])
  · by_cases h2 : [a, b] ∈ twos
    · exact .inr (.inr ⟨_, h2, by simp [opT, h2]⟩)
    · by_cases h : a ∈ ones
      · exact .inr (.inl ⟨a, h, by simp [opT, h, h2]⟩)
      · exact .inl (by simp [opT, h, h2])
theorem opT_pre (l : List UInt8) : opT l = l.take (opT l).length := by
  rcases l with _ | ⟨a, _ | ⟨b, r⟩⟩
  · rfl
  · by_cases h : a ∈ ones <;> simp [opT, h]
  · by_cases h2 : [a, b] ∈ twos
    · simp [opT, h2]
    · by_cases h : a ∈ ones <;> simp [opT, h, h2]

/-! ### the machine, at what the reading by values does -/
/-- a number. -/
theorem scan_number {opn parts : Nat} {c : UInt8} {r : List UInt8} (hd : isDigit c = true) : scan true opn (c :: r) parts = if 18 < run isDigit (c :: r) then 40 else if 64 < parts + 1 then 5 else scan false opn ((c :: r).drop (run isDigit (c :: r))) (parts + 1) := by
  have h32 : (c == 32) = false := by
    rw [beq_eq_false_iff_ne]; intro e; subst e; revert hd; decide
  rw [scan_cons _ _ _ _ _ h32, if_pos rfl, if_pos hd]
theorem scan_name {opn parts : Nat} {c : UInt8} {r : List UInt8} (hl : isLetter c = true) : scan true opn (c :: r) parts = if run isLetter (c :: r) = 1 ∧ (c = 110 ∨ c = 116 ∨ c = 118) then (if 64 < parts + 1 then 5 else scan false opn r (parts + 1)) else 40 := by
  have h32 : (c == 32) = false := by
    rw [beq_eq_false_iff_ne]; intro e; subst e; revert hl; decide
  have hd : isDigit c = false := by
    rw [← Bool.not_eq_true]
    intro h
    unfold isDigit at h
    unfold isLetter at hl
    rw [decide_eq_true_eq] at h hl
    omega
  rw [scan_cons _ _ _ _ _ h32, if_pos rfl, if_neg (by rw [hd]; simp), if_pos hl]
theorem not_word {c : UInt8} {r : List UInt8} (hd : isDigit c = false) (hl : isLetter c = false) (hb : ¬ c = 32) (opn parts : Nat) : scan true opn (c :: r) parts =
    if opT (c :: r) = [45] ∨ opT (c :: r) = [33] then (if 64 < parts + 1 then 5 else scan true opn r (parts + 1)) else if opT (c :: r) = [40] then scan true (opn + 1) r parts else 40 := by
  rw [scan_cons _ _ _ _ _ (by simpa using hb), if_pos rfl, if_neg (by rw [hd]; simp), if_neg (by rw [hl]; simp)]
theorem scan_sign {c : UInt8} {r : List UInt8} (hd : isDigit c = false) (hl : isLetter c = false) (hb : ¬ c = 32) (h : opT (c :: r) = [45] ∨ opT (c :: r) = [33]) (opn parts : Nat) : scan true opn (c :: r) parts = if 64 < parts + 1 then 5 else scan true opn r (parts + 1) := by
  rw [not_word hd hl hb, if_pos h]
theorem scan_open {c : UInt8} {r : List UInt8} (hd : isDigit c = false) (hl : isLetter c = false) (hb : ¬ c = 32) (h : opT (c :: r) = [40]) (opn parts : Nat) : scan true opn (c :: r) parts = scan true (opn + 1) r parts := by
  rw [not_word hd hl hb, if_neg (by rw [h]; decide), if_pos h]
theorem scan_bad {c : UInt8} {r : List UInt8} (hd : isDigit c = false) (hl : isLetter c = false) (hb : ¬ c = 32) (h1 : ¬ opT (c :: r) = [45]) (h2 : ¬ opT (c :: r) = [33]) (h3 : ¬ opT (c :: r) = [40]) (opn parts : Nat) : scan true opn (c :: r) parts = 40 := by
  rw [not_word hd hl hb, if_neg (by rintro (h | h); exact h1 h; exact h2 h), if_neg h3]
/-- an operator between values. -/
theorem scan_binary {c : UInt8} {r : List UInt8} (hb : ¬ c = 32) (h : 0 < rankB (opT (c :: r))) (opn parts : Nat) : scan false opn (c :: r) parts = if 64 < parts + 1 then 5 else scan true opn ((c :: r).drop (opT (c :: r)).length) (parts + 1) := by
  rw [scan_cons _ _ _ _ _ (by simpa using hb), if_neg (by simp), if_pos h]
theorem scan_close {c : UInt8} {r : List UInt8} (hb : ¬ c = 32) (h : opT (c :: r) = [41]) (opn parts : Nat) : scan false (opn + 1) (c :: r) parts = scan false opn r parts := by
  rw [scan_cons _ _ _ _ _ (by simpa using hb), if_neg (by simp), if_neg (by rw [h]; decide), if_pos ⟨h, by omega⟩]
  rfl
theorem scan_stray {c : UInt8} {r : List UInt8} (hb : ¬ c = 32) (h : rankB (opT (c :: r)) = 0) (h2 : ¬ opT (c :: r) = [41]) (opn parts : Nat) : scan false opn (c :: r) parts = 40 := by
  rw [scan_cons _ _ _ _ _ (by simpa using hb), if_neg (by simp), if_neg (by omega), if_neg (by rintro ⟨h, _⟩; exact h2 h)]
theorem scan_over {c : UInt8} {r : List UInt8} (hb : ¬ c = 32) (h : rankB (opT (c :: r)) = 0) (parts : Nat) : scan false 0 (c :: r) parts = 40 := by
  rw [scan_cons _ _ _ _ _ (by simpa using hb), if_neg (by simp), if_neg (by omega), if_neg (by rintro ⟨_, h⟩; omega)]
end Go.Proofs.YtkjajlolfcioiaaGreatDoor.Scan

/- Plans: what they are, and which error a plan has. No program here. -/
namespace Go.Proofs.YtkjajlolfcioiaaGreatDoor.Plan
open Go.Proofs.YtkjajlolfcioiaaGreatDoor.Scan

structure Top where
  name : ByteArray
  parts : Int
structure Stp where
  kind : Int
  text : ByteArray
  n : Int
structure Flw where
  name : ByteArray
  frm : ByteArray
  to : ByteArray
  bound : Int
  readers : Int
  keepers : Int
  pre : List Stp
  wk : Int
  ws : Int
  wl : Int
  agg : Int
  post : List Stp
structure Pln where
  tops : List Top
  flows : List Flw

def nameByte (c : UInt8) : Bool := decide ((97 ≤ c.toNat ∧ c.toNat ≤ 122) ∨ (48 ≤ c.toNat ∧ c.toNat ≤ 57) ∨ c.toNat = 45)
def nameOk (s : ByteArray) : Bool := decide (1 ≤ s.size ∧ s.size ≤ 16) && s.data.toList.all nameByte
/-- no blank at its ends. -/
def trimmed (s : ByteArray) : Bool := !(s.data.toList.head? == some 32) && !(s.data.toList.getLast? == some 32)
/-- a step's error. -/
def stepE (s : Stp) (post : Bool) : Int :=
  if s.kind = 1 ∨ s.kind = 2 then (if s.n = 0 ∧ trimmed s.text = true then exprE s.text.data.toList else 54)
  else if s.kind = 3 then (if post = false ∧ s.text.size = 0 ∧ 0 ≤ s.n ∧ s.n ≤ 16 then 0 else 54) else 54
/-- the first error of some steps. -/
def stepsE (l : List Stp) (post : Bool) : Int :=
  match l with
  | [] => 0
  | s :: r => if stepE s post = 0 then stepsE r post else stepE s post
/-- windows that may be, with what is told of them. -/
def WinOk (k s l a : Int) : Prop :=
  (k = 0 ∧ s = 0 ∧ l = 0 ∧ a = 0) ∨ ((k = 1 ∨ k = 3) ∧ 1 ≤ s ∧ s ≤ 1000000 ∧ l = 0 ∧ 1 ≤ a ∧ a ≤ 4) ∨ (k = 2 ∧ 1 ≤ s ∧ s ≤ 1000000 ∧ 1 ≤ l ∧ l ≤ s ∧ s ≤ 16 * l ∧ 1 ≤ a ∧ a ≤ 4)
instance (k s l a : Int) : Decidable (WinOk k s l a) := by unfold WinOk; infer_instance
/-- a topic's partitions; 0: there is no such topic. -/
def partsOf (l : List Top) (name : ByteArray) : Int :=
  match l with
  | [] => 0
  | t :: r => if t.name = name then t.parts else partsOf r name
/-- what is within a flow. -/
def innerE (parts : Int) (f : Flw) : Int :=
  if ¬ (-1 ≤ f.bound ∧ f.bound ≤ 1000000 ∧ 1 ≤ f.readers ∧ f.readers ≤ 8 ∧ f.readers ≤ parts ∧ 1 ≤ f.keepers ∧ f.keepers ≤ 8 ∧ WinOk f.wk f.ws f.wl f.agg) then 1
  else if 8 < f.pre.length ∨ 8 < f.post.length then 5
  else if f.wk = 0 ∧ f.post ≠ [] then 54
  else if stepsE f.pre false = 0 then stepsE f.post true else stepsE f.pre false
/-- the error of a flow behind others. -/
def flowE (p : Pln) (ahead : List Flw) (f : Flw) : Int :=
  if nameOk f.name = false then 51
  else if ∃ g ∈ ahead, g.name = f.name then 52
  else if ¬ (0 < partsOf p.tops f.frm ∧ partsOf p.tops f.to = 16 ∧ f.frm ≠ f.to ∧ ∀ g ∈ ahead, g.to ≠ f.to) then 53
  else if (∃ g ∈ p.flows, g.to = f.frm) ∧ f.bound ≠ -1 then 1
  else innerE (partsOf p.tops f.frm) f
def topE (ahead : List Top) (t : Top) : Int :=
  if nameOk t.name = false then 51 else if ∃ g ∈ ahead, g.name = t.name then 52 else if 1 ≤ t.parts ∧ t.parts ≤ 16 then 0 else 1
instance (l : List Flw) (P : Flw → Prop) [DecidablePred P] : Decidable (∃ g ∈ l, P g) := inferInstance
/-- the first error, from place k on. -/
def topsE : List Top → List Top → Int
  | _, [] => 0
  | ahead, t :: r => if topE ahead t = 0 then topsE (ahead ++ [t]) r else topE ahead t
def flowsE (p : Pln) : List Flw → List Flw → Int
  | _, [] => 0
  | ahead, f :: r => if flowE p ahead f = 0 then flowsE p (ahead ++ [f]) r else flowE p ahead f
/-- a plan's error. -/
def planE (p : Pln) : Int :=
  if 16 < p.tops.length ∨ 8 < p.flows.length then 5
  else if topsE [] p.tops = 0 then flowsE p [] p.flows else topsE [] p.tops
end Go.Proofs.YtkjajlolfcioiaaGreatDoor.Plan

/- Plans: the first error, place by place. No program here. -/
namespace Go.Proofs.YtkjajlolfcioiaaGreatDoor.Plan
open Go.Proofs.YtkjajlolfcioiaaGreatDoor.Scan

theorem bytes_eq {a b : ByteArray} (h : a.data.toList = b.data.toList) : a = b := by
  cases a; cases b
  simpa using h
/-- what the map of topics holds. -/
def partsG : List Top → List UInt8 → Option Int
  | [], _ => none
  | t :: r, s => if t.name.data.toList = s then some t.parts else partsG r s
theorem partsG_snoc (t : Top) (s : List UInt8) : ∀ (l : List Top), (∀ g ∈ l, g.name ≠ t.name) → partsG (l ++ [t]) s = if s = t.name.data.toList then some t.parts else partsG l s
  | [], _ => by
    show (if t.name.data.toList = s then some t.parts else none) = (if s = t.name.data.toList then some t.parts else none)
    by_cases h : t.name.data.toList = s
    · rw [if_pos h, if_pos h.symm]
    · rw [if_neg h, if_neg (fun e => h e.symm)]
  | x :: r, hn => by
    rw [List.cons_append, partsG, partsG, partsG_snoc t s r (fun g hg => hn g (List.mem_cons_of_mem _ hg))]
    by_cases h : x.name.data.toList = s
    · have hx : s ≠ t.name.data.toList := fun e => hn x List.mem_cons_self (bytes_eq (h.trans e))
      rw [if_pos h, if_pos h, if_neg hx]
    · rw [if_neg h, if_neg h]
theorem partsG_some (s : ByteArray) : ∀ (l : List Top), (partsG l s.data.toList).isSome = true ↔ ∃ g ∈ l, g.name = s
  | [] => by simp [partsG]
  | x :: r => by
    rw [partsG]
    by_cases h : x.name = s
    · rw [if_pos (by rw [h])]
      simp [h]
    · rw [if_neg (fun e => h (bytes_eq e)), partsG_some s r]
      simp [h]
theorem partsG_get (s : ByteArray) : ∀ (l : List Top), (partsG l s.data.toList).getD 0 = partsOf l s
  | [] => rfl
  | x :: r => by
    rw [partsG, partsOf]
    by_cases h : x.name = s
    · rw [if_pos (by rw [h]), if_pos h]
      rfl
    · rw [if_neg (fun e => h (bytes_eq e)), if_neg h, partsG_get s r]
theorem topsE_at (t : Top) : ∀ (l ahead : List Top) (k : Nat), topsE ahead (l.take k) = 0 → l[k]? = some t → topE (ahead ++ l.take k) t ≠ 0 → topsE ahead l = topE (ahead ++ l.take k) t
  | [], _, _, _, h, _ => by simp at h
  | x :: r, ahead, 0, _, h, hn => by
    obtain rfl : x = t := by simpa using h
    simp only [List.take_zero, List.append_nil] at hn ⊢
    rw [topsE, if_neg hn]
  | x :: r, ahead, k + 1, h0, h, hn => by
    rw [List.take_succ_cons, topsE] at h0
    by_cases hx : topE ahead x = 0
    · rw [if_pos hx] at h0
      rw [topsE, if_pos hx]
      have := topsE_at t r (ahead ++ [x]) k h0 (by simpa using h) (by simpa using hn)
      rw [this]
      simp
    · rw [if_neg hx] at h0
      exact absurd h0 hx
theorem topsE_next (t : Top) : ∀ (l ahead : List Top) (k : Nat), topsE ahead (l.take k) = 0 → l[k]? = some t → topE (ahead ++ l.take k) t = 0 → topsE ahead (l.take (k + 1)) = 0
  | [], _, _, _, h, _ => by simp at h
  | x :: r, ahead, 0, _, h, hn => by
    obtain rfl : x = t := by simpa using h
    simp only [List.take_zero, List.append_nil] at hn
    simp [topsE, hn]
  | x :: r, ahead, k + 1, h0, h, hn => by
    rw [List.take_succ_cons, topsE] at h0 ⊢
    by_cases hx : topE ahead x = 0
    · rw [if_pos hx] at h0 ⊢
      exact topsE_next t r (ahead ++ [x]) k h0 (by simpa using h) (by simpa using hn)
    · rw [if_neg hx] at h0
      exact absurd h0 hx
theorem flowsE_at (p : Pln) (t : Flw) : ∀ (l ahead : List Flw) (k : Nat), flowsE p ahead (l.take k) = 0 → l[k]? = some t → flowE p (ahead ++ l.take k) t ≠ 0 → flowsE p ahead l = flowE p (ahead ++ l.take k) t
  | [], _, _, _, h, _ => by simp at h
  | x :: r, ahead, 0, _, h, hn => by
    obtain rfl : x = t := by simpa using h
    simp only [List.take_zero, List.append_nil] at hn ⊢
    rw [flowsE, if_neg hn]
  | x :: r, ahead, k + 1, h0, h, hn => by
    rw [List.take_succ_cons, flowsE] at h0
    by_cases hx : flowE p ahead x = 0
    · rw [if_pos hx] at h0
      rw [flowsE, if_pos hx]
      have := flowsE_at p t r (ahead ++ [x]) k h0 (by simpa using h) (by simpa using hn)
      rw [this]
      simp
    · rw [if_neg hx] at h0
      exact absurd h0 hx
theorem flowsE_next (p : Pln) (t : Flw) : ∀ (l ahead : List Flw) (k : Nat), flowsE p ahead (l.take k) = 0 → l[k]? = some t → flowE p (ahead ++ l.take k) t = 0 → flowsE p ahead (l.take (k + 1)) = 0
  | [], _, _, _, h, _ => by simp at h
  | x :: r, ahead, 0, _, h, hn => by
    obtain rfl : x = t := by simpa using h
    simp only [List.take_zero, List.append_nil] at hn
    simp [flowsE, hn]
  | x :: r, ahead, k + 1, h0, h, hn => by
    rw [List.take_succ_cons, flowsE] at h0 ⊢
    by_cases hx : flowE p ahead x = 0
    · rw [if_pos hx] at h0 ⊢
      exact flowsE_next p t r (ahead ++ [x]) k h0 (by simpa using h) (by simpa using hn)
    · rw [if_neg hx] at h0
      exact absurd h0 hx
/-- how often a topic is written. -/
def wrote (l : List Flw) (s : List UInt8) : Nat := (l.filter (fun g => decide (g.to.data.toList = s))).length
def wroteG (l : List Flw) (s : List UInt8) : Option Int := if wrote l s = 0 then none else some (wrote l s)
theorem wroteG_get (l : List Flw) (s : List UInt8) : (wroteG l s).getD 0 = wrote l s := by
  unfold wroteG
  by_cases h : wrote l s = 0
  · rw [if_pos h, h]; rfl
  · rw [if_neg h]; rfl
theorem wrote_le (l : List Flw) (s : List UInt8) : wrote l s ≤ l.length := List.length_filter_le _ _
theorem wrote_snoc (l : List Flw) (f : Flw) (s : List UInt8) : wrote (l ++ [f]) s = if s = f.to.data.toList then wrote l s + 1 else wrote l s := by
  unfold wrote
  rw [List.filter_append, List.length_append]
  by_cases h : f.to.data.toList = s
  · rw [if_pos h.symm]
    simp [h]
  · rw [if_neg (fun e => h e.symm)]
    simp [h]
theorem wrote_zero (l : List Flw) (s : ByteArray) : wrote l s.data.toList = 0 ↔ ¬ ∃ g ∈ l, g.to = s := by
  unfold wrote
  rw [List.length_eq_zero_iff, List.filter_eq_nil_iff]
  constructor
  · rintro h ⟨g, hg, e⟩
    exact h g hg (by rw [e]; simp)
  · intro h g hg e
    exact h ⟨g, hg, bytes_eq (by simpa using e)⟩
end Go.Proofs.YtkjajlolfcioiaaGreatDoor.Plan

/- Layer 21 in plain words: what managers agree on, command by command. No program here. -/
namespace Go.Proofs.YtkjajlolfcioiaaGreatDoor.Ctl
open Go.Proofs.YtkjajlolfcioiaaGreatDoor.Scan Go.Proofs.YtkjajlolfcioiaaGreatDoor.Plan

structure Cmd where
  kind : Int
  flow : Int
  att : Int
  num : Int
  wk : Int
  rd : Int
  kp : Int
  parts : List (Int × Int)
structure Jb where
  att : Int
  rd : Int
  kp : Int
  done : Int
  num : Int
  next : Int
  places : List Int
  acked : List (Int × Int)
structure Ct where
  tops : List Top
  flows : List Flw
  lives : Int → Int
  jobs : List Jb

/-- the workers that are there. -/
def liveL (lv : Int → Int) : List Int := ([1, 2, 3, 4, 5, 6] : List Int).filter (fun w => decide (0 < lv w))
/-- where the n readers and keepers of an attempt are. -/
def placesOf (live : List Int) (a n : Int) : List Int := if live = [] then [] else (List.range n.toNat).map fun k : Nat => live.getD (((k : Int) + a) % live.length).toNat 0
/-- a new attempt (attempts and numbers stay far below the limit: JobOk). -/
def beginJ (live : List Int) (j : Jb) : Jb :=
  { j with att := j.att + 1, num := 0, acked := [], places := placesOf live (j.att + 1) (j.rd + j.kp) }
def startJ (live : List Int) (j : Jb) : Jb × Int := if 0 < j.att then (j, 52) else (beginJ live j, 0)
def failJ (live : List Int) (x : Cmd) (j : Jb) : Jb × Int := if j.att = 0 ∨ x.att ≠ j.att ∨ j.places = [] then (j, 210) else (beginJ live j, 0)
/-- a plan of which one flow has other readers and keepers. -/
def scaled (fl : List Flw) (i : Nat) (rd kp : Int) : List Flw := fl.modify i fun f => { f with readers := rd, keepers := kp }
def scaleJ (tops : List Top) (fl : List Flw) (live : List Int) (x : Cmd) (j : Jb) : Jb × Int :=
  if planE ⟨tops, scaled fl x.flow.toNat x.rd x.kp⟩ ≠ 0 then (j, 1)
  else if 0 < j.att then (beginJ live { j with rd := x.rd, kp := x.kp }, 0) else ({ j with rd := x.rd, kp := x.kp }, 0)
def triggerJ (j : Jb) : Jb × Int :=
  if j.places = [] then (j, 6) else if j.num ≠ 0 then (j, 211) else ({ j with num := j.next, acked := [], next := j.next + 1 }, 0)
def giveJ (x : Cmd) (j : Jb) : Jb × Int := if j.num = 0 ∨ x.num ≠ j.num then (j, 210) else ({ j with num := 0, acked := [] }, 0)
/-- parts that may be, of a flow that reads so many partitions. -/
def PartOk (parts : Int) (p : Int × Int) : Prop := (p.1 = 1 ∧ 0 ≤ p.2 ∧ p.2 < parts) ∨ (p.1 = 2 ∧ 0 ≤ p.2 ∧ p.2 < 16)
instance (parts : Int) (p : Int × Int) : Decidable (PartOk parts p) := by unfold PartOk; infer_instance
/-- the parts' order. -/
def PLt (a b : Int × Int) : Prop := a.1 < b.1 ∨ (a.1 = b.1 ∧ a.2 < b.2)
instance (a b : Int × Int) : Decidable (PLt a b) := by unfold PLt; infer_instance
def insP (p : Int × Int) : List (Int × Int) → List (Int × Int)
  | [] => [p]
  | x :: r => if PLt p x then p :: x :: r else if p = x then x :: r else x :: insP p r
def addP (l news : List (Int × Int)) : List (Int × Int) := news.foldl (fun l p => insP p l) l
def ackJ (parts : Int) (x : Cmd) (j : Jb) : Jb × Int :=
  if j.places = [] ∨ x.att ≠ j.att ∨ x.num ≠ j.num ∨ j.num = 0 then (j, 210)
  else if ∃ p ∈ x.parts, ¬ PartOk parts p then (j, 1)
  else if ((addP j.acked x.parts).length : Int) = parts + 16 then ({ j with done := j.num, num := 0, acked := [] }, 0)
  else ({ j with acked := addP j.acked x.parts }, 0)
/-- how many partitions a flow reads. -/
def partsAt (c : Ct) (i : Nat) : Int := match c.flows[i]? with | some f => partsOf c.tops f.frm | none => 0
/-- what a command does to the job that it names. -/
def jobDo (c : Ct) (x : Cmd) (j : Jb) : Jb × Int :=
  if x.kind = 3 then startJ (liveL c.lives) j
  else if x.kind = 4 then failJ (liveL c.lives) x j
  else if x.kind = 5 then scaleJ c.tops c.flows (liveL c.lives) x j
  else if x.kind = 6 then triggerJ j
  else if x.kind = 7 then ackJ (partsAt c x.flow.toNat) x j
  else giveJ x j
def setLife (lv : Int → Int) (w n : Int) : Int → Int := fun x => if x = w then n else lv x
/-- a worker came or went: the jobs behind it. -/
def moved (old : Int) (w : Int) (live : List Int) (j : Jb) : Jb :=
  if 0 < old then (if w ∈ j.places then beginJ live j else j) else (if 0 < j.att ∧ j.places = [] then beginJ live j else j)
def workerE (c : Ct) (x : Cmd) : Int :=
  if x.wk < 1 ∨ 6 < x.wk ∨ x.num < 1 ∨ 1000000000 < x.num then 1
  else if x.kind = 1 then (if x.num ≤ c.lives x.wk then 52 else 0)
  else if c.lives x.wk = 0 then 6 else if c.lives x.wk ≠ x.num then 210 else 0
def livesDo (c : Ct) (x : Cmd) : Int → Int := setLife c.lives x.wk (if x.kind = 1 then x.num else 0)
def workerC (c : Ct) (x : Cmd) : Ct × Int :=
  if workerE c x ≠ 0 then (c, workerE c x)
  else ({ c with lives := livesDo c x, jobs := c.jobs.map (moved (c.lives x.wk) x.wk (liveL (livesDo c x))) }, 0)
/-- a command. -/
def doC (c : Ct) (x : Cmd) : Ct × Int :=
  if x.kind = 1 ∨ x.kind = 2 then workerC c x
  else if x.kind < 3 ∨ 8 < x.kind ∨ x.flow < 0 then (c, 1)
  else match c.jobs[x.flow.toNat]? with
    | none => (c, 1)
    | some j => ({ c with jobs := c.jobs.set x.flow.toNat (jobDo c x j).1 }, (jobDo c x j).2)
/-- at the beginning. -/
def newC (tops : List Top) (fl : List Flw) : Ct := ⟨tops, fl, fun _ => 0, fl.map fun f => ⟨0, f.readers, f.keepers, 0, 0, 1, [], []⟩⟩

/-! ### what holds behind n commands -/
structure JobOk (n : Int) (j : Jb) : Prop where
  att : 0 ≤ j.att ∧ j.att ≤ n
  rd : 1 ≤ j.rd ∧ j.rd ≤ 8
  kp : 1 ≤ j.kp ∧ j.kp ≤ 8
  next : 1 ≤ j.next ∧ j.next ≤ n + 1
  done : 0 ≤ j.done ∧ j.done < j.next
  num : 0 ≤ j.num ∧ j.num < j.next
  run : j.num ≠ 0 → j.places ≠ []
  ahead : j.num ≠ 0 → j.done < j.num
  att0 : j.att = 0 → j.places = []
  sorted : j.acked.Pairwise PLt
  parts : ∀ p ∈ j.acked, PartOk 16 p
  idle : j.num = 0 → j.acked = []
  len : j.places = [] ∨ (j.places.length : Int) = j.rd + j.kp
structure CtOk (n : Int) (c : Ct) : Prop where
  plan : planE ⟨c.tops, c.flows⟩ = 0
  len : c.jobs.length = c.flows.length
  lives : ∀ w, 0 ≤ c.lives w ∧ c.lives w ≤ 1000000000
  out : ∀ w, w < 1 ∨ 6 < w → c.lives w = 0
  jobs : ∀ j ∈ c.jobs, JobOk n j ∧ (∀ w ∈ j.places, w ∈ liveL c.lives) ∧ (j.places = [] ↔ j.att = 0 ∨ liveL c.lives = [])

theorem liveL_mem {lv : Int → Int} {w : Int} : w ∈ liveL lv ↔ (1 ≤ w ∧ w ≤ 6) ∧ 0 < lv w := by
  unfold liveL
  rw [List.mem_filter]
  simp only [List.mem_cons, List.not_mem_nil, or_false, decide_eq_true_eq]
  constructor
  · rintro ⟨h, h2⟩
    exact ⟨by omega, h2⟩
  · rintro ⟨h, h2⟩
    exact ⟨by omega, h2⟩
theorem placesOf_mem {live : List Int} {a n w : Int} (h : w ∈ placesOf live a n) : w ∈ live := by
  unfold placesOf at h
  split at h
  · cases h
  · rename_i hl
    obtain ⟨k, -, rfl⟩ := List.mem_map.1 h
    have hpos : 0 < live.length := List.length_pos_iff.2 hl
    have h1 := Int.emod_nonneg ((k : Int) + a) (show (live.length : Int) ≠ 0 by omega)
    have h2 := Int.emod_lt_of_pos ((k : Int) + a) (show (0 : Int) < live.length by omega)
    have h3 : (((k : Int) + a) % live.length).toNat < live.length := by omega
    rw [List.getD_eq_getElem?_getD, List.getElem?_eq_getElem h3]
    exact List.getElem_mem h3
theorem placesOf_len {live : List Int} {a n : Int} (h : live ≠ []) (hn : 0 ≤ n) : ((placesOf live a n).length : Int) = n := by
  unfold placesOf
  rw [if_neg h, List.length_map, List.length_range]
  omega
theorem placesOf_nil {live : List Int} {a n : Int} (hn : 0 < n) : placesOf live a n = [] ↔ live = [] := by
  constructor
  · intro h
    by_cases hl : live = []
    · exact hl
    · have := placesOf_len (a := a) hl (by omega : 0 ≤ n)
      rw [h] at this
      simp at this
      omega
  · intro h
    unfold placesOf
    rw [if_pos h]

theorem insP_mem (p q : Int × Int) : ∀ l : List (Int × Int), q ∈ insP p l ↔ q = p ∨ q ∈ l
  | [] => by simp [insP]
  | x :: r => by
    rw [insP]
    split
    · simp
    · split
      · rename_i h
        subst h
        simp
      · rw [List.mem_cons, insP_mem p q r, List.mem_cons]
        constructor
        · rintro (h | h | h) <;> simp [h]
        · rintro (h | h | h) <;> simp [h]
theorem addP_mem (q : Int × Int) : ∀ (news l : List (Int × Int)), q ∈ addP l news ↔ q ∈ l ∨ q ∈ news
  | [], l => by simp [addP]
  | p :: r, l => by
    show q ∈ addP (insP p l) r ↔ _
    rw [addP_mem q r, insP_mem, List.mem_cons]
    constructor
    · rintro ((h | h) | h) <;> simp [h]
    · rintro (h | h | h) <;> simp [h]
theorem PLt.trans {a b c : Int × Int} (h : PLt a b) (k : PLt b c) : PLt a c := by
  unfold PLt at *
  omega
theorem PLt.tri (a b : Int × Int) : PLt a b ∨ a = b ∨ PLt b a := by
  unfold PLt
  obtain ⟨a1, a2⟩ := a
  obtain ⟨b1, b2⟩ := b
  simp only [Prod.mk.injEq]
  omega
theorem PLt.irrefl (a : Int × Int) : ¬ PLt a a := by
  unfold PLt
  omega
theorem insP_sorted (p : Int × Int) : ∀ l : List (Int × Int), l.Pairwise PLt → (insP p l).Pairwise PLt
  | [], _ => by simp [insP]
  | x :: r, h => by
    obtain ⟨h1, h2⟩ := List.pairwise_cons.1 h
    rw [insP]
    split
    · rename_i hp
      refine List.pairwise_cons.2 ⟨fun y hy => ?_, h⟩
      rcases List.mem_cons.1 hy with rfl | hy
      · exact hp
      · exact hp.trans (h1 y hy)
    · split
      · exact h
      · rename_i hp hx
        refine List.pairwise_cons.2 ⟨fun y hy => ?_, insP_sorted p r h2⟩
        rcases (insP_mem p y r).1 hy with rfl | hy
        · rcases PLt.tri y x with h | h | h
          · exact absurd h hp
          · exact absurd h hx
          · exact h
        · exact h1 y hy
theorem addP_sorted : ∀ (news l : List (Int × Int)), l.Pairwise PLt → (addP l news).Pairwise PLt
  | [], _, h => h
  | p :: r, l, h => addP_sorted r (insP p l) (insP_sorted p l h)
/-- two rising lists of the same parts are one. -/
theorem sorted_same : ∀ (a b : List (Int × Int)), a.Pairwise PLt → b.Pairwise PLt → (∀ q, q ∈ a ↔ q ∈ b) → a = b
  | [], [], _, _, _ => rfl
  | [], y :: s, _, _, h => by have := (h y).2 List.mem_cons_self; cases this
  | x :: r, [], _, _, h => by have := (h x).1 List.mem_cons_self; cases this
  | x :: r, y :: s, ha, hb, h => by
    obtain ⟨h1, h2⟩ := List.pairwise_cons.1 ha
    obtain ⟨k1, k2⟩ := List.pairwise_cons.1 hb
    have hxy : x = y := by
      rcases List.mem_cons.1 ((h x).1 List.mem_cons_self) with e | e
      · exact e
      · rcases List.mem_cons.1 ((h y).2 List.mem_cons_self) with f | f
        · exact f.symm
        · exact absurd ((h1 y f).trans (k1 x e)) (PLt.irrefl x)
    subst hxy
    rw [sorted_same r s h2 k2 fun q => ?_]
    constructor
    · intro hq
      rcases List.mem_cons.1 ((h q).1 (List.mem_cons_of_mem _ hq)) with e | e
      · subst e
        exact absurd (h1 q hq) (PLt.irrefl q)
      · exact e
    · intro hq
      rcases List.mem_cons.1 ((h q).2 (List.mem_cons_of_mem _ hq)) with e | e
      · subst e
        exact absurd (k1 q hq) (PLt.irrefl q)
      · exact e
end Go.Proofs.YtkjajlolfcioiaaGreatDoor.Ctl
