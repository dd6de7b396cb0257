/- Graphs of flows: orders, what is ahead. No program here. -/
import Derived.Test.YtkjajlolfcioiaaGreatDoorYScan
namespace Go.Proofs.YtkjajlolfcioiaaGreatDoor.Plan

/-- the last flow that writes a topic. -/
def lastGo (s : List UInt8) : List Flw → Nat → Option Int → Option Int
  | [], _, x => x
  | f :: r, i, x => lastGo s r (i + 1) (if s = f.to.data.toList then some (i : Int) else x)
def lastG (l : List Flw) (s : List UInt8) : Option Int := lastGo s l 0 none
theorem lastGo_snoc (s : List UInt8) (f : Flw) : ∀ (l : List Flw) (i : Nat) (x : Option Int), lastGo s (l ++ [f]) i x = if s = f.to.data.toList then some ((i + l.length : Nat) : Int) else lastGo s l i x
  | [], i, x => by simp [lastGo]
  | g :: r, i, x => by
    rw [List.cons_append, lastGo, lastGo_snoc s f r, lastGo]
    rw [show i + 1 + r.length = i + (g :: r).length by simp; omega]
theorem lastG_snoc (s : List UInt8) (f : Flw) (l : List Flw) : lastG (l ++ [f]) s = if s = f.to.data.toList then some (l.length : Int) else lastG l s := by
  unfold lastG
  rw [lastGo_snoc]
  simp
theorem lastGo_bd (s : List UInt8) : ∀ (l : List Flw) (i : Nat) (x : Option Int), (∀ v, x = some v → 0 ≤ v ∧ v < i) → ∀ v, lastGo s l i x = some v → 0 ≤ v ∧ v < (i + l.length : Nat)
  | [], i, x, h, v, e => by simpa using h v e
  | g :: r, i, x, h, v, e => by
    rw [lastGo] at e
    have := lastGo_bd s r (i + 1) _ (fun u hu => by
      split at hu
      · obtain rfl := Option.some.inj hu; constructor <;> omega
      · have := h u hu; constructor <;> omega) v e
    simp only [List.length_cons]
    constructor <;> omega
/-- for each flow the one that writes what it reads, or -1. -/
def edgesL (l : List Flw) : List Int := l.map fun f => (lastG l f.frm.data.toList).getD (-1)
theorem edgesL_length (l : List Flw) : (edgesL l).length = l.length := by simp [edgesL]
def EdgesOk (F : List Int) : Prop := ∀ x ∈ F, -1 ≤ x ∧ x < F.length
theorem edgesL_ok (l : List Flw) : EdgesOk (edgesL l) := by
  intro x hx
  unfold edgesL at hx
  obtain ⟨f, _, rfl⟩ := List.mem_map.1 hx
  rw [edgesL_length]
  rcases h : lastG l f.frm.data.toList with _ | v
  · simp; omega
  · have := lastGo_bd f.frm.data.toList l 0 none (by simp) v h
    simp at this ⊢
    omega

/-! ### orders -/
/-- the first flow that is not told and hangs on none that is untold. -/
def free (F out : List Int) (i : Nat) : Bool := !(out.contains (i : Int)) && (F.getD i (-1) == -1 || out.contains (F.getD i (-1)))
def pick (F out : List Int) : Option Nat := (List.range F.length).find? (free F out)
def orderGo (F : List Int) : Nat → List Int → List Int
  | 0, out => out
  | n + 1, out => match pick F out with | none => out | some i => orderGo F n (out ++ [(i : Int)])
def orderL (F : List Int) : List Int := orderGo F F.length []
theorem pick_some {F out : List Int} {i : Nat} (h : pick F out = some i) : i < F.length ∧ (i : Int) ∉ out ∧ (F.getD i (-1) = -1 ∨ F.getD i (-1) ∈ out) := by
  unfold pick at h
  have h1 := List.find?_some h
  have h2 := List.mem_of_find?_eq_some h
  unfold free at h1
  simp only [Bool.and_eq_true, Bool.not_eq_true', Bool.or_eq_true, beq_iff_eq, List.contains_iff_mem] at h1
  refine ⟨by simpa using h2, ?_, h1.2⟩
  intro hm
  have := h1.1
  rw [List.contains_iff_mem.2 hm] at this
  cases this
theorem pick_none {F out : List Int} (h : pick F out = none) (i : Nat) (hi : i < F.length) (hn : (i : Int) ∉ out) : F.getD i (-1) ≠ -1 ∧ F.getD i (-1) ∉ out := by
  unfold pick at h
  have h1 := List.find?_eq_none.1 h i (by simpa using hi)
  unfold free at h1
  simp only [Bool.and_eq_true, Bool.not_eq_true', Bool.or_eq_true, beq_iff_eq, List.contains_iff_mem, not_and, not_or] at h1
  exact h1 (by
    rcases hc : out.contains (i : Int) with _ | _
    · rfl
    · exact absurd (List.contains_iff_mem.1 hc) hn)
/-- what an order is, as far as it goes. -/
structure Ordered (F out : List Int) : Prop where
  nodup : out.Nodup
  range : ∀ x ∈ out, 0 ≤ x ∧ x < F.length
  behind : ∀ (p : Nat) (x : Int), out[p]? = some x → F.getD x.toNat (-1) = -1 ∨ F.getD x.toNat (-1) ∈ out.take p
theorem Ordered.nil (F : List Int) : Ordered F [] := ⟨List.nodup_nil, by simp, by simp⟩
theorem Ordered.snoc {F out : List Int} (h : Ordered F out) {i : Nat} (hp : pick F out = some i) : Ordered F (out ++ [(i : Int)]) := by
  obtain ⟨h1, h2, h3⟩ := pick_some hp
  refine ⟨List.nodup_append.2 ⟨h.nodup, by simp, ?_⟩, ?_, ?_⟩
  · intro a ha b hb e
    simp only [List.mem_singleton] at hb
    subst hb e
    exact h2 ha
  · intro x hx
    rcases List.mem_append.1 hx with hx | hx
    · exact h.range x hx
    · simp only [List.mem_singleton] at hx
      subst hx
      omega
  · intro p x hx
    rcases Nat.lt_or_ge p out.length with hlt | hge
    · rw [List.getElem?_append_left hlt] at hx
      rw [List.take_append_of_le_length (by omega)]
      exact h.behind p x hx
    · rw [List.getElem?_append_right hge] at hx
      have hp0 : p - out.length = 0 := by
        rcases hk : p - out.length with _ | k
        · rfl
        · rw [hk] at hx; simp at hx
      rw [hp0] at hx
      obtain rfl : (i : Int) = x := by simpa using hx
      have hpe : p = out.length := by omega
      subst hpe
      rw [List.take_append_of_le_length (by omega), List.take_length]
      simpa using h3
theorem filter_two (p : Int → Bool) : ∀ l : List Int, l.length = (l.filter p).length + (l.filter (fun x => !p x)).length
  | [] => rfl
  | x :: r => by
    have := filter_two p r
    cases h : p x <;> simp [h] <;> omega
theorem nodup_len : ∀ (n : Nat) (l : List Int), l.Nodup → (∀ x ∈ l, 0 ≤ x ∧ x < n) → l.length ≤ n
  | 0, l, _, h => by
    rcases l with _ | ⟨x, r⟩
    · simp
    · have := h x (by simp); omega
  | n + 1, l, hd, h => by
    have h1 : (l.filter (fun x => x ≠ (n : Int))).length ≤ n := nodup_len n _ (hd.filter _) (fun x hx => by
      simp only [List.mem_filter, ne_eq, decide_not, Bool.not_eq_eq_eq_not, Bool.not_true, decide_eq_false_iff_not] at hx
      have := h x hx.1
      omega)
    have h2 : (l.filter (fun x => !decide (x ≠ (n : Int)))).length ≤ 1 := by
      have hs : ∀ x ∈ l.filter (fun x => !decide (x ≠ (n : Int))), x = (n : Int) := by simp
      have hn := hd.filter (fun x => !decide (x ≠ (n : Int)))
      rcases hf : l.filter (fun x => !decide (x ≠ (n : Int))) with _ | ⟨a, _ | ⟨b, r⟩⟩
      · simp
      · simp
      · rw [hf] at hs hn
        have ha := hs a (by simp)
        have hb := hs b (by simp)
        exact absurd (by rw [ha, hb]; simp) (List.nodup_cons.1 hn).1
    have h3 := filter_two (fun x => decide (x ≠ (n : Int))) l
    omega
theorem all_len : ∀ (n : Nat) (l : List Int), (∀ i : Nat, i < n → (i : Int) ∈ l) → n ≤ l.length
  | 0, _, _ => Nat.zero_le _
  | n + 1, l, h => by
    have h1 := all_len n (l.filter (fun x => decide (x ≠ (n : Int)))) (fun i hi => List.mem_filter.2 ⟨h i (by omega), by simp; omega⟩)
    have h2 : (l.filter (fun x => decide (x ≠ (n : Int)))).length < l.length := by
      rw [List.length_filter_lt_length_iff_exists]
      exact ⟨(n : Int), h n (by omega), by simp⟩
    omega
theorem Ordered.len {F out : List Int} (h : Ordered F out) : out.length ≤ F.length := nodup_len _ _ h.nodup h.range
/-- the order's end: nothing is free. -/
theorem orderGo_end {F : List Int} : ∀ (n : Nat) (out : List Int), Ordered F out → F.length ≤ n + out.length → Ordered F (orderGo F n out) ∧ pick F (orderGo F n out) = none
  | 0, out, h, hn => by
    refine ⟨h, ?_⟩
    rcases hp : pick F out with _ | i
    · exact hp
    · have := (h.snoc hp).len
      simp at this
      omega
  | n + 1, out, h, hn => by
    rw [orderGo]
    rcases hp : pick F out with _ | i
    · exact ⟨h, hp⟩
    · exact orderGo_end n _ (h.snoc hp) (by simp; omega)
theorem orderL_is (F : List Int) : Ordered F (orderL F) ∧ pick F (orderL F) = none := orderGo_end _ _ (Ordered.nil F) (by simp)
/-- one round more. -/
theorem orderGo_more {F : List Int} : ∀ (n : Nat) (out : List Int), pick F out = none → orderGo F n out = out
  | 0, _, _ => rfl
  | n + 1, out, h => by rw [orderGo, h]
theorem orderGo_enough {F : List Int} : ∀ (n m : Nat) (out : List Int), Ordered F out → F.length ≤ n + out.length → F.length ≤ m + out.length → orderGo F n out = orderGo F m out
  | 0, m, out, h, hn, _ => by
    have := (orderGo_end 0 out h hn).2
    rw [orderGo_more m out this]
    rfl
  | n + 1, 0, out, h, _, hm => by
    have := (orderGo_end 0 out h hm).2
    rw [orderGo_more (n + 1) out this]
    rfl
  | n + 1, m + 1, out, h, hn, hm => by
    rw [orderGo, orderGo]
    rcases hp : pick F out with _ | i
    · rfl
    · exact orderGo_enough n m _ (h.snoc hp) (by simp; omega) (by simp; omega)

/-! ### ahead and behind -/
def hop (F : List Int) (i : Int) : Int := if 0 ≤ i then F.getD i.toNat (-1) else -1
def hops (F : List Int) : Nat → Int → Int
  | 0, i => i
  | m + 1, i => hop F (hops F m i)
/-- a flow hangs on k. -/
def Hangs (F : List Int) (i k : Int) : Prop := 0 ≤ k ∧ ∃ m, hops F (m + 1) i = k
theorem hops_add (F : List Int) (a : Nat) (i : Int) : ∀ b, hops F (a + b) i = hops F b (hops F a i)
  | 0 => rfl
  | b + 1 => by
    show hop F (hops F (a + b) i) = hop F (hops F b (hops F a i))
    rw [hops_add F a i b]
theorem hop_neg {F : List Int} {i : Int} (h : i < 0) : hop F i = -1 := by unfold hop; rw [if_neg (by omega)]
theorem hops_neg {F : List Int} : ∀ {m : Nat} {i : Int}, i < 0 → hops F m i < 0
  | 0, _, h => h
  | m + 1, i, h => by
    show hop F (hops F m i) < 0
    rw [hop_neg (hops_neg h)]
    decide
theorem getD_mem {F : List Int} {i : Nat} (h : i < F.length) : F.getD i (-1) ∈ F := by
  rw [List.getD_eq_getElem?_getD, List.getElem?_eq_getElem h]
  exact List.getElem_mem h
theorem hop_lt {F : List Int} (hF : EdgesOk F) (i : Int) (hn : 0 < F.length) : hop F i < F.length := by
  unfold hop
  split
  · rcases Nat.lt_or_ge i.toNat F.length with h | h
    · exact (hF _ (getD_mem h)).2
    · rw [List.getD_eq_getElem?_getD, List.getElem?_eq_none h]; simp; omega
  · omega
theorem pigeon : ∀ (n : Nat) (f : Nat → Nat), (∀ m, m ≤ n → f m < n) → ∃ a b, a < b ∧ b ≤ n ∧ f a = f b
  | 0, f, h => by have := h 0 (Nat.le_refl _); omega
  | n + 1, f, h => by
    by_cases hx : ∃ a, a ≤ n ∧ f a = f (n + 1)
    · obtain ⟨a, ha, e⟩ := hx
      exact ⟨a, n + 1, by omega, Nat.le_refl _, e⟩
    · have hne : ∀ a, a ≤ n → f a ≠ f (n + 1) := fun a ha e => hx ⟨a, ha, e⟩
      have hl := h (n + 1) (Nat.le_refl _)
      obtain ⟨a, b, hab, hb, e⟩ := pigeon n (fun m => if f m < f (n + 1) then f m else f m - 1) (fun m hm => by
        have h1 := h m (by omega)
        have h2 := hne m hm
        show (if f m < f (n + 1) then f m else f m - 1) < n
        split <;> omega)
      refine ⟨a, b, hab, by omega, ?_⟩
      have h1 := hne a (by omega)
      have h2 := hne b hb
      have e2 : (if f a < f (n + 1) then f a else f a - 1) = (if f b < f (n + 1) then f b else f b - 1) := e
      split at e2 <;> split at e2 <;> omega
/-- where an order stops short, some flow hangs on itself. -/
theorem short_loop {F : List Int} (hF : EdgesOk F) (hs : (orderL F).length < F.length) : ∃ i : Nat, i < F.length ∧ Hangs F i i := by
  obtain ⟨hO, hp⟩ := orderL_is F
  -- some flow is not told
  have hex : ∃ i : Nat, i < F.length ∧ (i : Int) ∉ orderL F := by
    apply Decidable.byContradiction
    intro hno
    have hall : ∀ i : Nat, i < F.length → (i : Int) ∈ orderL F := fun i hi => Decidable.byContradiction fun h => hno ⟨i, hi, h⟩
    have := all_len F.length (orderL F) hall
    omega
  obtain ⟨i, hi, hn⟩ := hex
  have hstep : ∀ x : Nat, x < F.length → (x : Int) ∉ orderL F → ∃ y : Nat, y < F.length ∧ (y : Int) ∉ orderL F ∧ hop F x = y := by
    intro x hx hxn
    obtain ⟨h1, h2⟩ := pick_none hp x hx hxn
    have h3 := hF _ (getD_mem hx)
    refine ⟨(F.getD x (-1)).toNat, by omega, ?_, ?_⟩
    · rw [Int.toNat_of_nonneg (by omega)]; exact h2
    · unfold hop
      rw [if_pos (by omega), Int.toNat_natCast, Int.toNat_of_nonneg (by omega)]
  have hall : ∀ m, ∃ y : Nat, y < F.length ∧ (y : Int) ∉ orderL F ∧ hops F m i = y := by
    intro m
    induction m with
    | zero => exact ⟨i, hi, hn, rfl⟩
    | succ m ih =>
      obtain ⟨y, h1, h2, h3⟩ := ih
      obtain ⟨z, q1, q2, q3⟩ := hstep y h1 h2
      exact ⟨z, q1, q2, by show hop F (hops F m i) = z; rw [h3, q3]⟩
  obtain ⟨a, b, hab, _, e⟩ := pigeon F.length (fun m => (hops F m i).toNat) (fun m _ => by
    obtain ⟨y, h1, _, h3⟩ := hall m
    show (hops F m i).toNat < F.length
    rw [h3]
    simpa using h1)
  obtain ⟨ya, h1, _, h3⟩ := hall a
  obtain ⟨yb, _, _, h4⟩ := hall b
  have e2 : (hops F a i).toNat = (hops F b i).toNat := e
  rw [h3, h4] at e2
  have hyy : ya = yb := by simpa using e2
  refine ⟨ya, h1, by omega, b - a - 1, ?_⟩
  rw [show b - a - 1 + 1 = b - a by omega, ← h3, ← hops_add, show a + (b - a) = b by omega, h4, h3, hyy]
/-- in an order, what is ahead stands ahead. -/
theorem ahead_take {F out : List Int} (h : Ordered F out) : ∀ (p : Nat) (x : Int), out[p]? = some x → ∀ m k, 0 ≤ k → hops F (m + 1) x = k → k ∈ out.take p := by
  intro p
  induction p using Nat.strongRecOn with
  | _ p ih =>
    intro x hx m k hk0 hk
    have hx0 := (h.range x (List.mem_of_getElem? hx)).1
    have hfirst : hop F x = F.getD x.toNat (-1) := by unfold hop; rw [if_pos hx0]
    have hk2 : hops F m (hop F x) = k := by
      have := hops_add F 1 x m
      rw [show 1 + m = m + 1 by omega, hk] at this
      exact this.symm
    rcases h.behind p x hx with hm1 | hin
    · rw [hfirst, hm1] at hk2
      have := hops_neg (F := F) (m := m) (i := -1) (by decide)
      omega
    · rw [hfirst] at hk2
      obtain ⟨q, hq, hqe⟩ := List.mem_iff_getElem.1 hin
      have hql : q < p := by
        have := hq
        rw [List.length_take] at this
        omega
      have hqe2 : out[q]? = some (F.getD x.toNat (-1)) := by
        rw [List.getElem_take] at hqe
        rw [List.length_take] at hq
        rw [List.getElem?_eq_getElem (by omega), hqe]
      rcases m with _ | m
      · have : F.getD x.toNat (-1) = k := hk2
        rw [← this]
        exact hin
      · have := ih q hql _ hqe2 m k hk0 hk2
        exact (List.take_subset_take_left out (by omega)) this
/-- a whole order: no flow hangs on itself. -/
theorem whole_free {F : List Int} (hw : (orderL F).length = F.length) (i : Nat) (hi : i < F.length) : ¬ Hangs F i i := by
  rintro ⟨h0, m, hm⟩
  obtain ⟨hO, hp⟩ := orderL_is F
  have hin : (i : Int) ∈ orderL F := by
    apply Decidable.byContradiction
    intro hn
    have hnd : (orderL F ++ [(i : Int)]).Nodup := List.nodup_append.2 ⟨hO.nodup, by simp, fun a ha b hb e => by
      simp only [List.mem_singleton] at hb
      subst hb e
      exact hn ha⟩
    have := nodup_len F.length _ hnd (fun x hx => by
      rcases List.mem_append.1 hx with hx | hx
      · exact hO.range x hx
      · simp only [List.mem_singleton] at hx
        subst hx
        omega)
    simp at this
    omega
  obtain ⟨p, hp1, hp2⟩ := List.mem_iff_getElem.1 hin
  have hpe : (orderL F)[p]? = some (i : Int) := by rw [List.getElem?_eq_getElem hp1, hp2]
  have h1 := ahead_take hO p _ hpe m i h0 hm
  obtain ⟨q, hq1, hq2⟩ := List.mem_iff_getElem.1 h1
  rw [List.length_take] at hq1
  rw [List.getElem_take] at hq2
  have := List.pairwise_iff_getElem.1 hO.nodup q p (by omega) hp1 (by omega)
  exact this (hq2.trans hp2.symm)
/-! ### the order, as it is reckoned -/
/-- the edges, those that are told struck out. -/
def struck (F out : List Int) : List Int := (List.range F.length).map fun i : Nat => if (i : Int) ∈ out then -2 else F.getD i (-1)
theorem struck_length (F out : List Int) : (struck F out).length = F.length := by simp [struck]
theorem struck_get (F out : List Int) (i : Nat) (h : i < F.length) : (struck F out)[i]? = some (if (i : Int) ∈ out then -2 else F.getD i (-1)) := by
  unfold struck
  rw [List.getElem?_map, List.getElem?_range h]
  rfl
theorem struck_nil (F : List Int) : struck F [] = F := by
  apply List.ext_getElem?
  intro i
  rcases Nat.lt_or_ge i F.length with h | h
  · rw [struck_get F [] i h, if_neg (by simp), List.getD_eq_getElem?_getD, List.getElem?_eq_getElem h]
    rfl
  · rw [List.getElem?_eq_none (by rw [struck_length]; exact h), List.getElem?_eq_none h]
theorem struck_snoc (F out : List Int) (i : Nat) : struck F (out ++ [(i : Int)]) = (struck F out).set i (-2) := by
  apply List.ext_getElem?
  intro j
  rcases Nat.lt_or_ge j F.length with h | h
  · rw [struck_get _ _ j h, List.getElem?_set, struck_length]
    by_cases e : i = j
    · subst e
      simp [h]
    · rw [if_neg e, struck_get _ _ j h]
      have : ¬ (j : Int) = (i : Int) := by omega
      simp [this]
  · rw [List.getElem?_eq_none (by rw [struck_length]; exact h), List.getElem?_eq_none (by rw [List.length_set, struck_length]; exact h)]
/-- is an edge's end told? -/
def told (out : List Int) (x : Int) : Bool := decide (x ≠ -2 ∧ x ∈ [-1] ++ out)
theorem told_free {F out : List Int} (hF : EdgesOk F) (i : Nat) (h : i < F.length) : told out (if (i : Int) ∈ out then -2 else F.getD i (-1)) = free F out i := by
  have h1 := hF _ (getD_mem h)
  unfold told free
  by_cases hm : (i : Int) ∈ out
  · simp [hm]
  · rw [if_neg hm, Bool.eq_iff_iff, decide_eq_true_eq, Bool.and_eq_true, Bool.or_eq_true, Bool.not_eq_true', beq_iff_eq, List.contains_iff_mem]
    have hc : out.contains (i : Int) = false := by
      rcases hq : out.contains (i : Int) with _ | _
      · rfl
      · exact absurd (List.contains_iff_mem.1 hq) hm
    constructor
    · rintro ⟨_, h2⟩
      refine ⟨hc, ?_⟩
      rcases List.mem_append.1 h2 with h2 | h2
      · exact .inl (by simpa using h2)
      · exact .inr h2
    · rintro ⟨_, h2⟩
      exact ⟨by omega, List.mem_append.2 (h2.imp (fun e => by rw [e]; exact List.mem_singleton.2 rfl) id)⟩
theorem range_idx (q : Nat → Bool) : ∀ n, (List.range n).findIdx? q = (List.range n).find? q := by
  intro n
  induction n with
  | zero => rfl
  | succ n ih =>
    rw [List.range_succ, List.findIdx?_append, List.find?_append, ih]
    rcases h : (List.range n).find? q with _ | i
    · cases hq : q n <;> simp [List.findIdx?_cons, hq]
    · simp
theorem struck_pick {F out : List Int} (hF : EdgesOk F) : (struck F out).findIdx? (told out) = pick F out := by
  unfold struck pick
  rw [List.findIdx?_map]
  rw [← range_idx]
  have : ∀ (l : List Nat), (∀ i ∈ l, i < F.length) → l.findIdx? (told out ∘ fun i : Nat => if (i : Int) ∈ out then -2 else F.getD i (-1)) = l.findIdx? (free F out) := by
    intro l
    induction l with
    | nil => intro _; rfl
    | cons i r ih =>
      intro h
      rw [List.findIdx?_cons, List.findIdx?_cons, ih (fun j hj => h j (List.mem_cons_of_mem _ hj))]
      show (if told out (if (i : Int) ∈ out then -2 else F.getD i (-1)) = true then _ else _) = _
      rw [told_free hF i (h i List.mem_cons_self)]
  exact this _ (fun i hi => List.mem_range.1 hi)
theorem order_step {F out : List Int} (hO : Ordered F out) (h : orderGo F (F.length - out.length) out = orderL F) {i : Nat} (hp : pick F out = some i) : orderGo F (F.length - (out ++ [(i : Int)]).length) (out ++ [(i : Int)]) = orderL F := by
  have hl := (hO.snoc hp).len
  rw [List.length_append] at hl
  simp only [List.length_cons, List.length_nil] at hl
  rw [← h]
  rw [show F.length - out.length = (F.length - (out ++ [(i : Int)]).length) + 1 by simp; omega, orderGo, hp]
theorem order_last {F out : List Int} (h : orderGo F (F.length - out.length) out = orderL F) (hp : pick F out = none) : out = orderL F := by
  rw [← h, orderGo_more _ _ hp]
end Go.Proofs.YtkjajlolfcioiaaGreatDoor.Plan

/- Layer 21 in plain words: what holds behind each command. No program here. -/
namespace Go.Proofs.YtkjajlolfcioiaaGreatDoor.Ctl
open Go.Proofs.YtkjajlolfcioiaaGreatDoor.Scan Go.Proofs.YtkjajlolfcioiaaGreatDoor.Plan

theorem topsE_all : ∀ (l ahead : List Top), topsE ahead l = 0 → ∀ t ∈ l, 1 ≤ t.parts ∧ t.parts ≤ 16
  | [], _, _, t, h => by cases h
  | x :: r, ahead, h, t, ht => by
    rw [topsE] at h
    by_cases hx : topE ahead x = 0
    · rw [if_pos hx] at h
      rcases List.mem_cons.1 ht with rfl | ht
      · unfold topE at hx
        split at hx
        · cases hx
        · split at hx
          · cases hx
          · split at hx
            · assumption
            · cases hx
      · exact topsE_all r _ h t ht
    · rw [if_neg hx] at h
      exact absurd h hx
theorem partsOf_le : ∀ (l : List Top) (s : ByteArray), (∀ t ∈ l, 1 ≤ t.parts ∧ t.parts ≤ 16) → 0 ≤ partsOf l s ∧ partsOf l s ≤ 16
  | [], _, _ => by simp [partsOf]
  | x :: r, s, h => by
    rw [partsOf]
    split
    · have := h x List.mem_cons_self
      omega
    · exact partsOf_le r s fun t ht => h t (List.mem_cons_of_mem _ ht)
theorem flowsE_all (p : Pln) : ∀ (l ahead : List Flw), flowsE p ahead l = 0 → ∀ f ∈ l, ∃ ah, flowE p ah f = 0
  | [], _, _, f, h => by cases h
  | x :: r, ahead, h, f, hf => by
    rw [flowsE] at h
    by_cases hx : flowE p ahead x = 0
    · rw [if_pos hx] at h
      rcases List.mem_cons.1 hf with rfl | hf
      · exact ⟨_, hx⟩
      · exact flowsE_all p r _ h f hf
    · rw [if_neg hx] at h
      exact absurd h hx
structure FlowOk (tops : List Top) (f : Flw) : Prop where
  parts : 1 ≤ partsOf tops f.frm ∧ partsOf tops f.frm ≤ 16
  rd : 1 ≤ f.readers ∧ f.readers ≤ 8
  kp : 1 ≤ f.keepers ∧ f.keepers ≤ 8
theorem plan_flow {tops : List Top} {fl : List Flw} (h : planE ⟨tops, fl⟩ = 0) : ∀ f ∈ fl, FlowOk tops f := by
  intro f hf
  unfold planE at h
  split at h
  · cases h
  · split at h
    · rename_i h0
      have hp := partsOf_le tops f.frm (topsE_all _ _ h0)
      obtain ⟨ah, hx⟩ := flowsE_all _ _ _ h f hf
      unfold flowE at hx
      split at hx
      · cases hx
      · split at hx
        · cases hx
        · split at hx
          · cases hx
          · rename_i h3
            split at hx
            · cases hx
            · unfold innerE at hx
              split at hx
              · cases hx
              · rename_i h4
                have h4 := Decidable.not_not.1 h4
                have h3 := Decidable.not_not.1 h3
                exact ⟨⟨by have := h3.1; show (1 : Int) ≤ _; exact this, hp.2⟩, ⟨h4.2.2.1, h4.2.2.2.1⟩, ⟨h4.2.2.2.2.2.1, h4.2.2.2.2.2.2.1⟩⟩
    · rename_i h0
      exact absurd h h0
theorem plan_len {tops : List Top} {fl : List Flw} (h : planE ⟨tops, fl⟩ = 0) : tops.length ≤ 16 ∧ fl.length ≤ 8 := by
  unfold planE at h
  split at h
  · cases h
  · rename_i h0
    simp only at h0
    omega
theorem scaled_ok {tops : List Top} {fl : List Flw} {i : Nat} {rd kp : Int} (hi : i < fl.length) (h : planE ⟨tops, scaled fl i rd kp⟩ = 0) : (1 ≤ rd ∧ rd ≤ 8) ∧ 1 ≤ kp ∧ kp ≤ 8 := by
  have hm : ({ fl[i] with readers := rd, keepers := kp } : Flw) ∈ scaled fl i rd kp := by
    refine List.mem_iff_getElem.2 ⟨i, by simpa [scaled] using hi, ?_⟩
    simp [scaled]
  have := plan_flow h _ hm
  exact ⟨this.rd, this.kp⟩

theorem JobOk.mono {n m : Int} {j : Jb} (h : JobOk n j) (hm : n ≤ m) : JobOk m j :=
  { h with att := ⟨h.att.1, by have := h.att.2; omega⟩, next := ⟨h.next.1, by have := h.next.2; omega⟩ }
theorem beginJ_ok {n : Int} {j : Jb} {live : List Int} (h : JobOk n j) : JobOk (n + 1) (beginJ live j) where
  att := ⟨by have := h.att.1; show 0 ≤ j.att + 1; omega, by have := h.att.2; show j.att + 1 ≤ n + 1; omega⟩
  rd := h.rd
  kp := h.kp
  next := ⟨h.next.1, by have := h.next.2; show j.next ≤ _; omega⟩
  done := h.done
  num := ⟨Int.le_refl _, by have := h.next.1; show (0 : Int) < j.next; omega⟩
  run e := absurd rfl e
  ahead e := absurd rfl e
  att0 e := by have := h.att.1; have e2 : j.att + 1 = 0 := e; omega
  sorted := List.Pairwise.nil
  parts p hp := by cases hp
  idle _ := rfl
  len := by
    have := h.rd
    have := h.kp
    by_cases hl : live = []
    · exact .inl ((placesOf_nil (by omega)).2 hl)
    · exact .inr (placesOf_len hl (by omega))
/-- a job under a command: what may have come of it. -/
structure StepOk (n : Int) (live : List Int) (a j : Jb) : Prop where
  ok : JobOk (n + 1) j
  rises : a.att ≤ j.att ∧ a.next ≤ j.next ∧ a.done ≤ j.done
  done : a.done < j.done → j.done = a.num ∧ j.att = a.att
  num : j.num ≠ 0 → j.num ≠ a.num → j.num = a.next ∧ j.next = a.next + 1 ∧ a.num = 0
  places : j.places = a.places ∧ (j.att = a.att) ∨ (j.att = a.att + 1 ∧ j.places = placesOf live j.att (j.rd + j.kp))
theorem StepOk.same {n : Int} {live : List Int} {a : Jb} (h : JobOk n a) : StepOk n live a a :=
  ⟨h.mono (by omega), ⟨Int.le_refl _, Int.le_refl _, Int.le_refl _⟩, fun e => by omega, fun _ e => absurd rfl e, .inl ⟨rfl, rfl⟩⟩
theorem StepOk.begun {n : Int} {live : List Int} {a : Jb} (h : JobOk n a) : StepOk n live a (beginJ live a) :=
  ⟨beginJ_ok h, ⟨by show a.att ≤ a.att + 1; omega, Int.le_refl _, Int.le_refl _⟩, fun e => by have : a.done < a.done := e; omega, fun e => absurd rfl e, .inr ⟨rfl, rfl⟩⟩
theorem JobOk.sized {n : Int} {j : Jb} (h : JobOk n j) {rd kp : Int} (h1 : 1 ≤ rd ∧ rd ≤ 8) (h2 : 1 ≤ kp ∧ kp ≤ 8) (h0 : j.att = 0) : JobOk n { j with rd := rd, kp := kp } :=
  { h with rd := h1, kp := h2, len := .inl (h.att0 h0) }
theorem jobDo_ok {n : Int} {c : Ct} {x : Cmd} {j : Jb} {i : Nat} (hc : CtOk n c) (hi : x.flow.toNat = i) (hj : c.jobs[i]? = some j) : StepOk n (liveL c.lives) j (jobDo c x j).1 := by
  obtain ⟨h, hp, hq⟩ := hc.jobs j (List.mem_of_getElem? hj)
  have hil : i < c.flows.length := by rw [← hc.len]; exact (List.getElem?_eq_some_iff.1 hj).1
  unfold jobDo
  split
  · unfold startJ
    split
    · exact .same h
    · exact .begun h
  split
  · unfold failJ
    split
    · exact .same h
    · exact .begun h
  split
  · unfold scaleJ
    split
    · exact .same h
    · rename_i h5
      have h5 := Decidable.not_not.1 h5
      rw [hi] at h5
      obtain ⟨s1, s2⟩ := scaled_ok hil h5
      split
      · have h' : JobOk n { j with rd := x.rd, kp := x.kp, places := [], num := 0, acked := [] } :=
          { h with rd := s1, kp := s2, run := fun e => absurd rfl e, ahead := fun e => absurd rfl e, att0 := fun _ => rfl, len := .inl rfl, num := ⟨Int.le_refl _, by have := h.next.1; show (0 : Int) < j.next; omega⟩, idle := fun _ => rfl, sorted := List.Pairwise.nil, parts := fun p hp => by cases hp }
        have := StepOk.begun (live := liveL c.lives) h'
        exact ⟨this.ok, this.rises, fun e => by have : j.done < j.done := e; omega, fun e => absurd rfl e, .inr ⟨rfl, rfl⟩⟩
      · rename_i h0
        have := h.att.1
        have h' := h.sized s1 s2 (by omega)
        have := StepOk.same (live := liveL c.lives) h'
        exact ⟨this.ok, this.rises, this.done, this.num, .inl ⟨rfl, rfl⟩⟩
  split
  · unfold triggerJ
    split
    · exact .same h
    · split
      · exact .same h
      · rename_i h1 h2
        have h2 := Decidable.not_not.1 h2
        have := h.next
        have := h.done
        refine ⟨{ h with next := ⟨?_, ?_⟩, att := ⟨h.att.1, ?_⟩, done := ⟨h.done.1, ?_⟩, num := ⟨?_, ?_⟩, run := fun _ => h1, ahead := fun _ => by have := h.done.2; exact this, idle := fun _ => rfl, sorted := List.Pairwise.nil, parts := fun p hp => by cases hp }, ⟨Int.le_refl _, ?_, Int.le_refl _⟩, fun e => ?_, fun _ _ => ⟨rfl, rfl, h2⟩, .inl ⟨rfl, rfl⟩⟩
        all_goals simp only at *
        all_goals first | omega | (have := h.att.2; omega)
  split
  · unfold ackJ
    split
    · exact .same h
    · split
      · exact .same h
      · rename_i h1 h2
        have h3 : ¬ j.num = 0 := fun e => h1 (.inr (.inr (.inr e)))
        have hf : ∃ f, c.flows[i]? = some f := ⟨_, List.getElem?_eq_getElem hil⟩
        obtain ⟨f, hf⟩ := hf
        have hfo := plan_flow hc.plan f (List.mem_of_getElem? hf)
        have hpa : partsAt c x.flow.toNat ≤ 16 := by
          unfold partsAt
          rw [hi, hf]
          exact hfo.parts.2
        have := h.num
        have := h.next
        have := h.att
        split
        · refine ⟨{ h with att := ⟨h.att.1, ?_⟩, next := ⟨h.next.1, ?_⟩, done := ⟨?_, ?_⟩, num := ⟨Int.le_refl _, ?_⟩, run := fun e => absurd rfl e, ahead := fun e => absurd rfl e, idle := fun _ => rfl, sorted := List.Pairwise.nil, parts := fun p hp => by cases hp }, ⟨Int.le_refl _, Int.le_refl _, ?_⟩, fun _ => ⟨rfl, rfl⟩, fun e => absurd rfl e, .inl ⟨rfl, rfl⟩⟩
          all_goals simp only at *
          all_goals first | omega | (have := h.ahead h3; omega)
        · refine ⟨{ h with att := ⟨h.att.1, ?_⟩, next := ⟨h.next.1, ?_⟩, idle := fun e => absurd e h3, sorted := addP_sorted _ _ h.sorted, parts := fun p hp => ?_ }, ⟨Int.le_refl _, Int.le_refl _, Int.le_refl _⟩, fun e => ?_, fun _ e => absurd rfl e, .inl ⟨rfl, rfl⟩⟩
          all_goals simp only at *
          all_goals first | omega | skip
          rcases (addP_mem p _ _).1 hp with hp | hp
          · exact h.parts p hp
          · have := Decidable.not_not.1 (fun e => h2 ⟨p, hp, e⟩)
            unfold PartOk at this ⊢
            omega
  · unfold giveJ
    split
    · exact .same h
    · refine ⟨{ h with att := ⟨h.att.1, ?_⟩, next := ⟨h.next.1, ?_⟩, num := ⟨Int.le_refl _, ?_⟩, run := fun e => absurd rfl e, ahead := fun e => absurd rfl e, idle := fun _ => rfl, sorted := List.Pairwise.nil, parts := fun p hp => by cases hp }, ⟨Int.le_refl _, Int.le_refl _, Int.le_refl _⟩, fun e => ?_, fun e => absurd rfl e, .inl ⟨rfl, rfl⟩⟩
      all_goals simp only at *
      all_goals first | omega | (have := h.att.2; omega) | (have := h.next; omega)
theorem jobDo_err {c : Ct} {x : Cmd} {j : Jb} (h : (jobDo c x j).2 ≠ 0) : (jobDo c x j).1 = j := by
  unfold jobDo startJ failJ scaleJ triggerJ ackJ giveJ at *
  repeat' split
  all_goals simp_all
theorem doC_tops (c : Ct) (x : Cmd) : (doC c x).1.tops = c.tops ∧ (doC c x).1.flows = c.flows := by
  unfold doC workerC
  repeat' split
  all_goals exact ⟨rfl, rfl⟩
theorem JobAt_places {n : Int} {live : List Int} {a j : Jb} (h : StepOk n live a j) (ha : JobOk n a) (hp : (∀ w ∈ a.places, w ∈ live) ∧ (a.places = [] ↔ a.att = 0 ∨ live = [])) : (∀ w ∈ j.places, w ∈ live) ∧ (j.places = [] ↔ j.att = 0 ∨ live = []) := by
  rcases h.places with ⟨e1, e2⟩ | ⟨e1, e2⟩
  · rw [e1, e2]
    exact hp
  · have := ha.att
    have := h.ok.rd
    have := h.ok.kp
    rw [e2]
    refine ⟨fun w hw => placesOf_mem hw, (placesOf_nil (by omega)).trans ⟨.inr, fun e => e.elim (fun e => by omega) id⟩⟩
/-- behind a command. -/
structure DoneOk (n : Int) (c c' : Ct) (e : Int) : Prop where
  ok : CtOk (n + 1) c'
  len : c'.jobs.length = c.jobs.length
  step : ∀ (i : Nat) (a : Jb), c.jobs[i]? = some a → ∃ j, c'.jobs[i]? = some j ∧ StepOk n (liveL c'.lives) a j ∧ (e ≠ 0 → j = a)
theorem DoneOk.same {n : Int} {c : Ct} (h : CtOk n c) (e : Int) : DoneOk n c c e :=
  ⟨{ h with jobs := fun j hj => ⟨(h.jobs j hj).1.mono (by omega), (h.jobs j hj).2⟩ }, rfl, fun i a ha => ⟨a, ha, .same (h.jobs a (List.mem_of_getElem? ha)).1, fun _ => rfl⟩⟩
theorem moved_ok {n : Int} {c : Ct} {x : Cmd} {a : Jb} (h : CtOk n c) (hx : x.kind = 1 ∨ x.kind = 2) (he : workerE c x = 0) (ha : a ∈ c.jobs) :
    StepOk n (liveL (livesDo c x)) a (moved (c.lives x.wk) x.wk (liveL (livesDo c x)) a) ∧
      (∀ w ∈ (moved (c.lives x.wk) x.wk (liveL (livesDo c x)) a).places, w ∈ liveL (livesDo c x)) ∧
      ((moved (c.lives x.wk) x.wk (liveL (livesDo c x)) a).places = [] ↔ (moved (c.lives x.wk) x.wk (liveL (livesDo c x)) a).att = 0 ∨ liveL (livesDo c x) = []) := by
  obtain ⟨ho, hp, hq⟩ := h.jobs a ha
  have hrd := ho.rd
  have hkp := ho.kp
  have hat := ho.att
  have begun : (∀ w ∈ (beginJ (liveL (livesDo c x)) a).places, w ∈ liveL (livesDo c x)) ∧ ((beginJ (liveL (livesDo c x)) a).places = [] ↔ (beginJ (liveL (livesDo c x)) a).att = 0 ∨ liveL (livesDo c x) = []) := by
    refine ⟨fun w hw => placesOf_mem hw, (placesOf_nil (by omega)).trans ⟨.inr, fun e => e.elim (fun e => ?_) id⟩⟩
    have e : a.att + 1 = 0 := e
    omega
  have hbd : 1 ≤ x.wk ∧ x.wk ≤ 6 ∧ 1 ≤ x.num := by
    unfold workerE at he
    split at he
    · cases he
    · omega
  have hl0 := (h.lives x.wk).1
  unfold moved
  by_cases h1 : 0 < c.lives x.wk
  · rw [if_pos h1]
    by_cases h2 : x.wk ∈ a.places
    · rw [if_pos h2]
      exact ⟨.begun ho, begun⟩
    · rw [if_neg h2]
      have hkeep : ∀ w ∈ a.places, w ∈ liveL (livesDo c x) := fun w hw => by
        have hw2 := liveL_mem.1 (hp w hw)
        refine liveL_mem.2 ⟨hw2.1, ?_⟩
        unfold livesDo setLife
        have hne : w ≠ x.wk := by
          rintro rfl
          exact h2 hw
        rw [if_neg hne]
        exact hw2.2
      refine ⟨.same ho, hkeep, ⟨fun e => ?_, fun e => ?_⟩⟩
      · rcases hq.1 e with e | e
        · exact .inl e
        · exfalso
          have : x.wk ∈ liveL c.lives := liveL_mem.2 ⟨⟨hbd.1, hbd.2.1⟩, h1⟩
          rw [e] at this
          cases this
      · rcases e with e | e
        · exact ho.att0 e
        · cases hpl : a.places with
          | nil => rfl
          | cons w r =>
            have := hkeep w (by rw [hpl]; exact List.mem_cons_self)
            rw [e] at this
            cases this
  · rw [if_neg h1]
    have hk : x.kind = 1 := by
      rcases hx with hk | hk
      · exact hk
      · unfold workerE at he
        split at he
        · cases he
        · rw [if_neg (by omega), if_pos (by omega)] at he
          cases he
    by_cases h2 : 0 < a.att ∧ a.places = []
    · rw [if_pos h2]
      exact ⟨.begun ho, begun⟩
    · rw [if_neg h2]
      have hin : x.wk ∈ liveL (livesDo c x) := liveL_mem.2 ⟨⟨hbd.1, hbd.2.1⟩, by unfold livesDo setLife; rw [if_pos rfl, if_pos hk]; omega⟩
      refine ⟨.same ho, fun w hw => ?_, ⟨fun e => ?_, fun e => ?_⟩⟩
      · have hw2 := liveL_mem.1 (hp w hw)
        refine liveL_mem.2 ⟨hw2.1, ?_⟩
        unfold livesDo setLife
        by_cases hwx : w = x.wk
        · rw [if_pos hwx, if_pos hk]
          omega
        · rw [if_neg hwx]
          exact hw2.2
      · left
        have : ¬ 0 < a.att := fun q => h2 ⟨q, e⟩
        omega
      · rcases e with e | e
        · exact ho.att0 e
        · rw [e] at hin
          cases hin
theorem doC_ok {n : Int} {c : Ct} (x : Cmd) (h : CtOk n c) : DoneOk n c (doC c x).1 (doC c x).2 := by
  unfold doC
  split
  · rename_i hx
    unfold workerC
    split
    · exact .same h _
    · rename_i he
      have he := Decidable.not_not.1 he
      have hm := fun a ha => moved_ok (a := a) h hx he ha
      have hbd : 1 ≤ x.wk ∧ x.wk ≤ 6 ∧ 1 ≤ x.num ∧ x.num ≤ 1000000000 := by
        unfold workerE at he
        split at he
        · cases he
        · omega
      refine ⟨⟨h.plan, by simpa using h.len, fun w => ?_, fun w hw => ?_, fun j hj => ?_⟩, by simp, fun i a ha => ⟨_, by simp [ha], (hm a (List.mem_of_getElem? ha)).1, fun e => absurd rfl e⟩⟩
      · show 0 ≤ setLife _ _ _ w ∧ setLife _ _ _ w ≤ _
        unfold setLife
        split
        · split <;> omega
        · exact h.lives w
      · show setLife _ _ _ w = 0
        unfold setLife
        rw [if_neg (by omega)]
        exact h.out w hw
      · obtain ⟨a, ha, rfl⟩ := List.mem_map.1 hj
        exact ⟨(hm a ha).1.ok, (hm a ha).2⟩
  · split
    · exact .same h _
    · split
      · exact .same h _
      · rename_i j hj
        have hs := jobDo_ok (x := x) h rfl hj
        have hjm := h.jobs j (List.mem_of_getElem? hj)
        have hpl := JobAt_places hs hjm.1 hjm.2
        refine ⟨⟨h.plan, by simpa using h.len, h.lives, h.out, fun k hk => ?_⟩, by simp, fun i a ha => ?_⟩
        · rcases List.mem_or_eq_of_mem_set hk with hk | rfl
          · exact ⟨(h.jobs k hk).1.mono (by omega), (h.jobs k hk).2⟩
          · exact ⟨hs.ok, hpl⟩
        · by_cases e : x.flow.toNat = i
          · subst e
            obtain rfl : j = a := by rw [hj] at ha; exact Option.some.inj ha
            refine ⟨_, by rw [List.getElem?_set_self (List.getElem?_eq_some_iff.1 hj).1], hs, fun e => jobDo_err e⟩
          · exact ⟨a, by rw [List.getElem?_set_ne e]; exact ha, .same (h.jobs a (List.mem_of_getElem? ha)).1, fun _ => rfl⟩
theorem newC_ok {tops : List Top} {fl : List Flw} (h : planE ⟨tops, fl⟩ = 0) : CtOk 0 (newC tops fl) := by
  refine ⟨h, by simp [newC], fun w => ?_, fun _ _ => rfl, fun j hj => ?_⟩
  · show (0 : Int) ≤ 0 ∧ (0 : Int) ≤ 1000000000
    omega
  · obtain ⟨f, hf, rfl⟩ := List.mem_map.1 hj
    have := plan_flow h f hf
    refine ⟨⟨by simp, this.rd, this.kp, by simp, by simp, by simp, by simp, by simp, fun _ => rfl, List.Pairwise.nil, (fun p hp => by cases hp), fun _ => rfl, .inl rfl⟩, (fun w hw => by cases hw), ⟨fun _ => .inl rfl, fun _ => rfl⟩⟩
theorem acked_len {n : Int} {j : Jb} (h : JobOk n j) : j.acked.length ≤ 32 := by
  have hn : (j.acked.map fun p => (p.1 - 1) * 16 + p.2).Nodup := by
    rw [List.nodup_iff_pairwise_ne, List.pairwise_map]
    refine List.Pairwise.imp_of_mem (fun {p q} hp hq hne e => ?_) h.sorted
    have := h.parts p hp
    have := h.parts q hq
    unfold PartOk PLt at *
    omega
  have := nodup_len 32 _ hn (fun x hx => by
    obtain ⟨p, hp, rfl⟩ := List.mem_map.1 hx
    have := h.parts p hp
    unfold PartOk at this
    omega)
  simpa using this
end Go.Proofs.YtkjajlolfcioiaaGreatDoor.Ctl

/- Readers and keepers are spread evenly: a plain fact. No program here. -/
namespace Go.Proofs.YtkjajlolfcioiaaGreatDoor.Ctl
theorem gstep {L p x : Nat} (hp : p < L) : (x + 1 + (L - 1 - p)) / L = (x + (L - 1 - p)) / L + if x % L = p then 1 else 0 := by
  have h1 := Nat.div_add_mod x L
  have h2 := Nat.mod_lt x (show 0 < L by omega)
  have h3 : (x + (L - 1 - p)) / L = x / L + (x % L + (L - 1 - p)) / L := by
    rw [show x + (L - 1 - p) = (x % L + (L - 1 - p)) + L * (x / L) by omega, Nat.add_mul_div_left _ _ (by omega)]
    omega
  have h4 : (x + 1 + (L - 1 - p)) / L = x / L + (x % L + 1 + (L - 1 - p)) / L := by
    rw [show x + 1 + (L - 1 - p) = (x % L + 1 + (L - 1 - p)) + L * (x / L) by omega, Nat.add_mul_div_left _ _ (by omega)]
    omega
  rw [h3, h4]
  by_cases e : x % L = p
  · rw [if_pos e, show x % L + 1 + (L - 1 - p) = L by omega, Nat.div_self (by omega), show x % L + (L - 1 - p) = L - 1 by omega, Nat.div_eq_of_lt (show L - 1 < L by omega)]
  · rw [if_neg e]
    rcases Nat.lt_or_gt_of_ne e with e | e
    · rw [Nat.div_eq_of_lt (show x % L + 1 + (L - 1 - p) < L by omega), Nat.div_eq_of_lt (show x % L + (L - 1 - p) < L by omega)]
    · rw [show x % L + 1 + (L - 1 - p) = (x % L - p) + L by omega, show x % L + (L - 1 - p) = (x % L - p - 1) + L by omega, Nat.add_div_right _ (by omega), Nat.add_div_right _ (by omega), Nat.div_eq_of_lt (show x % L - p < L by omega), Nat.div_eq_of_lt (show x % L - p - 1 < L by omega)]
theorem gpair {L p q : Nat} (x : Nat) (hq : q < L) (hpq : p ≤ q) : (x + (L - 1 - q)) / L ≤ (x + (L - 1 - p)) / L ∧ (x + (L - 1 - p)) / L ≤ (x + (L - 1 - q)) / L + 1 := by
  refine ⟨Nat.div_le_div_right (by omega), ?_⟩
  rw [← Nat.add_div_right _ (show 0 < L by omega)]
  exact Nat.div_le_div_right (by omega)
/-- how often one place is taken, of the first n. -/
theorem count_at {live : List Int} (hn : live.Nodup) (a : Nat) {p : Nat} (hp : p < live.length) : ∀ n : Nat, ((List.range n).map fun k : Nat => live.getD (((k : Int) + (a : Int)) % (live.length : Int)).toNat 0).count live[p] + (a + (live.length - 1 - p)) / live.length = (a + n + (live.length - 1 - p)) / live.length
  | 0 => by simp
  | n + 1 => by
    have ih := count_at hn a hp n
    rw [List.range_succ, List.map_append, List.count_append]
    have hL : 0 < live.length := by omega
    have hm := Nat.mod_lt (n + a) hL
    have e : (((n : Nat) : Int) + (a : Int)) % (live.length : Int) = (((n + a) % live.length : Nat) : Int) := by
      push_cast
      rfl
    have hs : (([n] : List Nat).map fun k : Nat => live.getD (((k : Int) + (a : Int)) % (live.length : Int)).toNat 0).count live[p] = if (n + a) % live.length = p then 1 else 0 := by
      simp only [List.map_cons, List.map_nil, e, Int.toNat_natCast]
      rw [List.getD_eq_getElem?_getD, List.getElem?_eq_getElem hm, Option.getD_some]
      by_cases h : (n + a) % live.length = p
      · subst h
        simp
      · rw [if_neg h, List.count_singleton, if_neg]
        intro hb
        exact h ((List.getElem_inj hn).1 (by simpa using hb))
    rw [hs]
    have hg := gstep (x := a + n) hp
    rw [Nat.add_comm n a]
    rw [show a + (n + 1) = a + n + 1 by omega, hg]
    omega
/-- two live workers' shares differ by one at most. -/
theorem spread {live : List Int} (hn : live.Nodup) {a n : Int} (ha : 0 ≤ a) {u v : Int} (hu : u ∈ live) (hv : v ∈ live) : (placesOf live a n).count u ≤ (placesOf live a n).count v + 1 := by
  have hne : live ≠ [] := fun e => by rw [e] at hu; cases hu
  unfold placesOf
  rw [if_neg hne]
  obtain ⟨p, hp, rfl⟩ := List.mem_iff_getElem.1 hu
  obtain ⟨q, hq, rfl⟩ := List.mem_iff_getElem.1 hv
  obtain ⟨b, rfl⟩ : ∃ b : Nat, a = (b : Int) := ⟨a.toNat, by omega⟩
  have h1 := count_at hn b hp n.toNat
  have h2 := count_at hn b hq n.toNat
  rcases Nat.le_total p q with h | h
  · have g1 := gpair (L := live.length) b hq h
    have g2 := gpair (L := live.length) (b + n.toNat) hq h
    omega
  · have g1 := gpair (L := live.length) b hp h
    have g2 := gpair (L := live.length) (b + n.toNat) hp h
    omega
end Go.Proofs.YtkjajlolfcioiaaGreatDoor.Ctl
