/- Graphs of flows: orders, what is ahead. No program here. -/
import Derived.Test.YtkjajlolfcioiaaGreatDoorPlanB
namespace Go.Proofs.YtkjajlolfcioiaaGreatDoor.Plan

/-- the last flow that writes a topic. -/
def lastGo (s : List UInt8) : List Flw → Nat → Option Int → Option Int
  | [], _, x => x
  | f :: r, i, x => lastGo s r (i + 1) (if s = f.to.data.toList then some (i : Int) else x)
def lastG (l : List Flw) (s : List UInt8) : Option Int := lastGo s l 0 none
theorem lastGo_snoc (s : List UInt8) (f : Flw) : ∀ (l : List Flw) (i : Nat) (x : Option Int), lastGo s (l ++ [f]) i x = if s = f.to.data.toList then some ((i + l.length : Nat) : Int) else lastGo s l i x
  | [], i, x => by simp [lastGo]
  | g :: r, i, x => by
    rw [List.cons_append, lastGo, lastGo_snoc s f r, lastGo]
    rw [show i + 1 + r.length = i + (g :: r).length by simp; omega]
theorem lastG_snoc (s : List UInt8) (f : Flw) (l : List Flw) : lastG (l ++ [f]) s = if s = f.to.data.toList then some (l.length : Int) else lastG l s := by
  unfold lastG
  rw [lastGo_snoc]
  simp
theorem lastGo_bd (s : List UInt8) : ∀ (l : List Flw) (i : Nat) (x : Option Int), (∀ v, x = some v → 0 ≤ v ∧ v < i) → ∀ v, lastGo s l i x = some v → 0 ≤ v ∧ v < (i + l.length : Nat)
  | [], i, x, h, v, e => by simpa using h v e
  | g :: r, i, x, h, v, e => by
    rw [lastGo] at e
    have := lastGo_bd s r (i + 1) _ (fun u hu => by
      split at hu
      · obtain rfl := Option.some.inj hu; constructor <;> omega
      · have := h u hu; constructor <;> omega) v e
    simp only [List.length_cons]
    constructor <;> omega
/-- for each flow the one that writes what it reads, or -1. -/
def edgesL (l : List Flw) : List Int := l.map fun f => (lastG l f.frm.data.toList).getD (-1)
theorem edgesL_length (l : List Flw) : (edgesL l).length = l.length := by simp [edgesL]
def EdgesOk (F : List Int) : Prop := ∀ x ∈ F, -1 ≤ x ∧ x < F.length
theorem edgesL_ok (l : List Flw) : EdgesOk (edgesL l) := by
  intro x hx
  unfold edgesL at hx
  obtain ⟨f, _, rfl⟩ := List.mem_map.1 hx
  rw [edgesL_length]
  rcases h : lastG l f.frm.data.toList with _ | v
  · simp; omega
  · have := lastGo_bd f.frm.data.toList l 0 none (by simp) v h
    simp at this ⊢
    omega

/-! ### orders -/
/-- the first flow that is not told and hangs on none that is untold. -/
def free (F out : List Int) (i : Nat) : Bool := !(out.contains (i : Int)) && (F.getD i (-1) == -1 || out.contains (F.getD i (-1)))
def pick (F out : List Int) : Option Nat := (List.range F.length).find? (free F out)
def orderGo (F : List Int) : Nat → List Int → List Int
  | 0, out => out
  | n + 1, out => match pick F out with | none => out | some i => orderGo F n (out ++ [(i : Int)])
def orderL (F : List Int) : List Int := orderGo F F.length []
theorem pick_some {F out : List Int} {i : Nat} (h : pick F out = some i) : i < F.length ∧ (i : Int) ∉ out ∧ (F.getD i (-1) = -1 ∨ F.getD i (-1) ∈ out) := by
  unfold pick at h
  have h1 := List.find?_some h
  have h2 := List.mem_of_find?_eq_some h
  unfold free at h1
  simp only [Bool.and_eq_true, Bool.not_eq_true', Bool.or_eq_true, beq_iff_eq, List.contains_iff_mem] at h1
  refine ⟨by simpa using h2, ?_, h1.2⟩
  intro hm
  have := h1.1
  rw [List.contains_iff_mem.2 hm] at this
  cases this
theorem pick_none {F out : List Int} (h : pick F out = none) (i : Nat) (hi : i < F.length) (hn : (i : Int) ∉ out) : F.getD i (-1) ≠ -1 ∧ F.getD i (-1) ∉ out := by
  unfold pick at h
  have h1 := List.find?_eq_none.1 h i (by simpa using hi)
  unfold free at h1
  simp only [Bool.and_eq_true, Bool.not_eq_true', Bool.or_eq_true, beq_iff_eq, List.contains_iff_mem, not_and, not_or] at h1
  exact h1 (by
    rcases hc : out.contains (i : Int) with _ | _
    · rfl
    · exact absurd (List.contains_iff_mem.1 hc) hn)
/-- what an order is, as far as it goes. -/
structure Ordered (F out : List Int) : Prop where
  nodup : out.Nodup
  range : ∀ x ∈ out, 0 ≤ x ∧ x < F.length
  behind : ∀ (p : Nat) (x : Int), out[p]? = some x → F.getD x.toNat (-1) = -1 ∨ F.getD x.toNat (-1) ∈ out.take p
theorem Ordered.nil (F : List Int) : Ordered F [] := ⟨List.nodup_nil, by simp, by simp⟩
theorem Ordered.snoc {F out : List Int} (h : Ordered F out) {i : Nat} (hp : pick F out = some i) : Ordered F (out ++ [(i : Int)]) := by
  obtain ⟨h1, h2, h3⟩ := pick_some hp
  refine ⟨List.nodup_append.2 ⟨h.nodup, by simp, ?_⟩, ?_, ?_⟩
  · intro a ha b hb e
    simp only [List.mem_singleton] at hb
    subst hb e
    exact h2 ha
  · intro x hx
    rcases List.mem_append.1 hx with hx | hx
    · exact h.range x hx
    · simp only [List.mem_singleton] at hx
      subst hx
      omega
  · intro p x hx
    rcases Nat.lt_or_ge p out.length with hlt | hge
    · rw [List.getElem?_append_left hlt] at hx
      rw [List.take_append_of_le_length (by omega)]
      exact h.behind p x hx
    · rw [List.getElem?_append_right hge] at hx
      have hp0 : p - out.length = 0 := by
        rcases hk : p - out.length with _ | k
        · rfl
        · rw [hk] at hx; simp at hx
      rw [hp0] at hx
      obtain rfl : (i : Int) = x := by simpa using hx
      have hpe : p = out.length := by omega
      subst hpe
      rw [List.take_append_of_le_length (by omega), List.take_length]
      simpa using h3
theorem filter_two (p : Int → Bool) : ∀ l : List Int, l.length = (l.filter p).length + (l.filter (fun x => !p x)).length
  | [] => rfl
  | x :: r => by
    have := filter_two p r
    cases h : p x <;> simp [h] <;> omega
theorem nodup_len : ∀ (n : Nat) (l : List Int), l.Nodup → (∀ x ∈ l, 0 ≤ x ∧ x < n) → l.length ≤ n
  | 0, l, _, h => by
    rcases l with _ | ⟨x, r⟩
    · simp
    · have := h x (by simp); omega
  | n + 1, l, hd, h => by
    have h1 : (l.filter (fun x => x ≠ (n : Int))).length ≤ n := nodup_len n _ (hd.filter _) (fun x hx => by
      simp only [List.mem_filter, ne_eq, decide_not, Bool.not_eq_eq_eq_not, Bool.not_true, decide_eq_false_iff_not] at hx
      have := h x hx.1
      omega)
    have h2 : (l.filter (fun x => !decide (x ≠ (n : Int)))).length ≤ 1 := by
      have hs : ∀ x ∈ l.filter (fun x => !decide (x ≠ (n : Int))), x = (n : Int) := by simp
      have hn := hd.filter (fun x => !decide (x ≠ (n : Int)))
      rcases hf : l.filter (fun x => !decide (x ≠ (n : Int))) with _ | ⟨a, _ | ⟨b, r⟩⟩
      · simp
      · simp
      · rw [hf] at hs hn
        have ha := hs a (by simp)
        have hb := hs b (by simp)
        exact absurd (by rw [ha, hb]; simp) (List.nodup_cons.1 hn).1
    have h3 := filter_two (fun x => decide (x ≠ (n : Int))) l
    omega
theorem all_len : ∀ (n : Nat) (l : List Int), (∀ i : Nat, i < n → (i : Int) ∈ l) → n ≤ l.length
  | 0, _, _ => Nat.zero_le _
  | n + 1, l, h => by
    have h1 := all_len n (l.filter (fun x => decide (x ≠ (n : Int)))) (fun i hi => List.mem_filter.2 ⟨h i (by omega), by simp; omega⟩)
    have h2 : (l.filter (fun x => decide (x ≠ (n : Int)))).length < l.length := by
      rw [List.length_filter_lt_length_iff_exists]
      exact ⟨(n : Int), h n (by omega), by simp⟩
    omega
theorem Ordered.len {F out : List Int} (h : Ordered F out) : out.length ≤ F.length := nodup_len _ _ h.nodup h.range
/-- the order's end: nothing is free. -/
theorem orderGo_end {F : List Int} : ∀ (n : Nat) (out : List Int), Ordered F out → F.length ≤ n + out.length → Ordered F (orderGo F n out) ∧ pick F (orderGo F n out) = none
  | 0, out, h, hn => by
    refine ⟨h, ?_⟩
    rcases hp : pick F out with _ | i
    · exact hp
    · have := (h.snoc hp).len
      simp at this
      omega
  | n + 1, out, h, hn => by
    rw [orderGo]
    rcases hp : pick F out with _ | i
    · exact ⟨h, hp⟩
    · exact orderGo_end n _ (h.snoc hp) (by simp; omega)
theorem orderL_is (F : List Int) : Ordered F (orderL F) ∧ pick F (orderL F) = none := orderGo_end _ _ (Ordered.nil F) (by simp)
/-- one round more. -/
theorem orderGo_more {F : List Int} : ∀ (n : Nat) (out : List Int), pick F out = none → orderGo F n out = out
  | 0, _, _ => rfl
  | n + 1, out, h => by rw [orderGo, h]
theorem orderGo_enough {F : List Int} : ∀ (n m : Nat) (out : List Int), Ordered F out → F.length ≤ n + out.length → F.length ≤ m + out.length → orderGo F n out = orderGo F m out
  | 0, m, out, h, hn, _ => by
    have := (orderGo_end 0 out h hn).2
    rw [orderGo_more m out this]
    rfl
  | n + 1, 0, out, h, _, hm => by
    have := (orderGo_end 0 out h hm).2
    rw [orderGo_more (n + 1) out this]
    rfl
  | n + 1, m + 1, out, h, hn, hm => by
    rw [orderGo, orderGo]
    rcases hp : pick F out with _ | i
    · rfl
    · exact orderGo_enough n m _ (h.snoc hp) (by simp; omega) (by simp; omega)

/-! ### ahead and behind -/
def hop (F : List Int) (i : Int) : Int := if 0 ≤ i then F.getD i.toNat (-1) else -1
def hops (F : List Int) : Nat → Int → Int
  | 0, i => i
  | m + 1, i => hop F (hops F m i)
/-- a flow hangs on k. -/
def Hangs (F : List Int) (i k : Int) : Prop := 0 ≤ k ∧ ∃ m, hops F (m + 1) i = k
theorem hops_add (F : List Int) (a : Nat) (i : Int) : ∀ b, hops F (a + b) i = hops F b (hops F a i)
  | 0 => rfl
  | b + 1 => by
    show hop F (hops F (a + b) i) = hop F (hops F b (hops F a i))
    rw [hops_add F a i b]
theorem hop_neg {F : List Int} {i : Int} (h : i < 0) : hop F i = -1 := by unfold hop; rw [if_neg (by omega)]
theorem hops_neg {F : List Int} : ∀ {m : Nat} {i : Int}, i < 0 → hops F m i < 0
  | 0, _, h => h
  | m + 1, i, h => by
    show hop F (hops F m i) < 0
    rw [hop_neg (hops_neg h)]
    decide
theorem getD_mem {F : List Int} {i : Nat} (h : i < F.length) : F.getD i (-1) ∈ F := by
  rw [List.getD_eq_getElem?_getD, List.getElem?_eq_getElem h]
  exact List.getElem_mem h
theorem hop_lt {F : List Int} (hF : EdgesOk F) (i : Int) (hn : 0 < F.length) : hop F i < F.length := by
  unfold hop
  split
  · rcases Nat.lt_or_ge i.toNat F.length with h | h
    · exact (hF _ (getD_mem h)).2
    · rw [List.getD_eq_getElem?_getD, List.getElem?_eq_none h]; simp; omega
  · omega
theorem pigeon : ∀ (n : Nat) (f : Nat → Nat), (∀ m, m ≤ n → f m < n) → ∃ a b, a < b ∧ b ≤ n ∧ f a = f b
  | 0, f, h => by have := h 0 (Nat.le_refl _); omega
  | n + 1, f, h => by
    by_cases hx : ∃ a, a ≤ n ∧ f a = f (n + 1)
    · obtain ⟨a, ha, e⟩ := hx
      exact ⟨a, n + 1, by omega, Nat.le_refl _, e⟩
    · have hne : ∀ a, a ≤ n → f a ≠ f (n + 1) := fun a ha e => hx ⟨a, ha, e⟩
      have hl := h (n + 1) (Nat.le_refl _)
      obtain ⟨a, b, hab, hb, e⟩ := pigeon n (fun m => if f m < f (n + 1) then f m else f m - 1) (fun m hm => by
        have h1 := h m (by omega)
        have h2 := hne m hm
        show (if f m < f (n + 1) then f m else f m - 1) < n
        split <;> omega)
      refine ⟨a, b, hab, by omega, ?_⟩
      have h1 := hne a (by omega)
      have h2 := hne b hb
      have e2 : (if f a < f (n + 1) then f a else f a - 1) = (if f b < f (n + 1) then f b else f b - 1) := e
      split at e2 <;> split at e2 <;> omega
/-- where an order stops short, some flow hangs on itself. -/
theorem short_loop {F : List Int} (hF : EdgesOk F) (hs : (orderL F).length < F.length) : ∃ i : Nat, i < F.length ∧ Hangs F i i := by
  obtain ⟨hO, hp⟩ := orderL_is F
  -- some flow is not told
  have hex : ∃ i : Nat, i < F.length ∧ (i : Int) ∉ orderL F := by
    apply Decidable.byContradiction
    intro hno
    have hall : ∀ i : Nat, i < F.length → (i : Int) ∈ orderL F := fun i hi => Decidable.byContradiction fun h => hno ⟨i, hi, h⟩
    have := all_len F.length (orderL F) hall
    omega
  obtain ⟨i, hi, hn⟩ := hex
  have hstep : ∀ x : Nat, x < F.length → (x : Int) ∉ orderL F → ∃ y : Nat, y < F.length ∧ (y : Int) ∉ orderL F ∧ hop F x = y := by
    intro x hx hxn
    obtain ⟨h1, h2⟩ := pick_none hp x hx hxn
    have h3 := hF _ (getD_mem hx)
    refine ⟨(F.getD x (-1)).toNat, by omega, ?_, ?_⟩
    · rw [Int.toNat_of_nonneg (by omega)]; exact h2
    · unfold hop
      rw [if_pos (by omega), Int.toNat_natCast, Int.toNat_of_nonneg (by omega)]
  have hall : ∀ m, ∃ y : Nat, y < F.length ∧ (y : Int) ∉ orderL F ∧ hops F m i = y := by
    intro m
    induction m with
    | zero => exact ⟨i, hi, hn, rfl⟩
    | succ m ih =>
      obtain ⟨y, h1, h2, h3⟩ := ih
      obtain ⟨z, q1, q2, q3⟩ := hstep y h1 h2
      exact ⟨z, q1, q2, by show hop F (hops F m i) = z; rw [h3, q3]⟩
  obtain ⟨a, b, hab, _, e⟩ := pigeon F.length (fun m => (hops F m i).toNat) (fun m _ => by
    obtain ⟨y, h1, _, h3⟩ := hall m
    show (hops F m i).toNat < F.length
    rw [h3]
    simpa using h1)
  obtain ⟨ya, h1, _, h3⟩ := hall a
  obtain ⟨yb, _, _, h4⟩ := hall b
  have e2 : (hops F a i).toNat = (hops F b i).toNat := e
  rw [h3, h4] at e2
  have hyy : ya = yb := by simpa using e2
  refine ⟨ya, h1, by omega, b - a - 1, ?_⟩
  rw [show b - a - 1 + 1 = b - a by omega, ← h3, ← hops_add, show a + (b - a) = b by omega, h4, h3, hyy]
/-- in an order, what is ahead stands ahead. -/
theorem ahead_take {F out : List Int} (h : Ordered F out) : ∀ (p : Nat) (x : Int), out[p]? = some x → ∀ m k, 0 ≤ k → hops F (m + 1) x = k → k ∈ out.take p := by
  intro p
  induction p using Nat.strongRecOn with
  | _ p ih =>
    intro x hx m k hk0 hk
    have hx0 := (h.range x (List.mem_of_getElem? hx)).1
    have hfirst : hop F x = F.getD x.toNat (-1) := by unfold hop; rw [if_pos hx0]
    have hk2 : hops F m (hop F x) = k := by
      have := hops_add F 1 x m
      rw [show 1 + m = m + 1 by omega, hk] at this
      exact this.symm
    rcases h.behind p x hx with hm1 | hin
    · rw [hfirst, hm1] at hk2
      have := hops_neg (F := F) (m := m) (i := -1) (by decide)
      omega
    · rw [hfirst] at hk2
      obtain ⟨q, hq, hqe⟩ := List.mem_iff_getElem.1 hin
      have hql : q < p := by
        have := hq
        rw [List.length_take] at this
        omega
      have hqe2 : out[q]? = some (F.getD x.toNat (-1)) := by
        rw [List.getElem_take] at hqe
        rw [List.length_take] at hq
        rw [List.getElem?_eq_getElem (by omega), hqe]
      rcases m with _ | m
      · have : F.getD x.toNat (-1) = k := hk2
        rw [← this]
        exact hin
      · have := ih q hql _ hqe2 m k hk0 hk2
        exact (List.take_subset_take_left out (by omega)) this
/-- a whole order: no flow hangs on itself. -/
theorem whole_free {F : List Int} (hw : (orderL F).length = F.length) (i : Nat) (hi : i < F.length) : ¬ Hangs F i i := by
  rintro ⟨h0, m, hm⟩
  obtain ⟨hO, hp⟩ := orderL_is F
  have hin : (i : Int) ∈ orderL F := by
    apply Decidable.byContradiction
    intro hn
    have hnd : (orderL F ++ [(i : Int)]).Nodup := List.nodup_append.2 ⟨hO.nodup, by simp, fun a ha b hb e => by
      simp only [List.mem_singleton] at hb
      subst hb e
      exact hn ha⟩
    have := nodup_len F.length _ hnd (fun x hx => by
      rcases List.mem_append.1 hx with hx | hx
      · exact hO.range x hx
      · simp only [List.mem_singleton] at hx
        subst hx
        omega)
    simp at this
    omega
  obtain ⟨p, hp1, hp2⟩ := List.mem_iff_getElem.1 hin
  have hpe : (orderL F)[p]? = some (i : Int) := by rw [List.getElem?_eq_getElem hp1, hp2]
  have h1 := ahead_take hO p _ hpe m i h0 hm
  obtain ⟨q, hq1, hq2⟩ := List.mem_iff_getElem.1 h1
  rw [List.length_take] at hq1
  rw [List.getElem_take] at hq2
  have := List.pairwise_iff_getElem.1 hO.nodup q p (by omega) hp1 (by omega)
  exact this (hq2.trans hp2.symm)
/-! ### the order, as it is reckoned -/
/-- the edges, those that are told struck out. -/
def struck (F out : List Int) : List Int := (List.range F.length).map fun i : Nat => if (i : Int) ∈ out then -2 else F.getD i (-1)
theorem struck_length (F out : List Int) : (struck F out).length = F.length := by simp [struck]
theorem struck_get (F out : List Int) (i : Nat) (h : i < F.length) : (struck F out)[i]? = some (if (i : Int) ∈ out then -2 else F.getD i (-1)) := by
  unfold struck
  rw [List.getElem?_map, List.getElem?_range h]
  rfl
theorem struck_nil (F : List Int) : struck F [] = F := by
  apply List.ext_getElem?
  intro i
  rcases Nat.lt_or_ge i F.length with h | h
  · rw [struck_get F [] i h, if_neg (by simp), List.getD_eq_getElem?_getD, List.getElem?_eq_getElem h]
    rfl
  · rw [List.getElem?_eq_none (by rw [struck_length]; exact h), List.getElem?_eq_none h]
theorem struck_snoc (F out : List Int) (i : Nat) : struck F (out ++ [(i : Int)]) = (struck F out).set i (-2) := by
  apply List.ext_getElem?
  intro j
  rcases Nat.lt_or_ge j F.length with h | h
  · rw [struck_get _ _ j h, List.getElem?_set, struck_length]
    by_cases e : i = j
    · subst e
      simp [h]
    · rw [if_neg e, struck_get _ _ j h]
      have : ¬ (j : Int) = (i : Int) := by omega
      simp [this]
  · rw [List.getElem?_eq_none (by rw [struck_length]; exact h), List.getElem?_eq_none (by rw [List.length_set, struck_length]; exact h)]
/-- is an edge's end told? -/
def told (out : List Int) (x : Int) : Bool := decide (x ≠ -2 ∧ x ∈ [-1] ++ out)
theorem told_free {F out : List Int} (hF : EdgesOk F) (i : Nat) (h : i < F.length) : told out (if (i : Int) ∈ out then -2 else F.getD i (-1)) = free F out i := by
  have h1 := hF _ (getD_mem h)
  unfold told free
  by_cases hm : (i : Int) ∈ out
  · simp [hm]
  · rw [if_neg hm, Bool.eq_iff_iff, decide_eq_true_eq, Bool.and_eq_true, Bool.or_eq_true, Bool.not_eq_true', beq_iff_eq, List.contains_iff_mem]
    have hc : out.contains (i : Int) = false := by
      rcases hq : out.contains (i : Int) with _ | _
      · rfl
      · exact absurd (List.contains_iff_mem.1 hq) hm
    constructor
    · rintro ⟨_, h2⟩
      refine ⟨hc, ?_⟩
      rcases List.mem_append.1 h2 with h2 | h2
      · exact .inl (by simpa using h2)
      · exact .inr h2
    · rintro ⟨_, h2⟩
      exact ⟨by omega, List.mem_append.2 (h2.imp (fun e => by rw [e]; exact List.mem_singleton.2 rfl) id)⟩
theorem range_idx (q : Nat → Bool) : ∀ n, (List.range n).findIdx? q = (List.range n).find? q := by
  intro n
  induction n with
  | zero => rfl
  | succ n ih =>
    rw [List.range_succ, List.findIdx?_append, List.find?_append, ih]
    rcases h : (List.range n).find? q with _ | i
    · cases hq : q n <;> simp [List.findIdx?_cons, hq]
    · simp
theorem struck_pick {F out : List Int} (hF : EdgesOk F) : (struck F out).findIdx? (told out) = pick F out := by
  unfold struck pick
  rw [List.findIdx?_map]
  rw [← range_idx]
  have : ∀ (l : List Nat), (∀ i ∈ l, i < F.length) → l.findIdx? (told out ∘ fun i : Nat => if (i : Int) ∈ out then -2 else F.getD i (-1)) = l.findIdx? (free F out) := by
    intro l
    induction l with
    | nil => intro _; rfl
    | cons i r ih =>
      intro h
      rw [List.findIdx?_cons, List.findIdx?_cons, ih (fun j hj => h j (List.mem_cons_of_mem _ hj))]
      show (if told out (if (i : Int) ∈ out then -2 else F.getD i (-1)) = true then _ else _) = _
      rw [told_free hF i (h i List.mem_cons_self)]
  exact this _ (fun i hi => List.mem_range.1 hi)
theorem order_step {F out : List Int} (hO : Ordered F out) (h : orderGo F (F.length - out.length) out = orderL F) {i : Nat} (hp : pick F out = some i) : orderGo F (F.length - (out ++ [(i : Int)]).length) (out ++ [(i : Int)]) = orderL F := by
  have hl := (hO.snoc hp).len
  rw [List.length_append] at hl
  simp only [List.length_cons, List.length_nil] at hl
  rw [← h]
  rw [show F.length - out.length = (F.length - (out ++ [(i : Int)]).length) + 1 by simp; omega, orderGo, hp]
theorem order_last {F out : List Int} (h : orderGo F (F.length - out.length) out = orderL F) (hp : pick F out = none) : out = orderL F := by
  rw [← h, orderGo_more _ _ hp]
end Go.Proofs.YtkjajlolfcioiaaGreatDoor.Plan
