/- One span more, put among merged ones, by the document's way: it is what all come to, merged. No program here. -/
import Derived.Test.YtdmflbdcfnpikaaHandPlain
namespace Go.Proofs.Ytdmflbdcfnpikaa.Spans

def shares (a b : Sp) : Prop := a.1 < b.2 ∧ b.1 < a.2
instance (a b : Sp) : Decidable (shares a b) := by unfold shares; infer_instance
def grow1 (s x : Sp) : Sp := if shares x s then (min s.1 x.1, max s.2 x.2) else s
def grow (s : Sp) (l : List Sp) : Sp := l.foldl grow1 s
theorem grow_snoc (s x : Sp) (l : List Sp) : grow s (l ++ [x]) = grow1 (grow s l) x := by simp [grow]

structure Grown (s : Sp) (l : List Sp) (u : Sp) : Prop where
  lo : u.1 ≤ s.1
  hi : s.2 ≤ u.2
  takes : ∀ x ∈ l, shares x u → u.1 ≤ x.1 ∧ x.2 ≤ u.2
  from_ : u.1 = s.1 ∨ ∃ x ∈ l, x.1 = u.1
  to_ : u.2 = s.2 ∨ ∃ x ∈ l, x.2 = u.2
  inner : ∀ c, u.1 < c → c < u.2 → (s.1 < c ∧ c < s.2) ∨ ∃ x ∈ l, x.1 < c ∧ c < x.2

theorem grown_of (s : Sp) (r : List Sp) : (∀ y ∈ r, y.1 < y.2) → r.reverse.Pairwise (fun a b => a.2 ≤ b.1) → Grown s r.reverse (grow s r.reverse) := by
  induction r with
  | nil => intro _ _; exact ⟨by simp [grow], by simp [grow], by simp, .inl rfl, .inl rfl, fun c h1 h2 => .inl ⟨h1, h2⟩⟩
  | cons x r ih =>
    intro hok hc
    rw [List.reverse_cons] at hc ⊢
    obtain ⟨c1, _, c3⟩ := List.pairwise_append.1 hc
    have g := ih (fun y hy => hok y (by simp [hy])) c1
    rw [grow_snoc]
    obtain ⟨u, hu⟩ : ∃ u, u = grow s r.reverse := ⟨_, rfl⟩
    rw [← hu] at g ⊢
    have hx := hok x (by simp)
    unfold grow1
    split
    · rename_i hsh
      obtain ⟨s1, s2⟩ := hsh
      have m1 : min u.1 x.1 ≤ u.1 := by omega
      refine ⟨by have := g.lo; simp only; omega, by have := g.hi; simp only; omega, ?_, ?_, ?_, ?_⟩
      · intro y hy hsy
        rcases List.mem_append.1 hy with hy | hy
        · have hyx := c3 y hy x (by simp)
          have hy2 := hok y (by simp at hy; simp [hy])
          obtain ⟨t1, t2⟩ := hsy
          simp only at t1 t2
          have := g.takes y hy ⟨by omega, by omega⟩
          simp only
          omega
        · obtain rfl : y = x := by simpa using hy
          simp only
          omega
      · simp only
        rcases (show min u.1 x.1 = u.1 ∨ min u.1 x.1 = x.1 by omega) with e | e
        · rw [e]
          rcases g.from_ with h | ⟨y, hy, h⟩
          · exact .inl h
          · exact .inr ⟨y, List.mem_append_left _ hy, h⟩
        · exact .inr ⟨x, by simp, e.symm⟩
      · simp only
        rcases (show max u.2 x.2 = u.2 ∨ max u.2 x.2 = x.2 by omega) with e | e
        · rw [e]
          rcases g.to_ with h | ⟨y, hy, h⟩
          · exact .inl h
          · exact .inr ⟨y, List.mem_append_left _ hy, h⟩
        · exact .inr ⟨x, by simp, e.symm⟩
      · intro c h1 h2
        simp only at h1 h2
        by_cases hcu : u.1 < c ∧ c < u.2
        · rcases g.inner c hcu.1 hcu.2 with h | ⟨y, hy, h⟩
          · exact .inl h
          · exact .inr ⟨y, List.mem_append_left _ hy, h⟩
        · exact .inr ⟨x, by simp, by omega, by omega⟩
    · rename_i hsh
      refine ⟨g.lo, g.hi, ?_, ?_, ?_, ?_⟩
      · intro y hy hsy
        rcases List.mem_append.1 hy with hy | hy
        · exact g.takes y hy hsy
        · obtain rfl : y = x := by simpa using hy
          exact absurd hsy hsh
      · rcases g.from_ with h | ⟨y, hy, h⟩
        · exact .inl h
        · exact .inr ⟨y, List.mem_append_left _ hy, h⟩
      · rcases g.to_ with h | ⟨y, hy, h⟩
        · exact .inl h
        · exact .inr ⟨y, List.mem_append_left _ hy, h⟩
      · intro c h1 h2
        rcases g.inner c h1 h2 with h | ⟨y, hy, h⟩
        · exact .inl h
        · exact .inr ⟨y, List.mem_append_left _ hy, h⟩

/-- the span u among those of l that it does not take in; those ahead of place k begin before it. -/
def putAt (l : List Sp) (u : Sp) (k : Nat) : List Sp := l.take k ++ [u] ++ (l.drop k).filter (fun x => !decide (shares x u))
theorem IsMerge.put {S : Sp → Prop} {m : List Sp} (h : IsMerge S m) (s : Sp) (hs : s.1 < s.2) (k : Nat) (h1 : ∀ x ∈ m.take k, x.1 < (grow s m).1) (h2 : ∀ x, m[k]? = some x → (grow s m).1 ≤ x.1) :
    IsMerge (fun x => S x ∨ x = s) (putAt m (grow s m) k) := by
  have g := grown_of s m.reverse (fun y hy => h.ok y (List.mem_reverse.1 hy)) (by rw [List.reverse_reverse]; exact h.chain)
  rw [List.reverse_reverse] at g
  obtain ⟨u, hu⟩ : ∃ u, u = grow s m := ⟨_, rfl⟩
  rw [← hu] at g h1 h2 ⊢
  have hu0 : u.1 < u.2 := by have := g.lo; have := g.hi; omega
  have hsplit : m = m.take k ++ m.drop k := (List.take_append_drop k m).symm
  have hch := h.chain
  rw [hsplit] at hch
  obtain ⟨p1, p2, p3⟩ := List.pairwise_append.1 hch
  have hT : ∀ x ∈ m.take k, x ∈ m := fun x hx => List.mem_of_mem_take hx
  have hD : ∀ x ∈ m.drop k, x ∈ m := fun x hx => List.mem_of_mem_drop hx
  have hge : ∀ x ∈ m.drop k, u.1 ≤ x.1 := by
    intro x hx
    rcases Nat.lt_or_ge k m.length with hl | hl
    · have e : m.drop k = m[k] :: m.drop (k + 1) := List.drop_eq_getElem_cons hl
      have h0 := h2 _ (List.getElem?_eq_getElem hl)
      rw [e] at hx p2
      rcases List.mem_cons.1 hx with rfl | hx'
      · exact h0
      · have := (List.pairwise_cons.1 p2).1 x hx'
        have := h.ok m[k] (List.getElem_mem hl)
        omega
    · rw [List.drop_eq_nil_of_le hl] at hx; cases hx
  have hmem : ∀ y, y ∈ putAt m u k → (y ∈ m ∧ ¬ shares y u) ∨ y = u := by
    intro y hy
    unfold putAt at hy
    rcases List.mem_append.1 hy with hy | hy
    · rcases List.mem_append.1 hy with hy | hy
      · refine .inl ⟨hT y hy, fun hsh => ?_⟩
        have := g.takes y (hT y hy) hsh
        have := h1 y hy
        omega
      · exact .inr (by simpa using hy)
    · rw [List.mem_filter] at hy
      exact .inl ⟨hD y hy.1, by simpa using hy.2⟩
  have hin : ∀ y ∈ m, ¬ shares y u → y ∈ putAt m u k := by
    intro y hy hn
    rw [hsplit] at hy
    unfold putAt
    rcases List.mem_append.1 hy with hy | hy
    · simp [hy]
    · refine List.mem_append_right _ (List.mem_filter.2 ⟨hy, by simpa using hn⟩)
  have hiu : u ∈ putAt m u k := by simp [putAt]
  refine ⟨?_, ?_, ?_, ?_, ?_, ?_⟩
  · intro y hy
    rcases hmem y hy with ⟨hy, _⟩ | rfl
    · exact h.ok y hy
    · exact hu0
  · unfold putAt
    refine List.pairwise_append.2 ⟨List.pairwise_append.2 ⟨p1, List.pairwise_singleton _ _, ?_⟩, p2.filter _, ?_⟩
    · intro x hx y hy
      obtain rfl : y = u := by simpa using hy
      have a1 := h1 x hx
      have a2 : ¬ shares x y := fun hsh => by have := g.takes x (hT x hx) hsh; omega
      unfold shares at a2
      omega
    · intro x hx y hy
      rw [List.mem_filter] at hy
      have a1 := hge y hy.1
      have a2 : ¬ shares y u := by simpa using hy.2
      have a3 := h.ok y (hD y hy.1)
      rcases List.mem_append.1 hx with hx | hx
      · exact p3 x hx y hy.1
      · obtain rfl : x = u := by simpa using hx
        unfold shares at a2
        omega
  · intro x hx
    rcases hx with hx | hx
    · obtain ⟨y, hy, a1, a2⟩ := h.cover x hx
      by_cases hsh : shares y u
      · have := g.takes y hy hsh
        exact ⟨u, hiu, by omega, by omega⟩
      · exact ⟨y, hin y hy hsh, a1, a2⟩
    · rw [hx]
      exact ⟨u, hiu, g.lo, g.hi⟩
  · intro y hy
    rcases hmem y hy with ⟨hy, _⟩ | rfl
    · obtain ⟨x, hx, e⟩ := h.from_ y hy; exact ⟨x, .inl hx, e⟩
    · rcases g.from_ with e | ⟨x, hx, e⟩
      · exact ⟨s, .inr rfl, e.symm⟩
      · obtain ⟨z, hz, e'⟩ := h.from_ x hx; exact ⟨z, .inl hz, by omega⟩
  · intro y hy
    rcases hmem y hy with ⟨hy, _⟩ | rfl
    · obtain ⟨x, hx, e⟩ := h.to_ y hy; exact ⟨x, .inl hx, e⟩
    · rcases g.to_ with e | ⟨x, hx, e⟩
      · exact ⟨s, .inr rfl, e.symm⟩
      · obtain ⟨z, hz, e'⟩ := h.to_ x hx; exact ⟨z, .inl hz, by omega⟩
  · intro y hy c a1 a2
    rcases hmem y hy with ⟨hy, _⟩ | rfl
    · obtain ⟨x, hx, e⟩ := h.inner y hy c a1 a2; exact ⟨x, .inl hx, e⟩
    · rcases g.inner c a1 a2 with e | ⟨x, hx, e1, e2⟩
      · exact ⟨s, .inr rfl, e⟩
      · obtain ⟨z, hz, e'⟩ := h.inner x hx c e1 e2; exact ⟨z, .inl hz, e'⟩
end Go.Proofs.Ytdmflbdcfnpikaa.Spans
