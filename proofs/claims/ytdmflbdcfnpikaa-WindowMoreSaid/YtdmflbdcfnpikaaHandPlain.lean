/- Merged spans: what a merging of spans is, in plain lists: it is the only one. No program here. -/
import Derived.KernelRfl
namespace Go.Proofs.Ytdmflbdcfnpikaa.Spans

abbrev Sp : Type := Int × Int
/-- m is what the spans S come to, merged. -/
structure IsMerge (S : Sp → Prop) (m : List Sp) : Prop where
  ok : ∀ y ∈ m, y.1 < y.2
  chain : m.Pairwise (fun a b => a.2 ≤ b.1)
  cover : ∀ x, S x → ∃ y ∈ m, y.1 ≤ x.1 ∧ x.2 ≤ y.2
  from_ : ∀ y ∈ m, ∃ x, S x ∧ x.1 = y.1
  to_ : ∀ y ∈ m, ∃ x, S x ∧ x.2 = y.2
  inner : ∀ y ∈ m, ∀ c, y.1 < c → c < y.2 → ∃ x, S x ∧ x.1 < c ∧ c < x.2

theorem IsMerge.congr {S T : Sp → Prop} {m : List Sp} (h : IsMerge S m) (e : ∀ x, S x ↔ T x) : IsMerge T m := by
  obtain rfl : S = T := funext fun x => propext (e x)
  exact h

/-- two of a chain that share a time are one. -/
theorem chain_one {m : List Sp} (hok : ∀ y ∈ m, y.1 < y.2) (hc : m.Pairwise (fun a b => a.2 ≤ b.1)) : ∀ a ∈ m, ∀ b ∈ m, a.1 < b.2 → b.1 < a.2 → a = b := by
  induction m with
  | nil => intro a ha; cases ha
  | cons y m ih =>
    obtain ⟨h1, h2⟩ := List.pairwise_cons.1 hc
    intro a ha b hb hab hba
    rcases List.mem_cons.1 ha with e1 | ha1
    · rcases List.mem_cons.1 hb with e2 | hb1
      · rw [e1, e2]
      · have := h1 b hb1; rw [e1] at hba; omega
    · rcases List.mem_cons.1 hb with e2 | hb1
      · have := h1 a ha1; rw [e2] at hab; omega
      · exact ih (fun y hy => hok y (by simp [hy])) h2 a ha1 b hb1 hab hba

theorem okay {S : Sp → Prop} {s : Sp} (hS : ∀ x, S x → x.1 < x.2) (hs : s.1 < s.2) : ∀ x, S x ∨ x = s → x.1 < x.2 := by
  intro x hx
  rcases hx with h | h
  · exact hS x h
  · rw [h]; exact hs

/-- a span that begins within one of a merging, and all of whose inner times are within spans, lies in it. -/
theorem IsMerge.holds {S : Sp → Prop} {m : List Sp} (h : IsMerge S m) (hS : ∀ x, S x → x.1 < x.2) (y : Sp) (hf : ∃ x, S x ∧ x.1 = y.1) (hi : ∀ c, y.1 < c → c < y.2 → ∃ x, S x ∧ x.1 < c ∧ c < x.2) : ∃ z ∈ m, z.1 ≤ y.1 ∧ y.2 ≤ z.2 := by
  obtain ⟨x, hx, hxy⟩ := hf
  obtain ⟨z, hz, h1, h2⟩ := h.cover x hx
  have hx2 := hS x hx
  refine ⟨z, hz, by omega, ?_⟩
  apply Decidable.byContradiction
  intro hn
  obtain ⟨t, ht, h3, h4⟩ := hi z.2 (by omega) (by omega)
  obtain ⟨u, hu, h5, h6⟩ := h.cover t ht
  have := chain_one h.ok h.chain z hz u hu (by have := h.ok z hz; omega) (by omega)
  subst this
  omega

theorem IsMerge.sub {S : Sp → Prop} {m n : List Sp} (hm : IsMerge S m) (hn : IsMerge S n) (hS : ∀ x, S x → x.1 < x.2) : ∀ y ∈ m, y ∈ n := by
  intro y hy
  obtain ⟨z, hz, h1, h2⟩ := hn.holds hS y (hm.from_ y hy) (hm.inner y hy)
  obtain ⟨u, hu, h3, h4⟩ := hm.holds hS z (hn.from_ z hz) (hn.inner z hz)
  have hyy := hm.ok y hy
  have := chain_one hm.ok hm.chain y hy u hu (by omega) (by omega)
  subst this
  have : y = z := Prod.ext (by omega) (by omega)
  rw [this]; exact hz

theorem rise_eq : ∀ {m n : List Sp}, (∀ y ∈ m, y.1 < y.2) → (∀ y ∈ n, y.1 < y.2) → m.Pairwise (fun a b => a.2 ≤ b.1) → n.Pairwise (fun a b => a.2 ≤ b.1) → (∀ y ∈ m, y ∈ n) → (∀ y ∈ n, y ∈ m) → m = n
  | [], [], _, _, _, _, _, _ => rfl
  | [], y :: n, _, _, _, _, _, h => by have := h y (by simp); cases this
  | y :: m, [], _, _, _, _, h, _ => by have := h y (by simp); cases this
  | y :: m, z :: n, hm, hn, cm, cn, h, k => by
    obtain ⟨m1, m2⟩ := List.pairwise_cons.1 cm
    obtain ⟨n1, n2⟩ := List.pairwise_cons.1 cn
    have hy := hm y (by simp)
    have hz := hn z (by simp)
    have e : y = z := by
      rcases List.mem_cons.1 (h y (by simp)) with e | h1
      · exact e
      · rcases List.mem_cons.1 (k z (by simp)) with e | h2
        · exact e.symm
        · have := n1 y h1
          have := m1 z h2
          omega
    subst e
    have hrec := rise_eq (fun a ha => hm a (by simp [ha])) (fun a ha => hn a (by simp [ha])) m2 n2 (fun a ha => by
        rcases List.mem_cons.1 (h a (by simp [ha])) with e | h1
        · subst e; have := m1 a ha; omega
        · exact h1) (fun a ha => by
        rcases List.mem_cons.1 (k a (by simp [ha])) with e | h1
        · subst e; have := n1 a ha; omega
        · exact h1)
    rw [hrec]

/-- THERE IS BUT ONE. -/
theorem IsMerge.unique {S : Sp → Prop} {m n : List Sp} (hm : IsMerge S m) (hn : IsMerge S n) (hS : ∀ x, S x → x.1 < x.2) : m = n :=
  rise_eq hm.ok hn.ok hm.chain hn.chain (hm.sub hn hS) (hn.sub hm hS)

/-- merged ones, merged, are themselves. -/
theorem IsMerge.again {S : Sp → Prop} {m : List Sp} (hm : IsMerge S m) : IsMerge (· ∈ m) m where
  ok := hm.ok
  chain := hm.chain
  cover x hx := ⟨x, hx, by omega, by omega⟩
  from_ y hy := ⟨y, hy, rfl⟩
  to_ y hy := ⟨y, hy, rfl⟩
  inner y hy c h1 h2 := ⟨y, hy, h1, h2⟩

/-- merged ones and one more are as all at once. -/
theorem IsMerge.more {S : Sp → Prop} {m n : List Sp} (s : Sp) (hm : IsMerge S m) (hS : ∀ x, S x → x.1 < x.2) (hs : s.1 < s.2) (hn : IsMerge (fun x => S x ∨ x = s) n) : IsMerge (fun x => x ∈ m ∨ x = s) n where
  ok := hn.ok
  chain := hn.chain
  cover x hx := by
    rcases hx with hx | hx
    · refine hn.holds (okay hS hs) x ?_ ?_
      · obtain ⟨t, ht, he⟩ := hm.from_ x hx; exact ⟨t, .inl ht, he⟩
      · intro c h1 h2; obtain ⟨t, ht, he⟩ := hm.inner x hx c h1 h2; exact ⟨t, .inl ht, he⟩
    · exact hn.cover x (.inr hx)
  from_ y hy := by
    obtain ⟨x, hx, he⟩ := hn.from_ y hy
    rcases hx with hx | hx
    · obtain ⟨u, hu, h1, h2⟩ := hm.cover x hx
      obtain ⟨t, ht, h3⟩ := hm.from_ u hu
      obtain ⟨z, hz, h4, h5⟩ := hn.cover t (.inl ht)
      have ht2 := hS t ht
      have hx2 := hS x hx
      -- u begins within z; if it began ahead of y, then y would lie in z
      obtain ⟨v, hv, h6, h7⟩ := hn.holds (okay hS hs) u ⟨t, .inl ht, h3⟩ (fun c a b => by obtain ⟨t, ht, he⟩ := hm.inner u hu c a b; exact ⟨t, .inl ht, he⟩)
      have hyy := hn.ok y hy
      have := chain_one hn.ok hn.chain y hy v hv (by omega) (by omega)
      subst this
      exact ⟨u, .inl hu, by omega⟩
    · exact ⟨x, .inr hx, he⟩
  to_ y hy := by
    obtain ⟨x, hx, he⟩ := hn.to_ y hy
    rcases hx with hx | hx
    · obtain ⟨u, hu, h1, h2⟩ := hm.cover x hx
      obtain ⟨t, ht, h3⟩ := hm.from_ u hu
      have hx2 := hS x hx
      obtain ⟨v, hv, h6, h7⟩ := hn.holds (okay hS hs) u ⟨t, .inl ht, h3⟩ (fun c a b => by obtain ⟨t, ht, he⟩ := hm.inner u hu c a b; exact ⟨t, .inl ht, he⟩)
      have hyy := hn.ok y hy
      have := chain_one hn.ok hn.chain y hy v hv (by omega) (by omega)
      subst this
      exact ⟨u, .inl hu, by omega⟩
    · exact ⟨x, .inr hx, he⟩
  inner y hy c h1 h2 := by
    obtain ⟨x, hx, h3, h4⟩ := hn.inner y hy c h1 h2
    rcases hx with hx | hx
    · obtain ⟨u, hu, h5, h6⟩ := hm.cover x hx
      exact ⟨u, .inl hu, by omega, by omega⟩
    · exact ⟨x, .inr hx, h3, h4⟩

/-- one more span, behind those that begin no later. -/
def mstep (out : List Sp) (s : Sp) : List Sp :=
  match out.getLast? with
  | some y => if s.1 < y.2 then out.dropLast ++ [(y.1, if y.2 < s.2 then s.2 else y.2)] else out ++ [s]
  | none => [s]

theorem IsMerge.one (s : Sp) (hs : s.1 < s.2) : IsMerge (fun x => x = s) [s] where
  ok y hy := by obtain rfl : y = s := by simpa using hy
                exact hs
  chain := List.pairwise_singleton _ _
  cover x hx := ⟨s, by simp, by rw [hx]; omega, by rw [hx]; omega⟩
  from_ y hy := ⟨s, rfl, by obtain rfl : y = s := by simpa using hy
                            rfl⟩
  to_ y hy := ⟨s, rfl, by obtain rfl : y = s := by simpa using hy
                          rfl⟩
  inner y hy c h1 h2 := ⟨s, rfl, by obtain rfl : y = s := by simpa using hy
                                    exact ⟨h1, h2⟩⟩

theorem IsMerge.step {S : Sp → Prop} {out : List Sp} {s : Sp} (h : IsMerge S out) (hs : s.1 < s.2) (hle : ∀ x, S x → x.1 ≤ s.1) : IsMerge (fun x => S x ∨ x = s) (mstep out s) := by
  rcases List.eq_nil_or_concat out with rfl | ⟨init, y, rfl⟩
  · have hno : ∀ x, ¬ S x := fun x hx => by obtain ⟨y, hy, _⟩ := h.cover x hx; cases hy
    exact (IsMerge.one s hs).congr (fun x => ⟨fun e => .inr e, fun e => e.resolve_left (hno x)⟩)
  · rw [List.concat_eq_append] at h ⊢
    have hy := h.ok y (by simp)
    have hall : ∀ z ∈ init ++ [y], z.1 ≤ s.1 := fun z hz => by obtain ⟨x, hx, e⟩ := h.from_ z hz; have := hle x hx; omega
    have hys := hall y (by simp)
    obtain ⟨c1, c2, c3⟩ := List.pairwise_append.1 h.chain
    have e : mstep (init ++ [y]) s = if s.1 < y.2 then init ++ [(y.1, if y.2 < s.2 then s.2 else y.2)] else init ++ [y] ++ [s] := by
      unfold mstep
      simp
    rw [e]
    split
    · rename_i hlt
      obtain ⟨T, hT⟩ : ∃ T, T = if y.2 < s.2 then s.2 else y.2 := ⟨_, rfl⟩
      rw [← hT]
      have hT1 : y.2 ≤ T := by rw [hT]; split <;> omega
      have hT2 : s.2 ≤ T := by rw [hT]; split <;> omega
      have hT3 : T = y.2 ∨ T = s.2 := by rw [hT]; split <;> simp
      refine ⟨?_, ?_, ?_, ?_, ?_, ?_⟩
      · intro z hz
        rcases List.mem_append.1 hz with hz | hz
        · exact h.ok z (by simp [hz])
        · obtain rfl : z = (y.1, T) := by simpa using hz
          show y.1 < T
          omega
      · refine List.pairwise_append.2 ⟨c1, List.pairwise_singleton _ _, fun a ha b hb => ?_⟩
        obtain rfl : b = (y.1, T) := by simpa using hb
        exact c3 a ha y (by simp)
      · intro x hx
        rcases hx with hx | hx
        · obtain ⟨z, hz, h1, h2⟩ := h.cover x hx
          rcases List.mem_append.1 hz with hz | hz
          · exact ⟨z, by simp [hz], h1, h2⟩
          · obtain rfl : z = y := by simpa using hz
            exact ⟨(z.1, T), by simp, h1, by show x.2 ≤ T; omega⟩
        · subst hx
          exact ⟨(y.1, T), by simp, hys, hT2⟩
      · intro z hz
        rcases List.mem_append.1 hz with hz | hz
        · obtain ⟨x, hx, e⟩ := h.from_ z (by simp [hz]); exact ⟨x, .inl hx, e⟩
        · obtain rfl : z = (y.1, T) := by simpa using hz
          obtain ⟨x, hx, e⟩ := h.from_ y (by simp)
          exact ⟨x, .inl hx, e⟩
      · intro z hz
        rcases List.mem_append.1 hz with hz | hz
        · obtain ⟨x, hx, e⟩ := h.to_ z (by simp [hz]); exact ⟨x, .inl hx, e⟩
        · obtain rfl : z = (y.1, T) := by simpa using hz
          rcases hT3 with e3 | e3
          · obtain ⟨x, hx, e⟩ := h.to_ y (by simp)
            exact ⟨x, .inl hx, by rw [e]; exact e3.symm⟩
          · exact ⟨s, .inr rfl, e3.symm⟩
      · intro z hz c h1 h2
        rcases List.mem_append.1 hz with hz | hz
        · obtain ⟨x, hx, e⟩ := h.inner z (by simp [hz]) c h1 h2; exact ⟨x, .inl hx, e⟩
        · obtain rfl : z = (y.1, T) := by simpa using hz
          simp only at h1 h2
          by_cases hc : c < y.2
          · obtain ⟨x, hx, e⟩ := h.inner y (by simp) c h1 hc
            exact ⟨x, .inl hx, e⟩
          · exact ⟨s, .inr rfl, by omega, by rcases hT3 with e3 | e3 <;> omega⟩
    · rename_i hlt
      refine ⟨?_, ?_, ?_, ?_, ?_, ?_⟩
      · intro z hz
        rcases List.mem_append.1 hz with hz | hz
        · exact h.ok z hz
        · obtain rfl : z = s := by simpa using hz
          exact hs
      · refine List.pairwise_append.2 ⟨h.chain, List.pairwise_singleton _ _, fun a ha b hb => ?_⟩
        obtain rfl : b = s := by simpa using hb
        rcases List.mem_append.1 ha with ha | ha
        · have := c3 a ha y (by simp); omega
        · obtain rfl : a = y := by simpa using ha
          omega
      · intro x hx
        rcases hx with hx | hx
        · obtain ⟨z, hz, h1, h2⟩ := h.cover x hx
          exact ⟨z, List.mem_append_left _ hz, h1, h2⟩
        · subst hx
          exact ⟨x, by simp, by omega, by omega⟩
      · intro z hz
        rcases List.mem_append.1 hz with hz | hz
        · obtain ⟨x, hx, e⟩ := h.from_ z hz; exact ⟨x, .inl hx, e⟩
        · obtain rfl : z = s := by simpa using hz
          exact ⟨z, .inr rfl, rfl⟩
      · intro z hz
        rcases List.mem_append.1 hz with hz | hz
        · obtain ⟨x, hx, e⟩ := h.to_ z hz; exact ⟨x, .inl hx, e⟩
        · obtain rfl : z = s := by simpa using hz
          exact ⟨z, .inr rfl, rfl⟩
      · intro z hz c h1 h2
        rcases List.mem_append.1 hz with hz | hz
        · obtain ⟨x, hx, e⟩ := h.inner z hz c h1 h2; exact ⟨x, .inl hx, e⟩
        · obtain rfl : z = s := by simpa using hz
          exact ⟨z, .inr rfl, h1, h2⟩

theorem IsMerge.nil : IsMerge (· ∈ ([] : List Sp)) [] := ⟨by simp, List.Pairwise.nil, by simp, by simp, by simp, by simp⟩

/-- merged in the order of their beginnings. -/
theorem fold_merge (l : List Sp) (hok : ∀ x ∈ l, x.1 < x.2) (hs : l.Pairwise (fun a b => a.1 ≤ b.1)) : IsMerge (· ∈ l) (l.foldl mstep []) := by
  suffices h : ∀ (r : List Sp), (∀ x ∈ r, x.1 < x.2) → r.reverse.Pairwise (fun a b => a.1 ≤ b.1) → IsMerge (· ∈ r.reverse) (r.reverse.foldl mstep []) by
    have := h l.reverse (fun x hx => hok x (List.mem_reverse.1 hx)) (by rwa [List.reverse_reverse])
    rwa [List.reverse_reverse] at this
  intro r
  induction r with
  | nil => intro _ _; exact IsMerge.nil
  | cons s r ih =>
    intro h1 h2
    rw [List.reverse_cons] at h2 ⊢
    obtain ⟨p1, _, p3⟩ := List.pairwise_append.1 h2
    rw [List.foldl_append]
    exact ((ih (fun x hx => h1 x (by simp [hx])) p1).step (h1 s (by simp)) (fun x hx => p3 x hx s (by simp))).congr (fun x => by simp)
end Go.Proofs.Ytdmflbdcfnpikaa.Spans
