/- ControlAcks in plain words: a flow on one worker, triggered; parts that are acked. No program here. -/
import Derived.Test.YtkjajlolfcioiaaGreatDoorYGraphPlain
namespace Go.Proofs.YtkjajlolfcioiaaGreatDoor.Ctl
open Go.Proofs.YtkjajlolfcioiaaGreatDoor.Scan Go.Proofs.YtkjajlolfcioiaaGreatDoor.Plan

/-! ### topics: the last one of a name is the first -/
theorem topsE_names : ∀ (l ahead : List Top), topsE ahead l = 0 → ∀ (i : Nat) (t : Top), l[i]? = some t → ∀ g ∈ ahead ++ l.take i, g.name ≠ t.name
  | [], _, _, i, t, h => by simp at h
  | x :: r, ahead, h, i, t, ht => by
    rw [topsE] at h
    by_cases hx : topE ahead x = 0
    · rw [if_pos hx] at h
      cases i with
      | zero =>
        obtain rfl : x = t := by simpa using ht
        intro g hg
        rw [List.take_zero, List.append_nil] at hg
        unfold topE at hx
        split at hx
        · cases hx
        · split at hx
          · cases hx
          · rename_i hn
            exact fun e => hn ⟨g, hg, e⟩
      | succ i =>
        have := topsE_names r (ahead ++ [x]) h i t (by simpa using ht)
        intro g hg
        refine this g ?_
        rw [List.take_succ_cons] at hg
        simpa using hg
    · rw [if_neg hx] at h
      exact absurd h hx
theorem partsOf_snoc (nm : ByteArray) (t : Top) : ∀ l : List Top, (∀ g ∈ l, g.name ≠ t.name) → partsOf (l ++ [t]) nm = if t.name = nm then t.parts else partsOf l nm
  | [], _ => by simp [partsOf]
  | x :: r, h => by
    have i := partsOf_snoc nm t r fun g hg => h g (List.mem_cons_of_mem _ hg)
    have hx := h x (by simp)
    rw [List.cons_append, partsOf, partsOf, i]
    by_cases e : x.name = nm
    · rw [if_pos e, if_pos e, if_neg (fun q => hx (e.trans q.symm))]
    · rw [if_neg e, if_neg e]
theorem plan_names {tops : List Top} {fl : List Flw} (h : planE ⟨tops, fl⟩ = 0) {i : Nat} {t : Top} (ht : tops[i]? = some t) (nm : ByteArray) : partsOf (tops.take (i + 1)) nm = if t.name = nm then t.parts else partsOf (tops.take i) nm := by
  have h0 : topsE [] tops = 0 := by
    unfold planE at h
    split at h
    · cases h
    · split at h
      · assumption
      · rename_i hn
        exact absurd h hn
  rw [List.take_add_one, ht]
  refine partsOf_snoc nm t _ fun g hg => topsE_names tops [] h0 i t ht g (by simpa using hg)

/-! ### the first flow, on worker 1 -/
/-- the job of a flow on worker 1 whose checkpoint 1 is under way. -/
def ackingJ (j : Jb) (L : List (Int × Int)) : Prop := j.att = 1 ∧ j.places ≠ [] ∧ j.num = 1 ∧ j.done = 0 ∧ j.acked = L
def joinX : Cmd := ⟨1, 0, 0, 1, 1, 0, 0, []⟩
def startX : Cmd := ⟨3, 0, 0, 0, 0, 0, 0, []⟩
def trigX : Cmd := ⟨6, 0, 0, 0, 0, 0, 0, []⟩
def failX : Cmd := ⟨4, 0, 1, 0, 0, 0, 0, []⟩
def ackX (P : List (Int × Int)) : Cmd := ⟨7, 0, 1, 1, 0, 0, 0, P⟩
theorem live_one : liveL (setLife (fun _ => 0) 1 1) = [1] := by decide +kernel
theorem moved_new (f : Flw) (live : List Int) : moved 0 1 live ⟨0, f.readers, f.keepers, 0, 0, 1, [], []⟩ = ⟨0, f.readers, f.keepers, 0, 0, 1, [], []⟩ := by
  unfold moved
  rw [if_neg (by omega), if_neg (by simp)]
/-- joined, started, triggered. -/
theorem acks_begin {tops : List Top} {f : Flw} {fl : List Flw} (h : planE ⟨tops, f :: fl⟩ = 0) : ∃ j c, (doC (newC tops (f :: fl)) joinX).2 = 0 ∧ (doC (doC (newC tops (f :: fl)) joinX).1 startX).2 = 0 ∧ doC (doC (doC (newC tops (f :: fl)) joinX).1 startX).1 trigX = (c, 0) ∧
    c.tops = tops ∧ c.flows = f :: fl ∧ c.jobs[0]? = some j ∧ ackingJ j [] := by
  have hf := plan_flow h f (by simp)
  have e1 : doC (newC tops (f :: fl)) joinX = (⟨tops, f :: fl, setLife (fun _ => 0) 1 1, (f :: fl).map fun f => ⟨0, f.readers, f.keepers, 0, 0, 1, [], []⟩⟩, 0) := by
    unfold doC
    rw [if_pos (.inl rfl)]
    unfold workerC
    have he : workerE (newC tops (f :: fl)) joinX = 0 := rfl
    rw [if_neg (by rw [he]; simp)]
    show ((⟨tops, f :: fl, setLife (fun _ => 0) 1 1, ((f :: fl).map fun f => (⟨0, f.readers, f.keepers, 0, 0, 1, [], []⟩ : Jb)).map (moved 0 1 (liveL (setLife (fun _ => 0) 1 1)))⟩ : Ct), (0 : Int)) = _
    have em : (moved 0 1 (liveL (setLife (fun _ => 0) 1 1)) ∘ fun f : Flw => (⟨0, f.readers, f.keepers, 0, 0, 1, [], []⟩ : Jb)) = fun f : Flw => (⟨0, f.readers, f.keepers, 0, 0, 1, [], []⟩ : Jb) := funext fun f => moved_new f _
    rw [List.map_map, em]
  rw [e1]
  have e2 : doC (⟨tops, f :: fl, setLife (fun _ => 0) 1 1, (f :: fl).map fun f => ⟨0, f.readers, f.keepers, 0, 0, 1, [], []⟩⟩ : Ct) startX = (⟨tops, f :: fl, setLife (fun _ => 0) 1 1, ⟨1, f.readers, f.keepers, 0, 0, 1, placesOf [1] 1 (f.readers + f.keepers), []⟩ :: fl.map fun f => ⟨0, f.readers, f.keepers, 0, 0, 1, [], []⟩⟩, 0) := by
    show ((⟨tops, f :: fl, setLife (fun _ => 0) 1 1, beginJ (liveL (setLife (fun _ => 0) 1 1)) (⟨0, f.readers, f.keepers, 0, 0, 1, [], []⟩ : Jb) :: fl.map fun f => (⟨0, f.readers, f.keepers, 0, 0, 1, [], []⟩ : Jb)⟩ : Ct), (0 : Int)) = _
    rw [live_one]
    rfl
  rw [e2]
  have hpl : placesOf [1] 1 (f.readers + f.keepers) ≠ [] := fun e => by
    have := (placesOf_nil (live := [1]) (a := 1) (n := f.readers + f.keepers) (by have := hf.rd; have := hf.kp; omega)).1 e
    cases this
  refine ⟨⟨1, f.readers, f.keepers, 0, 1, 2, placesOf [1] 1 (f.readers + f.keepers), []⟩, ⟨tops, f :: fl, setLife (fun _ => 0) 1 1, ⟨1, f.readers, f.keepers, 0, 1, 2, placesOf [1] 1 (f.readers + f.keepers), []⟩ :: fl.map fun f => ⟨0, f.readers, f.keepers, 0, 0, 1, [], []⟩⟩, rfl, rfl, ?_, rfl, rfl, rfl, rfl, hpl, rfl, rfl, rfl⟩
  generalize placesOf [1] 1 (f.readers + f.keepers) = P at hpl
  have e3 : triggerJ (⟨1, f.readers, f.keepers, 0, 0, 1, P, []⟩ : Jb) = (⟨1, f.readers, f.keepers, 0, 1, 2, P, []⟩, 0) := by
    unfold triggerJ
    rw [if_neg hpl]
    rfl
  show ((⟨tops, f :: fl, setLife (fun _ => 0) 1 1, (triggerJ (⟨1, f.readers, f.keepers, 0, 0, 1, P, []⟩ : Jb)).1 :: fl.map fun f => (⟨0, f.readers, f.keepers, 0, 0, 1, [], []⟩ : Jb)⟩ : Ct), (triggerJ (⟨1, f.readers, f.keepers, 0, 0, 1, P, []⟩ : Jb)).2) = _
  rw [e3]

/-! ### acks -/
theorem set_zero {c : Ct} {j : Jb} (h : c.jobs[0]? = some j) (j' : Jb) : (c.jobs.set 0 j')[0]? = some j' := by
  rw [List.getElem?_set_self]
  exact (List.getElem?_eq_some_iff.1 h).1
theorem do_ack {c : Ct} {j : Jb} (h : c.jobs[0]? = some j) (P : List (Int × Int)) : doC c (ackX P) = ({ c with jobs := c.jobs.set 0 (ackJ (partsAt c 0) (ackX P) j).1 }, (ackJ (partsAt c 0) (ackX P) j).2) := by
  unfold doC
  rw [if_neg (by show ¬ ((7 : Int) = 1 ∨ (7 : Int) = 2); decide), if_neg (by show ¬ ((7 : Int) < 3 ∨ (8 : Int) < 7 ∨ (0 : Int) < 0); decide)]
  have e0 : (ackX P).flow.toNat = 0 := rfl
  rw [e0, h]
  rfl
theorem do_fail {c : Ct} {j : Jb} (h : c.jobs[0]? = some j) (L : List (Int × Int)) (hj : ackingJ j L) : ∃ j', doC c failX = ({ c with jobs := c.jobs.set 0 j' }, 0) ∧ j'.att = 2 := by
  obtain ⟨h1, h2, -⟩ := hj
  refine ⟨beginJ (liveL c.lives) j, ?_, by show j.att + 1 = 2; omega⟩
  unfold doC
  rw [if_neg (by show ¬ ((4 : Int) = 1 ∨ (4 : Int) = 2); decide), if_neg (by show ¬ ((4 : Int) < 3 ∨ (8 : Int) < 4 ∨ (0 : Int) < 0); decide)]
  have e0 : failX.flow.toNat = 0 := rfl
  rw [e0, h]
  have e : jobDo c failX j = (beginJ (liveL c.lives) j, 0) := by
    show failJ (liveL c.lives) failX j = _
    unfold failJ
    rw [if_neg]
    rintro (e | e | e)
    · omega
    · exact e h1.symm
    · exact h2 e
  show (({ c with jobs := c.jobs.set 0 (jobDo c failX j).1 } : Ct), (jobDo c failX j).2) = _
  rw [e]
/-- of another attempt, or of none. -/
theorem ack_stale {c : Ct} {j : Jb} (h : c.jobs[0]? = some j) (P : List (Int × Int)) (hj : j.att ≠ 1 ∨ j.num ≠ 1) : doC c (ackX P) = (c, 210) := by
  have e : ackJ (partsAt c 0) (ackX P) j = (j, 210) := by
    unfold ackJ
    rw [if_pos]
    rcases hj with hj | hj
    · exact .inr (.inl (fun e => hj e.symm))
    · exact .inr (.inr (.inl (fun e => hj e.symm)))
  rw [do_ack h, e]
  have : c.jobs.set 0 j = c.jobs := by
    have hl := (List.getElem?_eq_some_iff.1 h).1
    have := (List.getElem?_eq_some_iff.1 h).2
    rw [← this, List.set_getElem_self]
  show (({ c with jobs := c.jobs.set 0 j } : Ct), (210 : Int)) = _
  rw [this]
theorem ack_bad {c : Ct} {j : Jb} {L : List (Int × Int)} (h : c.jobs[0]? = some j) (hj : ackingJ j L) (P : List (Int × Int)) (hP : ∃ p ∈ P, ¬ PartOk (partsAt c 0) p) : doC c (ackX P) = (c, 1) := by
  obtain ⟨h1, h2, h3, -, -⟩ := hj
  have e : ackJ (partsAt c 0) (ackX P) j = (j, 1) := by
    unfold ackJ
    rw [if_neg, if_pos (show ∃ p ∈ (ackX P).parts, ¬ PartOk (partsAt c 0) p from hP)]
    rintro (e | e | e | e)
    · exact h2 e
    · exact e h1.symm
    · exact e h3.symm
    · omega
  rw [do_ack h, e]
  have : c.jobs.set 0 j = c.jobs := by
    have := (List.getElem?_eq_some_iff.1 h).2
    rw [← this, List.set_getElem_self]
  show (({ c with jobs := c.jobs.set 0 j } : Ct), (1 : Int)) = _
  rw [this]
theorem ack_good {c : Ct} {j : Jb} {L : List (Int × Int)} (h : c.jobs[0]? = some j) (hj : ackingJ j L) (P : List (Int × Int)) (hP : ∀ p ∈ P, PartOk (partsAt c 0) p) :
    ∃ j', doC c (ackX P) = ({ c with jobs := c.jobs.set 0 j' }, 0) ∧ ((((addP L P).length : Int) = partsAt c 0 + 16 ∧ j'.done = 1 ∧ j'.num = 0) ∨ (((addP L P).length : Int) ≠ partsAt c 0 + 16 ∧ ackingJ j' (addP L P))) := by
  obtain ⟨h1, h2, h3, h4, h5⟩ := hj
  subst h5
  by_cases hl : ((addP j.acked P).length : Int) = partsAt c 0 + 16
  · have e : ackJ (partsAt c 0) (ackX P) j = ({ j with done := j.num, num := 0, acked := [] }, 0) := by
      unfold ackJ
      rw [if_neg, if_neg, if_pos (show ((addP j.acked (ackX P).parts).length : Int) = partsAt c 0 + 16 from hl)]
      · rintro ⟨p, hp, hn⟩
        exact hn (hP p hp)
      · rintro (e | e | e | e)
        · exact h2 e
        · exact e h1.symm
        · exact e h3.symm
        · omega
    exact ⟨_, by rw [do_ack h, e], .inl ⟨hl, h3, rfl⟩⟩
  · have e : ackJ (partsAt c 0) (ackX P) j = ({ j with acked := addP j.acked P }, 0) := by
      unfold ackJ
      rw [if_neg, if_neg, if_neg (show ¬ ((addP j.acked (ackX P).parts).length : Int) = partsAt c 0 + 16 from hl)]
      · rfl
      · rintro ⟨p, hp, hn⟩
        exact hn (hP p hp)
      · rintro (e | e | e | e)
        · exact h2 e
        · exact e h1.symm
        · exact e h3.symm
        · omega
    exact ⟨{ j with acked := addP j.acked P }, by rw [do_ack h, e], .inr ⟨hl, h1, h2, h3, h4, rfl⟩⟩

/-! ### which parts were acked -/
theorem insP_len (p : Int × Int) : ∀ l : List (Int × Int), l.Pairwise PLt → (insP p l).length = if p ∈ l then l.length else l.length + 1
  | [], _ => by simp [insP]
  | x :: r, h => by
    obtain ⟨h1, h2⟩ := List.pairwise_cons.1 h
    rw [insP]
    split
    · rename_i hp
      have : p ∉ x :: r := by
        rw [List.mem_cons]
        rintro (e | e)
        · subst e
          exact PLt.irrefl _ hp
        · exact PLt.irrefl _ (hp.trans (h1 p e))
      rw [if_neg this]
      rfl
    · split
      · rename_i hx
        rw [if_pos (by rw [hx]; exact List.mem_cons_self)]
      · rename_i hx
        rw [List.length_cons, insP_len p r h2]
        by_cases hr : p ∈ r
        · rw [if_pos hr, if_pos (List.mem_cons_of_mem _ hr)]
          rfl
        · rw [if_neg hr, if_neg]
          · rfl
          · rw [List.mem_cons]
            rintro (e | e)
            · exact hx e
            · exact hr e
theorem insP_le (p : Int × Int) : ∀ l : List (Int × Int), (insP p l).length ≤ l.length + 1
  | [] => by simp [insP]
  | x :: r => by
    rw [insP]
    split
    · simp
    · split
      · simp
      · have := insP_le p r
        simp only [List.length_cons]
        omega
theorem addP_le : ∀ (P L : List (Int × Int)), (addP L P).length ≤ L.length + P.length
  | [], L => Nat.le_refl _
  | p :: r, L => by
    have h1 := addP_le r (insP p L)
    have h2 := insP_le p L
    show (addP (insP p L) r).length ≤ _
    simp only [List.length_cons]
    omega
theorem addP_snoc (L P : List (Int × Int)) (p : Int × Int) : addP L (P ++ [p]) = insP p (addP L P) := by
  unfold addP
  rw [List.foldl_append]
  rfl
/-- the cells of 'has'. -/
def hasL (L : List (Int × Int)) : List Bool := (List.range 32).map fun i : Nat => decide ((((i / 16 + 1 : Nat) : Int), ((i % 16 : Nat) : Int)) ∈ L)
theorem hasL_len (L : List (Int × Int)) : (hasL L).length = 32 := by simp [hasL]
theorem hasL_get (L : List (Int × Int)) (a b : Nat) (ha : a < 2) (hb : b < 16) : (hasL L)[a * 16 + b]? = some (decide ((((a + 1 : Nat) : Int), (b : Int)) ∈ L)) := by
  unfold hasL
  rw [List.getElem?_map, List.getElem?_range (by omega)]
  have e1 : (a * 16 + b) / 16 = a := by omega
  have e2 : (a * 16 + b) % 16 = b := by omega
  simp only [Option.map_some, e1, e2]
theorem hasL_ins (L : List (Int × Int)) (a b : Nat) (hb : b < 16) : hasL (insP (((a + 1 : Nat) : Int), (b : Int)) L) = (hasL L).set (a * 16 + b) true := by
  refine List.ext_getElem (by simp [hasL]) fun i h1 h2 => ?_
  have hi : i < 32 := by simpa [hasL] using h1
  rw [List.getElem_set]
  simp only [hasL, List.getElem_map, List.getElem_range]
  by_cases e : a * 16 + b = i
  · rw [if_pos e]
    subst e
    have e1 : (a * 16 + b) / 16 = a := by omega
    have e2 : (a * 16 + b) % 16 = b := by omega
    rw [e1, e2]
    exact decide_eq_true ((insP_mem _ _ _).2 (.inl rfl))
  · rw [if_neg e, decide_eq_decide, insP_mem]
    constructor
    · rintro (q | q)
      · simp only [Prod.mk.injEq] at q
        omega
      · exact q
    · exact .inr
end Go.Proofs.YtkjajlolfcioiaaGreatDoor.Ctl
