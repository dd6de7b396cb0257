/- Values in two parts, each by itself, joined in either order, are as all one after the other; so are they turned round. No condition. -/
import Derived.Test.YtobhmlgmaofllaaPAggSplitsx4
namespace Go.Proofs.Ytobhmlgmaofllaa.Pure
open Go.RowKit Go.Proofs.Ytobhmlgmaofllaa.PAggSplits Go.Proofs.YtobhmlgmaofllaaW.PrintWords Go.Proofs.YtobhmlgmaofllaaW.PrintLast

abbrev SplAcc : Type := Int × Int × Int × Int
def splJ (a b : SplAcc) : SplAcc :=
  if a.1 = 0 then (if b.1 = 0 then (0, 0, 0, 0) else b) else if b.1 = 0 then a else (wrap64 (a.1 + b.1), wrap64 (a.2.1 + b.2.1), mn a.2.2.1 b.2.2.1, mx a.2.2.2 b.2.2.2)
def splOne (v : Int) : SplAcc := (1, v, v, v)
def splA : List Int → SplAcc
  | [] => (0, 0, 0, 0)
  | v :: l => splJ (splOne v) (splA l)
structure SplGood (n : Nat) (a : SplAcc) : Prop where
  count : a.1 = n
  zero : n = 0 → a = (0, 0, 0, 0)
  lo : -9223372036854775808 ≤ a.2.1
  hi : a.2.1 ≤ 9223372036854775807

theorem spl_wf {x : Int} (h : (Lit.int .i64 x).wf = true) : -9223372036854775808 ≤ x ∧ x ≤ 9223372036854775807 := by
  unfold Lit.wf at h
  rw [Bool.and_eq_true, decide_eq_true_eq, decide_eq_true_eq] at h
  exact h
theorem spl_wrap_range (x : Int) : -9223372036854775808 ≤ wrap64 x ∧ wrap64 x ≤ 9223372036854775807 := by
  unfold wrap64; omega

theorem splJ_zero_left {n : Nat} {a : SplAcc} (h : SplGood n a) : splJ (0, 0, 0, 0) a = a := by
  unfold splJ
  rw [if_pos rfl]
  by_cases e : a.1 = 0
  · rw [if_pos e]
    exact (h.zero (by have := h.count; omega)).symm
  · rw [if_neg e]
theorem splJ_zero_right {n : Nat} {a : SplAcc} (h : SplGood n a) : splJ a (0, 0, 0, 0) = a := by
  unfold splJ
  by_cases e : a.1 = 0
  · rw [if_pos e, if_pos rfl]
    exact (h.zero (by have := h.count; omega)).symm
  · rw [if_neg e, if_pos rfl]

theorem splJ_some {n m : Nat} {a b : SplAcc} (ha : SplGood n a) (hb : SplGood m b) (hn : n ≠ 0) (hm : m ≠ 0) :
    splJ a b = (wrap64 (a.1 + b.1), wrap64 (a.2.1 + b.2.1), mn a.2.2.1 b.2.2.1, mx a.2.2.2 b.2.2.2) := by
  have h1 := ha.count
  have h2 := hb.count
  unfold splJ
  rw [if_neg (by omega), if_neg (by omega)]

theorem splJ_good {n m : Nat} {a b : SplAcc} (ha : SplGood n a) (hb : SplGood m b) (hs : n + m ≤ 1000000) : SplGood (n + m) (splJ a b) := by
  by_cases hn : n = 0
  · rw [ha.zero hn, splJ_zero_left hb, hn, Nat.zero_add]; exact hb
  by_cases hm : m = 0
  · rw [hb.zero hm, splJ_zero_right ha, hm, Nat.add_zero]; exact ha
  rw [splJ_some ha hb hn hm]
  have h1 := ha.count
  have h2 := hb.count
  refine ⟨?_, fun h => by omega, (spl_wrap_range _).1, (spl_wrap_range _).2⟩
  show wrap64 (a.1 + b.1) = _
  unfold wrap64
  omega

theorem mn_comm (a b : Int) : mn a b = mn b a := by unfold mn; omega
theorem mx_comm (a b : Int) : mx a b = mx b a := by unfold mx; omega
theorem mn_assoc (a b c : Int) : mn (mn a b) c = mn a (mn b c) := by unfold mn; omega
theorem mx_assoc (a b c : Int) : mx (mx a b) c = mx a (mx b c) := by unfold mx; omega
theorem wrap_assoc (a b c : Int) : wrap64 (wrap64 (a + b) + c) = wrap64 (a + wrap64 (b + c)) := by unfold wrap64; omega

theorem splJ_comm {n m : Nat} {a b : SplAcc} (ha : SplGood n a) (hb : SplGood m b) : splJ a b = splJ b a := by
  by_cases hn : n = 0
  · rw [ha.zero hn, splJ_zero_left hb, splJ_zero_right hb]
  by_cases hm : m = 0
  · rw [hb.zero hm, splJ_zero_right ha, splJ_zero_left ha]
  rw [splJ_some ha hb hn hm, splJ_some hb ha hm hn, mn_comm, mx_comm, Int.add_comm a.1, Int.add_comm a.2.1]

theorem splJ_assoc {n m p : Nat} {a b c : SplAcc} (ha : SplGood n a) (hb : SplGood m b) (hc : SplGood p c) (hs : n + m + p ≤ 1000000) : splJ (splJ a b) c = splJ a (splJ b c) := by
  by_cases hn : n = 0
  · rw [ha.zero hn, splJ_zero_left hb, splJ_zero_left (splJ_good hb hc (by omega))]
  by_cases hm : m = 0
  · rw [hb.zero hm, splJ_zero_right ha, splJ_zero_left hc]
  by_cases hp : p = 0
  · rw [hc.zero hp, splJ_zero_right (splJ_good ha hb (by omega)), splJ_zero_right hb]
  rw [splJ_some (splJ_good ha hb (by omega)) hc (by omega) hp, splJ_some ha (splJ_good hb hc (by omega)) hn (by omega), splJ_some ha hb hn hm, splJ_some hb hc hm hp]
  simp only [mn_assoc, mx_assoc, wrap_assoc]

theorem splOne_good {v : Int} (h0 : -9223372036854775808 ≤ v) (h1 : v ≤ 9223372036854775807) : SplGood 1 (splOne v) := ⟨rfl, fun h => by omega, h0, h1⟩

def SplIn (l : List Int) : Prop := ∀ x ∈ l, -9223372036854775808 ≤ x ∧ x ≤ 9223372036854775807

theorem splA_good (l : List Int) (hw : SplIn l) (hl : l.length ≤ 1000000) : SplGood l.length (splA l) := by
  induction l with
  | nil => exact ⟨rfl, fun _ => rfl, by decide, by decide⟩
  | cons v l ih =>
    have hv := hw v (by simp)
    simp only [List.length_cons] at hl ⊢
    have := splJ_good (splOne_good hv.1 hv.2) (ih (fun x hx => hw x (by simp [hx])) (by omega)) (by omega)
    rw [Nat.add_comm]; exact this

theorem splA_append (l m : List Int) (hw : SplIn l) (hm : SplIn m) (hl : l.length + m.length ≤ 1000000) : splA (l ++ m) = splJ (splA l) (splA m) := by
  induction l with
  | nil => exact (splJ_zero_left (splA_good m hm (by simp at hl; omega))).symm
  | cons v l ih =>
    have hv := hw v (by simp)
    have hw' : SplIn l := fun x hx => hw x (by simp [hx])
    simp only [List.length_cons] at hl
    show splJ (splOne v) (splA (l ++ m)) = splJ (splJ (splOne v) (splA l)) (splA m)
    rw [ih hw' (by omega), splJ_assoc (splOne_good hv.1 hv.2) (splA_good l hw' (by omega)) (splA_good m hm (by omega)) (by omega)]

theorem splA_reverse (l : List Int) (hw : SplIn l) (hl : l.length ≤ 1000000) : splA l.reverse = splA l := by
  induction l with
  | nil => rfl
  | cons v l ih =>
    have hv := hw v (by simp)
    have hw' : SplIn l := fun x hx => hw x (by simp [hx])
    simp only [List.length_cons] at hl
    rw [List.reverse_cons, splA_append _ _ (fun x hx => hw' x (List.mem_reverse.1 hx)) (fun x hx => by simp at hx; subst hx; exact hv) (by simp; omega), ih hw' (by omega)]
    show splJ (splA l) (splJ (splOne v) (0, 0, 0, 0)) = _
    rw [splJ_zero_right (splOne_good hv.1 hv.2)]
    exact splJ_comm (splA_good l hw' (by omega)) (splOne_good hv.1 hv.2)

theorem spl_join (k : Nat) (a b : SplAcc) : agg_Join.f (k + 1) a.1 a.2.1 a.2.2.1 a.2.2.2 b.1 b.2.1 b.2.2.1 b.2.2.2 = some (splJ a b) := by
  unfold agg_Join.f splJ
  simp only [agg_Join.j0]
  by_cases ha : a.1 = 0
  · rw [if_pos ha, if_pos ha, if_pos ha]
    by_cases hb : b.1 = 0
    · rw [if_pos hb, hb]; simp
    · rw [if_neg hb, beq_eq_false_iff_ne.2 hb, if_neg Bool.false_ne_true]
  · rw [if_neg ha, if_neg ha, if_neg ha, if_neg Bool.false_ne_true]
    by_cases hb : b.1 = 0
    · rw [if_pos hb, if_pos hb]
    · rw [if_neg hb, if_neg hb]

theorem spl_join_one (k : Nat) (a : SplAcc) (v : Int) : agg_Join.f (k + 1) a.1 a.2.1 a.2.2.1 a.2.2.2 1 v v v = some (splJ a (splOne v)) := spl_join k a (splOne v)

theorem spl_rd (l : List Int) (i : Nat) (hi : i < l.length) : rd l (i : Int) = l[i] := by
  unfold rd
  rw [List.getD_eq_getElem?_getD, Int.toNat_natCast, List.getElem?_eq_getElem hi]
  rfl

theorem splA_step (l : List Int) (i : Nat) (hlt : i < l.length) : splA (l.drop i) = splJ (splOne l[i]) (splA (l.drop (i + 1))) := by
  rw [List.drop_eq_getElem_cons hlt, splA]

theorem spl_w (i : Nat) (h : i ≤ 1000) : wrap64 ((i : Int) + 1) = ((i + 1 : Nat) : Int) := by unfold wrap64; omega

theorem spl_round (k : Nat) (l : List Int) (i : Nat) (hl : l.length ≤ 1000) (hlt : i < l.length) (a b : SplAcc) (hb : splJ a (splOne l[i]) = b) :
    watershedlaw10_fold.l0 (k + 1 + 1) l (i : Int) a.1 a.2.1 a.2.2.1 a.2.2.2 = watershedlaw10_fold.l0 (k + 1) l ((i + 1 : Nat) : Int) b.1 b.2.1 b.2.2.1 b.2.2.2 := by
  have h1 : (i : Int) < (l.length : Int) := by omega
  have h2 : 0 ≤ (i : Int) := by omega
  rw [watershedlaw10_fold.l0, if_pos h1, if_pos h2, spl_rd l i hlt, agg_One.f, Option.bind_some]
  rw [spl_join_one, hb, Option.bind_some]
  rw [spl_w i (by omega)]

theorem spl_fold (l : List Int) (hl : l.length ≤ 1000) (hw : SplIn l) (d : Nat) : ∀ (k i n : Nat) (a : SplAcc), i ≤ l.length → l.length - i = d → d + 1 < k → SplGood n a → n + d ≤ 2000 →
    watershedlaw10_fold.l0 k l (i : Int) a.1 a.2.1 a.2.2.1 a.2.2.2 = some (splJ a (splA (l.drop i))) := by
  induction d with
  | zero =>
    intro k i n a h1 hd hk hg hn
    obtain ⟨k, rfl⟩ : ∃ m, k = m + 1 := ⟨k - 1, by omega⟩
    simp only [watershedlaw10_fold.l0]
    rw [if_neg (by omega), List.drop_of_length_le (by omega)]
    show _ = some (splJ a (0, 0, 0, 0))
    rw [splJ_zero_right hg]
  | succ d ih =>
    intro k i n a h1 hd hk hg hn
    obtain ⟨k, rfl⟩ : ∃ m, k = m + 1 + 1 := ⟨k - 2, by omega⟩
    have hlt : i < l.length := by omega
    have hv := hw l[i] (List.getElem_mem hlt)
    have hg1 := splOne_good hv.1 hv.2
    have hgd := splA_good (l.drop (i + 1)) (fun x hx => hw x (List.mem_of_mem_drop hx)) (by simp; omega)
    have hlen : (l.drop (i + 1)).length ≤ 1000 := by simp; omega
    have hstep := ih (k + 1) (i + 1) (n + 1) (splJ a (splOne l[i])) (by omega) (by omega) (by omega) (splJ_good hg hg1 (by omega)) (by omega)
    rw [spl_round k l i hl hlt a _ rfl, hstep, splA_step l i hlt, splJ_assoc hg hg1 hgd (by omega)]

theorem spl_foldf (l : List Int) (hl : l.length ≤ 1000) (hw : SplIn l) (k : Nat) (hk : l.length + 1 < k) : watershedlaw10_fold.f k l = some (splA l) := by
  have h := spl_fold l hl hw l.length k 0 0 (0, 0, 0, 0) (by omega) (by omega) hk ⟨rfl, fun _ => rfl, by decide, by decide⟩ (by omega)
  unfold watershedlaw10_fold.f
  rw [List.drop_zero, splJ_zero_left (splA_good l hw (by omega))] at h
  exact h

theorem spl_awake (k : Nat) : watershedlaw10_awake.f (k + 1) = some true :=
  at_rounds (g := watershedlaw10_awake.f) watershedlaw10_awake.mono (k := 1) (by omega) (by decide +kernel)

theorem spl_beq (a : SplAcc) : (a.1 == a.1 && (a.2.1 == a.2.1 && (a.2.2.1 == a.2.2.1 && (a.2.2.2 == a.2.2.2)))) = true := by simp

theorem spl_turn (l : List Int) (hl : l.length ≤ 1000) (hw : SplIn l) (at_ : Nat) (hat : at_ ≤ l.length) (d : Nat) : ∀ (k i : Nat) (t : List Int), i = d → i ≤ l.length → t = (l.drop i).reverse → l.length + d + 2 < k →
    watershedlaw10_AggSplits.l0 k l t ((i : Int) - 1) (splA (l.take at_)).1 (splA (l.take at_)).2.1 (splA (l.take at_)).2.2.1 (splA (l.take at_)).2.2.2 (splA (l.drop at_)).1 (splA (l.drop at_)).2.1 (splA (l.drop at_)).2.2.1 (splA (l.drop at_)).2.2.2 = some true := by
  induction d with
  | zero =>
    intro k i t hi h1 ht hk
    subst hi
    obtain ⟨k, rfl⟩ : ∃ m, k = m + 1 + 1 := ⟨k - 2, by omega⟩
    have hwt : SplIn (l.take at_) := fun x hx => hw x (List.mem_of_mem_take hx)
    have hwd : SplIn (l.drop at_) := fun x hx => hw x (List.mem_of_mem_drop hx)
    have hga := splA_good (l.take at_) hwt (by simp; omega)
    have hgb := splA_good (l.drop at_) hwd (by simp; omega)
    have hall : splJ (splA (l.take at_)) (splA (l.drop at_)) = splA l := by
      rw [← splA_append _ _ hwt hwd (by simp; omega), List.take_append_drop]
    have hall2 : splJ (splA (l.drop at_)) (splA (l.take at_)) = splA l := by
      rw [splJ_comm hgb hga, hall]
    have hj1 := spl_join k (splA (l.take at_)) (splA (l.drop at_))
    have hj2 := spl_join k (splA (l.drop at_)) (splA (l.take at_))
    rw [hall] at hj1
    rw [hall2] at hj2
    have hf := spl_foldf l hl hw (k + 1) (by omega)
    have hft : watershedlaw10_fold.f (k + 1) t = some (splA l) := by
      rw [ht, List.drop_zero, spl_foldf l.reverse (by simp; omega) (fun x hx => hw x (List.mem_reverse.1 hx)) (k + 1) (by simp; omega), splA_reverse l hw (by omega)]
    conv => lhs; unfold watershedlaw10_AggSplits.l0
    rw [if_neg (by omega), hf, spl_awake, hj1, hj2, hft]
    simp only [Option.bind_some, spl_beq, if_true]
  | succ d ih =>
    intro k i t hi h1 ht hk
    subst hi
    obtain ⟨k, rfl⟩ : ∃ m, k = m + 1 := ⟨k - 1, by omega⟩
    have hlt : d < l.length := by omega
    have hlen : t.length = l.length - (d + 1) := by rw [ht]; simp
    have hstep := ih k d (t ++ [l[d]]) rfl (by omega) (by rw [ht, List.drop_eq_getElem_cons hlt, List.reverse_cons]) (by omega)
    rw [← hstep]
    conv => lhs; unfold watershedlaw10_AggSplits.l0
    rw [if_pos (by omega), if_pos (by omega), if_pos (by omega), if_pos (by omega)]
    rw [show ((d + 1 : Nat) : Int) - 1 = (d : Int) from by omega, spl_rd l d hlt, show wrap64 ((d : Int) - 1) = (d : Int) - 1 from by unfold wrap64; omega]

theorem spl_j1 (l : List Int) (hl : l.length ≤ 1000) (hw : SplIn l) (a : Int) (h0 : 0 ≤ a) (h1 : a ≤ l.length) (k : Nat) (hk : 2 * l.length + 5 < k) : watershedlaw10_AggSplits.j1 k l a = some true := by
  obtain ⟨n, rfl⟩ := Int.eq_ofNat_of_zero_le h0
  obtain ⟨k, rfl⟩ : ∃ m, k = m + 1 := ⟨k - 1, by omega⟩
  simp only [watershedlaw10_AggSplits.j1, Int.toNat_natCast]
  rw [if_pos h0, if_pos h1]
  rw [spl_foldf (l.take n) (by simp; omega) (fun x hx => hw x (List.mem_of_mem_take hx)) k (by simp; omega), spl_foldf (l.drop n) (by simp; omega) (fun x hx => hw x (List.mem_of_mem_drop hx)) k (by simp; omega)]
  simp only [Option.bind_some]
  rw [show wrap64 ((l.length : Int) - 1) = (l.length : Int) - 1 from by unfold wrap64; omega]
  exact spl_turn l hl hw n (by omega) l.length k l.length [] rfl (by omega) (by simp) (by omega)

theorem AggSplits : watershedlaw10_AggSplits.Pure := by
  intro l a _ _ hw _
  have hin : SplIn l := fun x hx => spl_wf (hw x hx)
  by_cases hl : (l.length : Int) > 1000
  · exact ⟨0, by unfold watershedlaw10_AggSplits.f; rw [if_pos hl]⟩
  · refine ⟨2 * l.length + 7, ?_⟩
    unfold watershedlaw10_AggSplits.f
    rw [if_neg hl]
    simp only [watershedlaw10_AggSplits.j0]
    have hm : wrap64 ((l.length : Int) / 2) = (l.length : Int) / 2 := by unfold wrap64; omega
    by_cases h0 : a < 0
    · rw [if_pos h0]
      simp only [if_true]
      rw [hm]
      exact spl_j1 l (by omega) hin _ (by omega) (by omega) _ (by omega)
    · rw [if_neg h0]
      by_cases h1 : a > (l.length : Int)
      · rw [decide_eq_true h1]
        simp only [if_true]
        rw [hm]
        exact spl_j1 l (by omega) hin _ (by omega) (by omega) _ (by omega)
      · rw [decide_eq_false h1]
        simp only [Bool.false_eq_true, if_false]
        exact spl_j1 l (by omega) hin _ (by omega) (by omega) _ (by omega)

end Go.Proofs.Ytobhmlgmaofllaa.Pure
