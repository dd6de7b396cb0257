/- What moves, walked. -/
import Derived.Test.YtfmdflkbgfnehaaHandRange
import Derived.Maps.AppendAt
import Derived.OwnWalk
import Derived.Deep.DeepMust
namespace Go.Proofs.Ytfmdflkbgfnehaa.Hand
open Go.RowKit Go.Shelf Go.Proofs.Ytfmdflkbgfnehaa
attribute [local go_sem] Oper.semAt_some

def mvOf (m n : Nat) (g : Fin 16) : List Value := if own16 m g = own16 n g then [] else [.int .i64 (g.val : Int), .int .i64 (own16 m g), .int .i64 (own16 n g)]
def mvN (m n : Nat) (l : List (Fin 16)) : Nat := (l.filter fun g => own16 m g ≠ own16 n g).length
def mvL (m n : Nat) (l : List (Fin 16)) : List Value := l.flatMap (mvOf m n)

theorem info44 : (Try.prog.info? 44).map (fun i => (i.zero, i.size, i.bytes)) = some (some (.agg #[.int .i64 0, .int .i64 0, .int .i64 0]), 3, 24) := by kernel_rfl

theorem cells3 : Try.prog.underlying 44 = some (.array 3 3) := by kernel_rfl
theorem eqA44 (d : Nat) (w : World) (x0 y0 x1 y1 x2 y2 : Int) :
    (Op.equalIn (d + 2) 44 (.agg #[.int .i64 x0, .int .i64 x1, .int .i64 x2]) (.agg #[.int .i64 y0, .int .i64 y1, .int .i64 y2])).run Try.prog w = .ok (x0 == y0 && (x1 == y1 && (x2 == y2))) w := by
  rw [Op.equalIn]
  have hs : ∀ w, (sizeOf 3).run Try.prog w = .ok 1 w := fun _ => by kernel_rfl
  simp only [Sem.run_bind, run_underlying cells3, Result.andThen_ok, hs, Std.Legacy.Range.forIn_eq_forIn_range', Std.Legacy.Range.size]
  have pp : ∀ (a b c : Value) (i : Nat) (v : Value), #[a, b, c][i]? = some v → (part 3 #[a, b, c] (i * 1)).run Try.prog w = .ok v w := by
    intro a b c i v hv
    simp [part, isAgg, run_underlying Try.underlying3, hv]
  have p0 := fun a b c : Value => pp a b c 0 a rfl
  have p1 := fun a b c : Value => pp a b c 1 b rfl
  have p2 := fun a b c : Value => pp a b c 2 c rfl
  have pe : ∀ a b : Int, (Op.equalIn (d + 1) 3 (.int .i64 a) (.int .i64 b)).run Try.prog w = .ok (a == b) w := fun a b => run_equalIn_int w d 3 .i64 .i64 a b Try.underlying3
  have l : List.range' 0 3 1 = [0, 1, 2] := rfl
  simp only [Nat.sub_zero, Nat.add_sub_cancel, Nat.div_one, l, List.forIn_cons, List.forIn_nil, Sem.run_bind, p0, Result.andThen_ok, pe]
  cases h0 : (x0 == y0)
  · simp
  · simp only [Bool.not_true, Bool.false_eq_true, if_false, Sem.run_pure, Result.andThen_ok, Bool.true_and, Sem.run_bind, p1, pe]
    cases h1 : (x1 == y1)
    · simp
    · simp only [Bool.not_true, Bool.false_eq_true, if_false, Sem.run_pure, Result.andThen_ok, Bool.true_and, Sem.run_bind, p2, pe]
      cases h2 : (x2 == y2) <;> simp

theorem mvN_le (m n : Nat) (l : List (Fin 16)) : mvN m n l ≤ l.length := List.length_filter_le _ _
theorem mvN_same (m n : Nat) (l : List (Fin 16)) (x : Fin 16) (h : (x.val : Int) * (m : Int) / 16 = (x.val : Int) * (n : Int) / 16) : mvN m n (l ++ [x]) = mvN m n l := by
  simp [mvN, own16, h]
theorem mvL_same (m n : Nat) (l : List (Fin 16)) (x : Fin 16) (h : (x.val : Int) * (m : Int) / 16 = (x.val : Int) * (n : Int) / 16) : mvL m n (l ++ [x]) = mvL m n l := by
  simp [mvL, mvOf, own16, h]
theorem mvN_more (m n : Nat) (l : List (Fin 16)) (x : Fin 16) (h : ¬ (x.val : Int) * (m : Int) / 16 = (x.val : Int) * (n : Int) / 16) : mvN m n (l ++ [x]) = mvN m n l + 1 := by
  simp [mvN, own16, h]
theorem mvL_more (m n : Nat) (l : List (Fin 16)) (x : Fin 16) (h : ¬ (x.val : Int) * (m : Int) / 16 = (x.val : Int) * (n : Int) / 16) : mvL m n (l ++ [x]) = mvL m n l ++ [.int .i64 (x.val : Int), .int .i64 ((x.val : Int) * (m : Int) / 16), .int .i64 ((x.val : Int) * (n : Int) / 16)] := by
  simp [mvL, mvOf, own16, h]
theorem lt_of_cell {W : World} {b o : Nat} {v : Value} (h : W.cell? ⟨b, o, none⟩ = some v) : b < W.heap.size := by
  rcases Nat.lt_or_ge b W.heap.size with h' | h'
  · exact h'
  · simp [World.cell?, Array.getElem?_eq_none h'] at h
theorem cell_three_new (w : World) (a b c : Value) (t : TypeId) {g : Nat} (hg : g = w.heap.size) : ∀ j u, [a, b, c][j]? = some u → (w.alloc (.cells #[a, b, c] t)).cell? ((⟨g, 0, none⟩ : Addr).add j) = some u := by
  subst hg
  intro j u h
  rcases j with _ | _ | _ | j
  · obtain rfl := Option.some.inj h; simp [Addr.add]
  · obtain rfl := Option.some.inj h; simp [Addr.add]
  · obtain rfl := Option.some.inj h; simp [Addr.add]
  · cases h
theorem Own.and' {β : Type} {I I' : β → World → Prop} (h : Own I) (h' : Own I') : Own (fun s W => I s W ∧ I' s W) := fun s A B row hs hg hr => ⟨h s A B row hs.1 hg hr, h' s A B row hs.2 hg hr⟩

set_option maxRecDepth 100000 in
set_option maxHeartbeats 2000000 in
theorem Moves_good (m n : Nat) (hm0 : 1 ≤ m) (hm : m ≤ 8) (hn0 : 1 ≤ n) (hn : n ≤ 8) (w : World) :
    Calls Try.prog 19 #[.int .i64 m, .int .i64 n] w fun e w' => ∃ v, e = .returned (.tuple #[v, .int .i64 0]) ∧ w'.ownsRow w.heap.size 44 3 v (mvN m n (List.finRange 16)) (mvL m n (List.finRange 16)) ∧ Below w.heap.size w w' := by
  refine (callsIn_wide (n := 9)).1 ?_
  refine callsIn_of_wp_marks Try.func19 rfl trivial ?_ rfl
  simp only [Try.ntmps19, List.size_toArray, List.length_cons, List.length_nil, Nat.reduceAdd, Nat.reduceSub, Array.replicate_succ, Array.replicate_zero, List.push_toArray, List.append_toArray, List.nil_append, List.cons_append]
  gi_wp2_with (first | (refine ⟨trivial, ?_⟩; gi_at_call 20; refine (callsIn_wide.2 (many_true _ _ (by omega) (by omega))).mono ?_; rintro e w' ⟨rfl, rfl⟩) | (refine ⟨trivial, ?_⟩; gi_at_call 21; refine (owners_in _ _ trivial rfl _ _).mono ?_; rintro e w' ⟨rfl, rfl⟩))
  have hN := cell_new_l w (.int .i64 (n : Int)) 3
  have hO : Boxed ((w.alloc (.cells #[.int .i64 (n : Int)] 3)).alloc (.cells #[.slice none 0 0] 41)) (w.heap.size + 1) 41 (.slice none 0 0) := by
    have := Boxed.new (w.alloc (.cells #[.int .i64 (n : Int)] 3)) 41 (.slice none 0 0)
    rwa [World.size_alloc] at this
  have hM := cell_new_l ((w.alloc (.cells #[.int .i64 (n : Int)] 3)).alloc (.cells #[.slice none 0 0] 41)) (.int .i64 (m : Int)) 3
  simp only [World.size_alloc] at hM
  have hMb : Boxed (((w.alloc (.cells #[.int .i64 (n : Int)] 3)).alloc (.cells #[.slice none 0 0] 41)).alloc (.cells #[.int .i64 (m : Int)] 3)) (w.heap.size + 1 + 1) 3 (.int .i64 (m : Int)) := by
    have := Boxed.new ((w.alloc (.cells #[.int .i64 (n : Int)] 3)).alloc (.cells #[.slice none 0 0] 41)) 3 (.int .i64 (m : Int))
    rwa [World.size_alloc, World.size_alloc] at this
  have hB0 : Below w.heap.size w (((w.alloc (.cells #[.int .i64 (n : Int)] 3)).alloc (.cells #[.slice none 0 0] 41)).alloc (.cells #[.int .i64 (m : Int)] 3)) :=
    (((Below.refl _ w).alloc (Nat.le_refl _) _).alloc (by simp) _).alloc (by simp <;> omega) _
  obtain ⟨i0, hi, hz0, hz1, hz2⟩ := info_parts info44
  refine wpIn_rangeFunc_ownF rfl (by omega) (gf := 22) (lb := #[.pointer (some ⟨w.heap.size + 1 + 1, 0, none⟩)]) rfl trivial (enters_of Try.func22 (by kernel_rfl) rfl)
    (owners_stops _ _ trivial rfl (by omega) (w.heap.size + 1 + 1) m hm _ (by simp) hM.1) (fun h k => h.trans k) (fun W l o o' hl h _ _ => by simp at hl; exact World.putObj_heap_other (by omega)) (Below.refl _ _) (fun _ => rfl)
    (fun pre W => ((∃ v, Boxed W (w.heap.size + 1) 41 v ∧ W.ownsRow w.heap.size 44 3 v (mvN m n pre) (mvL m n pre) ∧ True) ∧ Boxed W w.heap.size 3 (.int .i64 (n : Int)) ∧ Boxed W (w.heap.size + 1 + 1) 3 (.int .i64 (m : Int))) ∧ Below w.heap.size w W)
    (fun _ _ _ => False)
    (OwnFrom.and (Own.from (Own.and' (holdsRow_own w.heap.size (w.heap.size + 1) 41 44 3 (fun pre => mvN m n pre) (fun pre => mvL m n pre) (fun _ _ => True)) (Own.and' (boxed_own _ _ (fun _ => _)) (boxed_own _ _ (fun _ => _)))) _) (ownFrom_below (Nat.le_refl _) (by simp <;> omega)))
    (fun _ _ _ _ _ hs _ _ => hs)
    ⟨⟨⟨_, hO.alloc _, World.ownsRow_nil _ _ _ _, trivial⟩, ((Boxed.new w 3 (.int .i64 (n : Int))).alloc _).alloc _, hMb⟩, hB0⟩
    (fun x => { tmps := #[.int .i64 (m : Int), .int .i64 (n : Int), undef, .pointer (some ⟨w.heap.size, 0, none⟩), .slice none 0 0, .int .i64 0, .pointer (some ⟨w.heap.size + 1, 0, none⟩), .int .i64 (x.val : Int), .int .i64 ((x.val : Int) * (m : Int) / 16), undef, undef, .int .i64 (m : Int), .bool true, .bool false, .bool false, .int .i64 (n : Int), .bool true, .bool false, .bool false, .int .i64 (m : Int), .func (.func 22) #[] #[.pointer (some ⟨w.heap.size + 1 + 1, 0, none⟩)], .int .i64 (x.val : Int), .int .i64 ((x.val : Int) * (m : Int) / 16), undef, undef, undef, undef, undef, undef, undef, undef, undef, undef, undef, undef, undef, undef, undef, undef, undef, undef, undef], defers := [] }) ?assign ?body ?done ?stop
  case assign =>
    intro l x W K hK
    gi_wp2
    exact hK
  case body =>
    rintro l pre x W ⟨⟨⟨v, hv, hrow, _⟩, cn, cm⟩, hB⟩ hl16
    have hlm := cm.lt
    have hcn := cn.cell
    have hx := x.isLt
    have hq := own_quo x.val n (by omega) hn
    have hw := own_mul x.val n (by omega) hn
    have hc := hv.cell
    have hlt := hv.lt
    have hlen := mvN_le m n pre
    have heq := fun w0 => eqA44 9998 w0 (x.val : Int) (x.val : Int) ((x.val : Int) * (m : Int) / 16) ((x.val : Int) * (m : Int) / 16) ((x.val : Int) * (n : Int) / 16) ((x.val : Int) * (m : Int) / 16)
    by_cases hsame : (x.val : Int) * (m : Int) / 16 = (x.val : Int) * (n : Int) / 16
    · have hb : ((x.val : Int) * (n : Int) / 16 == (x.val : Int) * (m : Int) / 16) = true := beq_iff_eq.2 hsame.symm
      have HS := Lib.hid hsame
      clear hsame
      gi_wp2
      refine ⟨KeepsOthers.alloc _ _, Below.heap_alloc _ _ _ (by omega), ⟨⟨v, hv.alloc _, ?_, trivial⟩, cn.alloc _, cm.alloc _⟩, hB.alloc hB.size _⟩
      rw [mvN_same m n pre x HS.out, mvL_same m n pre x HS.out]
      exact hrow.alloc _
    · have hb : ((x.val : Int) * (n : Int) / 16 == (x.val : Int) * (m : Int) / 16) = false := beq_eq_false_iff_ne.2 (fun h => hsame h.symm)
      have hB2 : w.heap.size ≤ ((W.alloc (.cells #[.int .i64 (x.val : Int), .int .i64 ((x.val : Int) * (m : Int) / 16), .int .i64 ((x.val : Int) * (n : Int) / 16)] 44)).alloc (.cells #[.int .i64 (x.val : Int), .int .i64 ((x.val : Int) * (m : Int) / 16), .int .i64 ((x.val : Int) * (n : Int) / 16)] 44)).heap.size := by rw [World.size_alloc, World.size_alloc]; omega
      have hB1 : w.heap.size ≤ (W.alloc (.cells #[.int .i64 (x.val : Int), .int .i64 ((x.val : Int) * (m : Int) / 16), .int .i64 ((x.val : Int) * (n : Int) / 16)] 44)).heap.size := by rw [World.size_alloc]; omega
      gi_wp2_with (gi_at_builtin; go_must (refine wpListIn_append_own _ rfl _ _ 41 rfl w.heap.size 44 i0 (.agg #[.int .i64 0, .int .i64 0, .int .i64 0]) 3 24 Try.underlying41 hi hz0 hz1 hz2 rfl (by decide) _ _ _ rfl ((hrow.alloc _).alloc _) ⟨W.heap.size + 1, 0, none⟩ 1 1 [.int .i64 (x.val : Int), .int .i64 ((x.val : Int) * (m : Int) / 16), .int .i64 ((x.val : Int) * (n : Int) / 16)] rfl rfl (cell_three_new _ _ _ _ _ (World.size_alloc _ _).symm) (by simp [Value.oneCell']) (by unfold maxLen; omega) (by omega) hB2 ?_); intro v' w1 hown' hgrow _; go_must (obtain ⟨g', cap', rfl⟩ := ownsRow_succ hown'); go_must (obtain ⟨hv1, hv2, hr2, hk2, hb2⟩ := (hv.alloc (.cells #[.int .i64 (x.val : Int), .int .i64 ((x.val : Int) * (m : Int) / 16), .int .i64 ((x.val : Int) * (n : Int) / 16)] 44)).appended (by decide) (hrow.alloc _) hB1 (by omega) hown' hgrow); go_must (have hn2 := (((cn.alloc (.cells #[.int .i64 (x.val : Int), .int .i64 ((x.val : Int) * (m : Int) / 16), .int .i64 ((x.val : Int) * (n : Int) / 16)] 44)).alloc _).kept hgrow (cn.not_row (by decide) hrow)).other (show w.heap.size ≠ w.heap.size + 1 by omega) (Value.slice (some ⟨g', 0, none⟩) (mvN m n pre + 1) cap')); go_must (have hm2 := (((cm.alloc (.cells #[.int .i64 (x.val : Int), .int .i64 ((x.val : Int) * (m : Int) / 16), .int .i64 ((x.val : Int) * (n : Int) / 16)] 44)).alloc _).kept hgrow (cm.not_row (by decide) hrow)).other (show w.heap.size + 1 + 1 ≠ w.heap.size + 1 by omega) (Value.slice (some ⟨g', 0, none⟩) (mvN m n pre + 1) cap')); have hc1 := hv1.cell; have hf1 := hv1.frozen)
      refine ⟨(KeepsOthers.alloc _ _).trans hk2, ?_, ⟨⟨_, hv2, ?_, trivial⟩, ?_, ?_⟩, (hB.alloc hB.size _).trans hb2⟩
      · exact (hm2.trans cm.symm : _)
      · rw [mvN_more m n pre x hsame, mvL_more m n pre x hsame]; exact hr2
      · exact hn2
      · exact hm2
  case done =>
    rintro D ys W hD rfl ⟨⟨⟨v, hv, hrow, _⟩, cn, _⟩, hB⟩ hK
    have hc := hv.cell
    gi_wp2
    refine ⟨by simp, .inl ⟨_, _, rfl, run_takeDeferred hK, ?_⟩⟩
    refine ⟨_, by simp [results, Try.results19, go_sem], v, rfl, ownsRow_putObj hrow _ hK rfl, hB.trans (belowK_b (w := w) (Nat.le_refl _) W D _ _ (by simp at hD; omega) hK rfl rfl)⟩
  case stop =>
    rintro D c pre W _ _ h _
    exact h.elim
end Go.Proofs.Ytfmdflkbgfnehaa.Hand
