/- expr: operators, numbers, names, walked. -/
import Derived.Test.YtkjajlolfcioiaaGreatDoorYExprB
import Derived.Test.YtkjajlolfcioiaaGreatDoorYShelfA
import Derived.WalkSpells
import Derived.Laws.EntriesVeiled
import Derived.Lib.ItoaLen
import Derived.Deep.RegionHeld3
import Derived.Conc.MuLone
import Derived.Lib.AppendIntMem
import Derived.Laws.Pointers
import Derived.Lib.AtoiBound
import Derived.Lib.ConvBytes
namespace Go.Proofs.YtkjajlolfcioiaaGreatDoor.Expr
open Go.RowKit Go.Proofs.YtkjajlolfcioiaaGreatDoor Go.Proofs.YtkjajlolfcioiaaGreatDoor.Own Go.Proofs.YtkjajlolfcioiaaGreatDoor.Scan Go.Lib

def BinPost (l : List UInt8) (w : World) (e : Ending) (w' : World) : Prop := ∃ fv, e = .returned (.tuple #[.int .i64 (rankB l : Nat), fv]) ∧ (fv = .nilFunc ∨ ∃ k, fv = .func (.func k) #[] #[]) ∧ w' = w
theorem binary_lit (l : List UInt8) (hl : l ∈ ([] :: twos ++ ones.map (fun c => [c]))) (w : World) : Calls Tryz.prog 190 #[.string ⟨l.toArray⟩] w (BinPost l w) := by
  unfold twos ones at hl
  simp only [List.mem_cons, List.mem_append, List.map_cons, List.map_nil, List.not_mem_nil, or_false] at hl
  rcases hl with (rfl | rfl | rfl | rfl | rfl | rfl | rfl) | (rfl | rfl | rfl | rfl | rfl | rfl | rfl | rfl | rfl | rfl)
  all_goals
    go_enter Tryz.func190, Tryz.ntmps190
    go_wp2
    go_ret2
    exact ⟨_, rfl, by first | exact .inl rfl | exact .inr ⟨_, rfl⟩, rfl⟩
theorem binary_calls (t : List UInt8) (w : World) : Calls Tryz.prog 190 #[.string ⟨(opT t).toArray⟩] w (BinPost (opT t) w) := by
  refine binary_lit _ ?_ w
  rcases opT_is t with h | ⟨c, hc, h⟩ | ⟨u, hu, h⟩
  · rw [h]; simp
  · rw [h]
    simp only [List.cons_append, List.mem_cons, List.mem_append, List.mem_map]
    exact .inr (.inr ⟨c, hc, rfl⟩)
  · rw [h]
    simp only [List.cons_append, List.mem_cons, List.mem_append]
    exact .inr (.inl hu)

theorem part_many {s : ByteArray} {b a p : Nat} {w : World} (n : Nat) (hs : s.size ≤ 200) (ha : a + n ≤ s.size) (hp : p ≤ 64) (h : St w b s a p) (h64 : 64 < p + 1) :
    Calls Tryz.prog 191 #[.pointer (some ⟨b, 0, none⟩), .int .i64 n] w fun e w' => ∃ f, e = .returned (.pointer (some ⟨f, 0, none⟩)) ∧ w.heap.size ≤ f ∧ FaultAt w' f 5 ∧ But b w w' :=
  (part_calls s b a p n w hs ha hp h).mono fun e w' ⟨hB, hq⟩ => by
    rcases hq with ⟨_, f, h1, h2, h3⟩ | ⟨h1, _⟩
    · exact ⟨f, h2, h1, h3, hB⟩
    · exact absurd h64 h1
theorem part_ok {s : ByteArray} {b a p : Nat} {w : World} (n : Nat) (hs : s.size ≤ 200) (ha : a + n ≤ s.size) (hp : p ≤ 64) (h : St w b s a p) (h64 : ¬ 64 < p + 1) :
    Calls Tryz.prog 191 #[.pointer (some ⟨b, 0, none⟩), .int .i64 n] w fun e w' => e = .returned (.pointer none) ∧ St w' b s (a + n) (p + 1) ∧ But b w w' :=
  (part_calls s b a p n w hs ha hp h).mono fun e w' ⟨hB, hq⟩ => by
    rcases hq with ⟨h1, _⟩ | ⟨_, h2, h3⟩
    · exact absurd h1 h64
    · exact ⟨h2, h3, hB⟩

/-! ### what the library's table holds -/
def Tab (w : World) : Prop := Lib.TabIs Tryz.prog w "internal/strconv.uint64pow10" .u64 Lib.pow10Tab
theorem tab_name : Tryz.prog.globalNamed "internal/strconv.uint64pow10" = some 5 := by kernel_rfl
theorem Tab.but {w w' : World} {b : Nat} (h : Tab w) (k : But b w w') (hb : 5 < b) : Tab w' := by
  unfold Tab Lib.TabIs World.var? at h ⊢
  rw [tab_name] at h ⊢
  simp only [Option.bind_some] at h ⊢
  have hlt : 5 < w.heap.size := by
    rcases Nat.lt_or_ge 5 w.heap.size with h' | h'
    · exact h'
    · rw [Array.getElem?_eq_none h'] at h; cases h
  rw [k.block _ hlt (fun e => by have := Option.some.inj e; omega)]
  exact h

theorem Tab.below {w w' : World} (h : Tab w) (k : Below w.heap.size w w') : Tab w' := h.but (b := 5 + 1) (But.of_below k) (by decide)
/-! ### expressions -/
def ExprAt (w : World) (x B : Nat) : Prop := ∃ fn c1 c2 t n, w.cell? ⟨x, 0, none⟩ = some (.func fn c1 c2) ∧ w.cell? ⟨x, 1, none⟩ = some (.string t) ∧ t.size ≤ B ∧ w.cell? ⟨x, 2, none⟩ = some (.int .i64 n)
theorem ExprAt.but {w w' : World} {x B b : Nat} (h : ExprAt w x B) (k : But b w w') (hx : x ≠ b) : ExprAt w' x B := by
  obtain ⟨fn, c1, c2, t, n, h1, h2, h3, h4⟩ := h
  exact ⟨fn, c1, c2, t, n, k.cell hx h1, k.cell hx h2, h3, k.cell hx h4⟩
theorem ExprAt.more {w : World} {x B B' : Nat} (h : ExprAt w x B) (hB : B ≤ B') : ExprAt w x B' := by
  obtain ⟨fn, c1, c2, t, n, h1, h2, h3, h4⟩ := h
  exact ⟨fn, c1, c2, t, n, h1, h2, by omega, h4⟩
theorem ExprAt.new (X : World) (fn : Fn) (c1 c2 : Array Value) (t : ByteArray) (n : Int) (T : TypeId) (B : Nat) (hB : t.size ≤ B) : ExprAt (X.alloc (.cells #[.func fn c1 c2, .string t, .int .i64 n] T)) X.heap.size B :=
  ⟨fn, c1, c2, t, n, cell_new rfl rfl, cell_new rfl rfl, hB, cell_new rfl rfl⟩
theorem FaultAt.new (X : World) (n code : Int) (T : TypeId) : FaultAt (X.alloc (.cells #[.int .i64 n, .int .i64 code] T)) X.heap.size code := ⟨⟨n, cell_new rfl rfl⟩, cell_new rfl rfl⟩
theorem FaultAt.but {w w' : World} {f b : Nat} {c : Int} (h : FaultAt w f c) (k : But b w w') (hf : f ≠ b) : FaultAt w' f c := by
  obtain ⟨⟨n, h1⟩, h2⟩ := h
  exact ⟨⟨n, k.cell hf h1⟩, k.cell hf h2⟩

/-- what a reading of a value comes to: an error that all see; or an expression, and a place from which all goes on. -/
def ValPost (s : ByteArray) (b a p : Nat) (w : World) (e : Ending) (w' : World) : Prop :=
  But b w w' ∧
  ((∃ f code, e = .returned (.tuple #[.pointer none, .pointer (some ⟨f, 0, none⟩)]) ∧ w.heap.size ≤ f ∧ FaultAt w' f code ∧ code ≠ 0 ∧ ∀ opn, scan true opn ((L s).drop a) p = code) ∨
   (∃ x a' p', e = .returned (.tuple #[.pointer (some ⟨x, 0, none⟩), .pointer none]) ∧ w.heap.size ≤ x ∧ a < a' ∧ a' ≤ s.size ∧ p < p' ∧ p' ≤ 64 ∧ St w' b s a' p' ∧ ExprAt w' x (26 * (p' - p)) ∧ ∀ opn, scan true opn ((L s).drop a) p = scan false opn ((L s).drop a') p'))

theorem fn_not_nil (k : Nat) (X : World) : (binOp .eql 259 (.func (.func k) #[] #[]) .nilFunc).run Tryz.prog X = .ok (.bool false) X := by kernel_rfl
theorem fn_nil (X : World) : (binOp .eql 259 .nilFunc .nilFunc).run Tryz.prog X = .ok (.bool true) X := by kernel_rfl
theorem enters_num (args : Array Value) (X : World) : (callFunc 218 args).run Tryz.prog X = .ok (.enter 218 args) X :=
  Go.MuLone.run_callFunc_enter Tryz.func218 (by kernel_rfl) rfl args X
theorem enters_name (args : Array Value) (X : World) : (callFunc 222 args).run Tryz.prog X = .ok (.enter 222 args) X :=
  Go.MuLone.run_callFunc_enter Tryz.func222 (by kernel_rfl) rfl args X

set_option maxRecDepth 100000 in
set_option maxHeartbeats 2000000 in
theorem name_calls (s : ByteArray) (b a p : Nat) (w : World) (hs : s.size ≤ 200) (ha : a < s.size) (hp : p ≤ 64) (h : St w b s a p) (hl : isLetter s[a] = true) :
    Calls Tryz.prog 200 #[.pointer (some ⟨b, 0, none⟩), .int .u8 s[a].toNat] w (ValPost s b a p w) := by
  have hdr : (L s).drop a = s[a] :: (L s).drop (a + 1) := drop_cons (get_L s a ha)
  have hsc := fun opn => scan_name (opn := opn) (parts := p) (c := s[a]) (r := (L s).drop (a + 1)) hl
  rw [← hdr] at hsc
  have HSC := Lib.hid hsc
  have HST := Lib.hid h
  have hfn := fn_not_nil
  have hfn0 := fn_nil
  have hrun := run_calls 222 isLetter letters_calls enters_name s b a p w hs (by omega) h
  have hpos : 0 < run isLetter ((L s).drop a) := by rw [hdr]; exact run_pos hl
  obtain ⟨n, hn⟩ : ∃ n, n = run isLetter ((L s).drop a) := ⟨_, rfl⟩
  rw [← hn] at hrun hpos hsc
  have HN := Lib.hid hn
  have HRUN := Lib.hid hrun
  clear hsc hn hrun hdr
  by_cases h1 : n = 1
  · subst h1
    have h1d : decide ((1 : Int) < ((1 : Nat) : Int)) = false := by decide
    by_cases hv : s[a] = 110 ∨ s[a] = 116 ∨ s[a] = 118
    · have hscY : ∀ opn, scan true opn ((L s).drop a) p = if 64 < p + 1 then 5 else scan false opn ((L s).drop (a + 1)) (p + 1) := fun opn => by
        rw [HSC.out opn, ← HN.out, if_pos ⟨rfl, hv⟩]
      have HSY := Lib.hid hscY
      clear hscY
      by_cases h64 : 64 < p + 1
      · rcases hv with hv | hv | hv
        all_goals
          have hvn := congrArg (fun c : UInt8 => (c.toNat : Int)) hv
          clear hv
          go_enter Tryz.func200, Tryz.ntmps200
          go_wp2_with (first
            | (go_at_call 217; go_must (refine HRUN.out.mono ?_); rintro e w1 ⟨rfl, m, rfl⟩)
            | (go_at_call 191; go_must (refine (part_many 1 hs (by omega) hp (HST.out.drewN _) h64).mono ?_); rintro e w2 ⟨f, rfl, hf, hF, hB2⟩))
          go_ret2
          exact ⟨((But.refl b w).drewN _).trans hB2, .inl ⟨f, 5, rfl, by simpa using hf, hF, by decide, fun opn => by rw [HSY.out, if_pos h64]⟩⟩
      · rcases hv with hv | hv | hv
        all_goals
          have hvn := congrArg (fun c : UInt8 => (c.toNat : Int)) hv
          clear hv
          go_enter Tryz.func200, Tryz.ntmps200
          go_wp2_with (first
            | (go_at_call 217; go_must (refine HRUN.out.mono ?_); rintro e w1 ⟨rfl, m, rfl⟩)
            | (go_at_call 191; go_must (refine (part_ok 1 hs (by omega) hp (HST.out.drewN _) h64).mono ?_); rintro e w2 ⟨rfl, hst2, hB2⟩))
          go_ret2
          refine ⟨(((But.refl b w).drewN _).trans hB2).alloc _, .inr ⟨_, a + 1, p + 1, rfl, by have := hB2.size; simpa using this, by omega, by omega, by omega, by omega, hst2.below (balloc (Below.refl _ _) _), ?_, fun opn => by rw [HSY.out, if_neg h64]⟩⟩
          exact (ExprAt.new _ _ _ _ _ _ _ 4 (by decide)).more (by omega)
    · have hscN : ∀ opn, scan true opn ((L s).drop a) p = 40 := fun opn => by
        rw [HSC.out opn, if_neg (by rintro ⟨_, h⟩; exact hv h)]
      have HSN := Lib.hid hscN
      have n1 : ((s[a].toNat : Int) == 110) = false := by
        rw [beq_eq_false_iff_ne]; intro e; exact hv (.inl (UInt8.toNat_inj.1 (by simpa using (by omega : s[a].toNat = 110))))
      have n2 : ((s[a].toNat : Int) == 116) = false := by
        rw [beq_eq_false_iff_ne]; intro e; exact hv (.inr (.inl (UInt8.toNat_inj.1 (by simpa using (by omega : s[a].toNat = 116)))))
      have n3 : ((s[a].toNat : Int) == 118) = false := by
        rw [beq_eq_false_iff_ne]; intro e; exact hv (.inr (.inr (UInt8.toNat_inj.1 (by simpa using (by omega : s[a].toNat = 118)))))
      clear hscN hv
      go_enter Tryz.func200, Tryz.ntmps200
      go_wp2_with (go_at_call 217; go_must (refine HRUN.out.mono ?_); rintro e w1 ⟨rfl, m, rfl⟩; obtain ⟨c0, c1, c2, f1, f2⟩ := HST.out)
      go_region
      all_goals
        go_wp2
        go_ret2
        exact ⟨((But.refl b w).drewN _).alloc _, .inl ⟨w.heap.size, 40, rfl, Nat.le_refl _, FaultAt.new _ _ _ _, by decide, fun opn => HSN.out opn⟩⟩
  · have h1' : (1 : Int) < n := by omega
    have h1d := decide_eq_true h1'
    go_enter Tryz.func200, Tryz.ntmps200
    go_wp2_with (go_at_call 217; go_must (refine HRUN.out.mono ?_); rintro e w1 ⟨rfl, m, rfl⟩; obtain ⟨c0, c1, c2, f1, f2⟩ := HST.out)
    all_goals
      go_region
      all_goals
        go_wp2
        go_ret2
        exact ⟨((But.refl b w).drewN _).alloc _, .inl ⟨w.heap.size, 40, rfl, Nat.le_refl _, FaultAt.new _ _ _ _, by decide, fun opn => by rw [HSC.out, ← HN.out, if_neg (by rintro ⟨e, _⟩; exact h1 e)]⟩⟩

/-! ### numbers -/
theorem dec_some : ∀ (l : List UInt8) (acc : Nat), (∀ c ∈ l, isDigit c = true) → ∃ n, decFrom acc l = some n
  | [], acc, _ => ⟨acc, rfl⟩
  | c :: l, acc, h => by
    have hc := h c (by simp)
    have hd : ∃ d, digitVal c = some d := by
      unfold isDigit at hc
      rw [decide_eq_true_eq] at hc
      unfold digitVal
      split
      · exact ⟨_, rfl⟩
      · rename_i hn
        exfalso
        simp at hn
        omega
    obtain ⟨d, hd⟩ := hd
    obtain ⟨n, hn⟩ := dec_some l (acc * 10 + d) (fun c hc => h c (by simp [hc]))
    exact ⟨n, by simp [decFrom, hd, hn]⟩
theorem take_digits : ∀ (l : List UInt8), ∀ c ∈ l.take (run isDigit l), isDigit c = true
  | [], c, h => by simp at h
  | x :: l, c, h => by
    by_cases hx : isDigit x = true
    · rw [run_next hx, List.take_succ_cons] at h
      rcases List.mem_cons.1 h with rfl | h
      · exact hx
      · exact take_digits l c h
    · rw [run_none (by simpa using hx)] at h
      simp at h
theorem atoi_some {l : List UInt8} (h : ∀ c ∈ l, isDigit c = true) (hne : l ≠ []) : ∃ n, Lib.atoi l = some n := by
  rcases l with _ | ⟨c, r⟩
  · exact absurd rfl hne
  · have hc := h c (by simp)
    unfold isDigit at hc
    rw [decide_eq_true_eq] at hc
    have h1 : (c == 45) = false := by
      rw [beq_eq_false_iff_ne]; intro e; subst e; revert hc; decide
    have h2 : (c == 43) = false := by
      rw [beq_eq_false_iff_ne]; intro e; subst e; revert hc; decide
    obtain ⟨n, hn⟩ := dec_some (c :: r) 0 h
    exact ⟨(n : Int), by simp [Lib.atoi, h1, h2, Lib.decNat, hn]⟩
def Fits (n : Int) : Prop := -9223372036854775808 ≤ n ∧ n ≤ 9223372036854775807
theorem atoi_calls (t : ByteArray) (X : World) (hl : t.size ≤ 18) (h : ∀ c ∈ t.data.toList, isDigit c = true) (hne : t.data.toList ≠ []) :
    Calls Tryz.prog 219 #[.string t] X fun e w' => (∃ n, e = .returned (.tuple #[.int .i64 n, .nilIface]) ∧ Fits n) ∧ Below X.heap.size X w' := by
  obtain ⟨n, hn⟩ := atoi_some h hne
  have hb := Lib.atoi_bound hn (by rw [Array.length_toList]; exact hl)
  refine (Go.Proofs.Any.strconv_Atoi Tryz.lays172 t n hl hn X).mono ?_
  rintro e w' ⟨rfl, u, rfl⟩
  refine ⟨⟨n, rfl, by unfold Fits; omega⟩, rfl, rfl, rfl, by rw [Lib.bytesWorld_size]; omega, fun j hj => Lib.bytesWorld_at_old X _ u j hj⟩
theorem itoa_calls (n : Int) (X : World) (hn : Fits n) (ht : Tab X) :
    Calls Tryz.prog 221 #[.int .i64 n] X fun e w' => (∃ t, e = .returned (.string t) ∧ t.size ≤ 21) ∧ Below X.heap.size X w' := by
  refine (Go.Proofs.Any.strconv_Itoa Tryz.laysM171 n hn.1 hn.2 X ht).mono ?_
  rintro e w' ⟨rfl, k, os, rfl⟩
  exact ⟨⟨_, rfl, by have := Lib.itoa_length_le n hn.1 hn.2; simpa [ByteArray.size] using this⟩, Lib.below_grow _ X (Nat.le_refl _) k os⟩
end Go.Proofs.YtkjajlolfcioiaaGreatDoor.Expr
