/- expr: the word of signs, walked. -/
import Derived.Test.YtkjajlolfcioiaaGreatDoorYExprA
import Derived.WalkSpells
import Derived.Lib.Strings
namespace Go.Proofs.YtkjajlolfcioiaaGreatDoor.Expr
open Go.RowKit Go.Proofs.YtkjajlolfcioiaaGreatDoor Go.Proofs.YtkjajlolfcioiaaGreatDoor.Own Go.Proofs.YtkjajlolfcioiaaGreatDoor.Scan Go.Lib

theorem toList_eq (x : ByteArray) : (⟨x.toList.toArray⟩ : ByteArray) = x := by rw [toList_data]
theorem ext_list (s : ByteArray) (a b : Nat) : (s.extract a b).toList = ((L s).drop a).take (b - a) := by rw [toList_data, extract_data]
theorem empty_toList : (⟨#[]⟩ : ByteArray).toList = [] := by rw [toList_data]
theorem ext_one {s : ByteArray} {k : Nat} {c : UInt8} {r : List UInt8} (h : (L s).drop k = c :: r) : (s.extract k (k + 1)).toList = [c] := by
  rw [ext_list s k (k + 1), h]
  simp
theorem ext_two {s : ByteArray} {k : Nat} {c d : UInt8} {r : List UInt8} (h : (L s).drop k = c :: d :: r) : (s.extract k (k + 2)).toList = [c, d] := by
  rw [ext_list s k (k + 2), h]
  simp
theorem ret_str {x : ByteArray} {l : List UInt8} (h : x.toList = l) : Ending.returned (.string x) = .returned (.string ⟨l.toArray⟩) := by
  rw [← h, toList_eq x]
set_option maxHeartbeats 4000000 in
theorem operator_one (s : ByteArray) (b a p : Nat) (w : World) (hs : s.size ≤ 200) (ha : a ≤ s.size) (h : St w b s a p) (c : UInt8) (hn : skipL ((L s).drop a) = [c]) :
    Calls Tryz.prog 189 #[.pointer (some ⟨b, 0, none⟩)] w (OpPost s b a p w) := by
  have HN := Lib.hid hn
  clear hn
  go_enter Tryz.func189, Tryz.ntmps189
  go_wp2_with (go_at_call 176; go_must (refine (skip_some hs ha h HN.out).mono ?_); rintro e w1 ⟨k, hk1, hk2, hdr, rfl, hst, hB⟩)
  have hlen : k + 1 = s.size := drop_len hdr (by omega)
  have hl : ¬ (k : Int) + 1 < s.size := by omega
  have hl2 : k + 1 ≤ s.size := by omega
  have hld := decide_eq_false hl
  have HDR := Lib.hid hdr
  have HST := Lib.hid hst
  have hl0 : (0 : Int) ≤ k := by omega
  have HE := Lib.hid (ext_one hdr)
  have hfin : ∀ (e : Ending) (x : ByteArray) (n : Nat), e = .returned (.string x) → x.toList = opT [c] → OpPost s b a p w e (w1.drewN n) := fun e x n he hx => ⟨k, hk1, by omega, by rw [HDR.out, HN.out], by rw [he, HDR.out]; exact ret_str hx, HST.out.drewN _, hB.drewN _⟩
  have HFIN := Lib.hid hfin
  clear hdr hlen hfin
  obtain ⟨c0, c1, c2, f1, f2⟩ := hst
  by_cases hc : c ∈ ones
  · have HC := Lib.hid (show opT [c] = [c] by simp [opT, hc])
    unfold ones at hc
    simp only [List.mem_cons, List.not_mem_nil, or_false] at hc
    rcases hc with rfl | rfl | rfl | rfl | rfl | rfl | rfl | rfl | rfl | rfl
    · have t60 : ((s.extract k (k + 1)).toList == [60]) = true := by rw [HE.out]; decide
      go_quiet (fail)
      go_wp2
      go_quiet (fail)
      go_wp2
      go_ret
      (refine HFIN.out _ _ _ ?_ (by rw [HC.out]; exact HE.out); rfl)
    · have t62 : ((s.extract k (k + 1)).toList == [62]) = true := by rw [HE.out]; decide
      have t60 : ((s.extract k (k + 1)).toList == [60]) = false := by rw [HE.out]; decide
      go_quiet (fail)
      go_wp2
      go_quiet (fail)
      go_wp2
      go_ret
      (refine HFIN.out _ _ _ ?_ (by rw [HC.out]; exact HE.out); rfl)
    · have t43 : ((s.extract k (k + 1)).toList == [43]) = true := by rw [HE.out]; decide
      have t60 : ((s.extract k (k + 1)).toList == [60]) = false := by rw [HE.out]; decide
      have t62 : ((s.extract k (k + 1)).toList == [62]) = false := by rw [HE.out]; decide
      go_quiet (fail)
      go_wp2
      go_quiet (fail)
      go_wp2
      go_ret
      (refine HFIN.out _ _ _ ?_ (by rw [HC.out]; exact HE.out); rfl)
    · have t45 : ((s.extract k (k + 1)).toList == [45]) = true := by rw [HE.out]; decide
      have t60 : ((s.extract k (k + 1)).toList == [60]) = false := by rw [HE.out]; decide
      have t62 : ((s.extract k (k + 1)).toList == [62]) = false := by rw [HE.out]; decide
      have t43 : ((s.extract k (k + 1)).toList == [43]) = false := by rw [HE.out]; decide
      go_quiet (fail)
      go_wp2
      go_quiet (fail)
      go_wp2
      go_ret
      (refine HFIN.out _ _ _ ?_ (by rw [HC.out]; exact HE.out); rfl)
    · have t42 : ((s.extract k (k + 1)).toList == [42]) = true := by rw [HE.out]; decide
      have t60 : ((s.extract k (k + 1)).toList == [60]) = false := by rw [HE.out]; decide
      have t62 : ((s.extract k (k + 1)).toList == [62]) = false := by rw [HE.out]; decide
      have t43 : ((s.extract k (k + 1)).toList == [43]) = false := by rw [HE.out]; decide
      have t45 : ((s.extract k (k + 1)).toList == [45]) = false := by rw [HE.out]; decide
      go_quiet (fail)
      go_wp2
      go_quiet (fail)
      go_wp2
      go_ret
      (refine HFIN.out _ _ _ ?_ (by rw [HC.out]; exact HE.out); rfl)
    · have t47 : ((s.extract k (k + 1)).toList == [47]) = true := by rw [HE.out]; decide
      have t60 : ((s.extract k (k + 1)).toList == [60]) = false := by rw [HE.out]; decide
      have t62 : ((s.extract k (k + 1)).toList == [62]) = false := by rw [HE.out]; decide
      have t43 : ((s.extract k (k + 1)).toList == [43]) = false := by rw [HE.out]; decide
      have t45 : ((s.extract k (k + 1)).toList == [45]) = false := by rw [HE.out]; decide
      have t42 : ((s.extract k (k + 1)).toList == [42]) = false := by rw [HE.out]; decide
      go_quiet (fail)
      go_wp2
      go_quiet (fail)
      go_wp2
      go_ret
      (refine HFIN.out _ _ _ ?_ (by rw [HC.out]; exact HE.out); rfl)
    · have t37 : ((s.extract k (k + 1)).toList == [37]) = true := by rw [HE.out]; decide
      have t60 : ((s.extract k (k + 1)).toList == [60]) = false := by rw [HE.out]; decide
      have t62 : ((s.extract k (k + 1)).toList == [62]) = false := by rw [HE.out]; decide
      have t43 : ((s.extract k (k + 1)).toList == [43]) = false := by rw [HE.out]; decide
      have t45 : ((s.extract k (k + 1)).toList == [45]) = false := by rw [HE.out]; decide
      have t42 : ((s.extract k (k + 1)).toList == [42]) = false := by rw [HE.out]; decide
      have t47 : ((s.extract k (k + 1)).toList == [47]) = false := by rw [HE.out]; decide
      go_quiet (fail)
      go_wp2
      go_quiet (fail)
      go_wp2
      go_ret
      (refine HFIN.out _ _ _ ?_ (by rw [HC.out]; exact HE.out); rfl)
    · have t33 : ((s.extract k (k + 1)).toList == [33]) = true := by rw [HE.out]; decide
      have t60 : ((s.extract k (k + 1)).toList == [60]) = false := by rw [HE.out]; decide
      have t62 : ((s.extract k (k + 1)).toList == [62]) = false := by rw [HE.out]; decide
      have t43 : ((s.extract k (k + 1)).toList == [43]) = false := by rw [HE.out]; decide
      have t45 : ((s.extract k (k + 1)).toList == [45]) = false := by rw [HE.out]; decide
      have t42 : ((s.extract k (k + 1)).toList == [42]) = false := by rw [HE.out]; decide
      have t47 : ((s.extract k (k + 1)).toList == [47]) = false := by rw [HE.out]; decide
      have t37 : ((s.extract k (k + 1)).toList == [37]) = false := by rw [HE.out]; decide
      go_quiet (fail)
      go_wp2
      go_quiet (fail)
      go_wp2
      go_ret
      (refine HFIN.out _ _ _ ?_ (by rw [HC.out]; exact HE.out); rfl)
    · have t40 : ((s.extract k (k + 1)).toList == [40]) = true := by rw [HE.out]; decide
      have t60 : ((s.extract k (k + 1)).toList == [60]) = false := by rw [HE.out]; decide
      have t62 : ((s.extract k (k + 1)).toList == [62]) = false := by rw [HE.out]; decide
      have t43 : ((s.extract k (k + 1)).toList == [43]) = false := by rw [HE.out]; decide
      have t45 : ((s.extract k (k + 1)).toList == [45]) = false := by rw [HE.out]; decide
      have t42 : ((s.extract k (k + 1)).toList == [42]) = false := by rw [HE.out]; decide
      have t47 : ((s.extract k (k + 1)).toList == [47]) = false := by rw [HE.out]; decide
      have t37 : ((s.extract k (k + 1)).toList == [37]) = false := by rw [HE.out]; decide
      have t33 : ((s.extract k (k + 1)).toList == [33]) = false := by rw [HE.out]; decide
      go_quiet (fail)
      go_wp2
      go_quiet (fail)
      go_wp2
      go_ret
      (refine HFIN.out _ _ _ ?_ (by rw [HC.out]; exact HE.out); rfl)
    · have t41 : ((s.extract k (k + 1)).toList == [41]) = true := by rw [HE.out]; decide
      have t60 : ((s.extract k (k + 1)).toList == [60]) = false := by rw [HE.out]; decide
      have t62 : ((s.extract k (k + 1)).toList == [62]) = false := by rw [HE.out]; decide
      have t43 : ((s.extract k (k + 1)).toList == [43]) = false := by rw [HE.out]; decide
      have t45 : ((s.extract k (k + 1)).toList == [45]) = false := by rw [HE.out]; decide
      have t42 : ((s.extract k (k + 1)).toList == [42]) = false := by rw [HE.out]; decide
      have t47 : ((s.extract k (k + 1)).toList == [47]) = false := by rw [HE.out]; decide
      have t37 : ((s.extract k (k + 1)).toList == [37]) = false := by rw [HE.out]; decide
      have t33 : ((s.extract k (k + 1)).toList == [33]) = false := by rw [HE.out]; decide
      have t40 : ((s.extract k (k + 1)).toList == [40]) = false := by rw [HE.out]; decide
      go_quiet (fail)
      go_wp2
      go_quiet (fail)
      go_wp2
      go_ret
      (refine HFIN.out _ _ _ ?_ (by rw [HC.out]; exact HE.out); rfl)
  · have HC := Lib.hid (show opT [c] = [] by simp [opT, hc])
    have HNC := Lib.hid hc
    clear hc
    have t60 : ((s.extract k (k + 1)).toList == [60]) = false := by rw [HE.out, beq_eq_false_iff_ne]; intro e; obtain rfl : c = 60 := (by simpa using e); exact HNC.out (by decide)
    have t62 : ((s.extract k (k + 1)).toList == [62]) = false := by rw [HE.out, beq_eq_false_iff_ne]; intro e; obtain rfl : c = 62 := (by simpa using e); exact HNC.out (by decide)
    have t43 : ((s.extract k (k + 1)).toList == [43]) = false := by rw [HE.out, beq_eq_false_iff_ne]; intro e; obtain rfl : c = 43 := (by simpa using e); exact HNC.out (by decide)
    have t45 : ((s.extract k (k + 1)).toList == [45]) = false := by rw [HE.out, beq_eq_false_iff_ne]; intro e; obtain rfl : c = 45 := (by simpa using e); exact HNC.out (by decide)
    have t42 : ((s.extract k (k + 1)).toList == [42]) = false := by rw [HE.out, beq_eq_false_iff_ne]; intro e; obtain rfl : c = 42 := (by simpa using e); exact HNC.out (by decide)
    have t47 : ((s.extract k (k + 1)).toList == [47]) = false := by rw [HE.out, beq_eq_false_iff_ne]; intro e; obtain rfl : c = 47 := (by simpa using e); exact HNC.out (by decide)
    have t37 : ((s.extract k (k + 1)).toList == [37]) = false := by rw [HE.out, beq_eq_false_iff_ne]; intro e; obtain rfl : c = 37 := (by simpa using e); exact HNC.out (by decide)
    have t33 : ((s.extract k (k + 1)).toList == [33]) = false := by rw [HE.out, beq_eq_false_iff_ne]; intro e; obtain rfl : c = 33 := (by simpa using e); exact HNC.out (by decide)
    have t40 : ((s.extract k (k + 1)).toList == [40]) = false := by rw [HE.out, beq_eq_false_iff_ne]; intro e; obtain rfl : c = 40 := (by simpa using e); exact HNC.out (by decide)
    have t41 : ((s.extract k (k + 1)).toList == [41]) = false := by rw [HE.out, beq_eq_false_iff_ne]; intro e; obtain rfl : c = 41 := (by simpa using e); exact HNC.out (by decide)
    go_quiet (fail)
    go_wp2
    go_quiet (fail)
    go_wp2
    go_ret
    (refine HFIN.out _ ⟨#[]⟩ _ ?_ (by rw [HC.out, empty_toList]); rfl)
set_option maxHeartbeats 8000000 in
theorem operator_two (s : ByteArray) (b a p : Nat) (w : World) (hs : s.size ≤ 200) (ha : a ≤ s.size) (h : St w b s a p) (c d : UInt8) (r : List UInt8) (hn : skipL ((L s).drop a) = c :: d :: r) :
    Calls Tryz.prog 189 #[.pointer (some ⟨b, 0, none⟩)] w (OpPost s b a p w) := by
  have HN := Lib.hid hn
  clear hn
  go_enter Tryz.func189, Tryz.ntmps189
  go_wp2_with (go_at_call 176; go_must (refine (skip_some hs ha h HN.out).mono ?_); rintro e w1 ⟨k, hk1, hk2, hdr, rfl, hst, hB⟩)
  have hlen : k + (r.length + 2) = s.size := drop_len hdr (by omega)
  have hl : (k : Int) + 1 < s.size := by omega
  have hl2 : k + 2 ≤ s.size := by omega
  have hl3 : k + 1 ≤ s.size := by omega
  have hld := decide_eq_true hl
  have HDR := Lib.hid hdr
  have HST := Lib.hid hst
  have hl0 : (0 : Int) ≤ k := by omega
  have HE := Lib.hid (ext_one hdr)
  have HE2 := Lib.hid (ext_two hdr)
  have hfin2 : ∀ (e : Ending) (x : ByteArray) (n : Nat), e = .returned (.string x) → x.toList = opT (c :: d :: r) → OpPost s b a p w e (w1.drewN n) := fun e x n he hx => ⟨k, hk1, by omega, by rw [HDR.out, HN.out], by rw [he, HDR.out]; exact ret_str hx, HST.out.drewN _, hB.drewN _⟩
  have HFIN2 := Lib.hid hfin2
  clear hdr hlen hfin2
  obtain ⟨c0, c1, c2, f1, f2⟩ := hst
  by_cases hc2 : [c, d] ∈ twos
  · have HC := Lib.hid (show opT (c :: d :: r) = [c, d] by simp [opT, hc2])
    unfold twos at hc2
    simp only [List.mem_cons, List.not_mem_nil, or_false, List.cons.injEq, and_true] at hc2
    rcases hc2 with ⟨rfl, rfl⟩ | ⟨rfl, rfl⟩ | ⟨rfl, rfl⟩ | ⟨rfl, rfl⟩ | ⟨rfl, rfl⟩ | ⟨rfl, rfl⟩
    · have s0 : ((s.extract k (k + 2)).toList == [124, 124]) = true := by rw [HE2.out]; decide
      go_quiet (fail)
      go_wp2
      go_quiet (fail)
      go_wp2
      go_ret
      (refine HFIN2.out _ _ _ ?_ (by rw [HC.out]; exact HE2.out); rfl)
    · have s1 : ((s.extract k (k + 2)).toList == [38, 38]) = true := by rw [HE2.out]; decide
      have s0 : ((s.extract k (k + 2)).toList == [124, 124]) = false := by rw [HE2.out]; decide
      go_quiet (fail)
      go_wp2
      go_quiet (fail)
      go_wp2
      go_ret
      (refine HFIN2.out _ _ _ ?_ (by rw [HC.out]; exact HE2.out); rfl)
    · have s2 : ((s.extract k (k + 2)).toList == [61, 61]) = true := by rw [HE2.out]; decide
      have s0 : ((s.extract k (k + 2)).toList == [124, 124]) = false := by rw [HE2.out]; decide
      have s1 : ((s.extract k (k + 2)).toList == [38, 38]) = false := by rw [HE2.out]; decide
      go_quiet (fail)
      go_wp2
      go_quiet (fail)
      go_wp2
      go_ret
      (refine HFIN2.out _ _ _ ?_ (by rw [HC.out]; exact HE2.out); rfl)
    · have s3 : ((s.extract k (k + 2)).toList == [33, 61]) = true := by rw [HE2.out]; decide
      have s0 : ((s.extract k (k + 2)).toList == [124, 124]) = false := by rw [HE2.out]; decide
      have s1 : ((s.extract k (k + 2)).toList == [38, 38]) = false := by rw [HE2.out]; decide
      have s2 : ((s.extract k (k + 2)).toList == [61, 61]) = false := by rw [HE2.out]; decide
      go_quiet (fail)
      go_wp2
      go_quiet (fail)
      go_wp2
      go_ret
      (refine HFIN2.out _ _ _ ?_ (by rw [HC.out]; exact HE2.out); rfl)
    · have s4 : ((s.extract k (k + 2)).toList == [60, 61]) = true := by rw [HE2.out]; decide
      have s0 : ((s.extract k (k + 2)).toList == [124, 124]) = false := by rw [HE2.out]; decide
      have s1 : ((s.extract k (k + 2)).toList == [38, 38]) = false := by rw [HE2.out]; decide
      have s2 : ((s.extract k (k + 2)).toList == [61, 61]) = false := by rw [HE2.out]; decide
      have s3 : ((s.extract k (k + 2)).toList == [33, 61]) = false := by rw [HE2.out]; decide
      go_quiet (fail)
      go_wp2
      go_quiet (fail)
      go_wp2
      go_ret
      (refine HFIN2.out _ _ _ ?_ (by rw [HC.out]; exact HE2.out); rfl)
    · have s5 : ((s.extract k (k + 2)).toList == [62, 61]) = true := by rw [HE2.out]; decide
      have s0 : ((s.extract k (k + 2)).toList == [124, 124]) = false := by rw [HE2.out]; decide
      have s1 : ((s.extract k (k + 2)).toList == [38, 38]) = false := by rw [HE2.out]; decide
      have s2 : ((s.extract k (k + 2)).toList == [61, 61]) = false := by rw [HE2.out]; decide
      have s3 : ((s.extract k (k + 2)).toList == [33, 61]) = false := by rw [HE2.out]; decide
      have s4 : ((s.extract k (k + 2)).toList == [60, 61]) = false := by rw [HE2.out]; decide
      go_quiet (fail)
      go_wp2
      go_quiet (fail)
      go_wp2
      go_ret
      (refine HFIN2.out _ _ _ ?_ (by rw [HC.out]; exact HE2.out); rfl)
  · have HNC2 := Lib.hid hc2
    clear hc2
    have s0 : ((s.extract k (k + 2)).toList == [124, 124]) = false := by rw [HE2.out, beq_eq_false_iff_ne]; intro e; obtain ⟨rfl, rfl⟩ : c = 124 ∧ d = 124 := (by simpa using e); exact HNC2.out (by decide)
    have s1 : ((s.extract k (k + 2)).toList == [38, 38]) = false := by rw [HE2.out, beq_eq_false_iff_ne]; intro e; obtain ⟨rfl, rfl⟩ : c = 38 ∧ d = 38 := (by simpa using e); exact HNC2.out (by decide)
    have s2 : ((s.extract k (k + 2)).toList == [61, 61]) = false := by rw [HE2.out, beq_eq_false_iff_ne]; intro e; obtain ⟨rfl, rfl⟩ : c = 61 ∧ d = 61 := (by simpa using e); exact HNC2.out (by decide)
    have s3 : ((s.extract k (k + 2)).toList == [33, 61]) = false := by rw [HE2.out, beq_eq_false_iff_ne]; intro e; obtain ⟨rfl, rfl⟩ : c = 33 ∧ d = 61 := (by simpa using e); exact HNC2.out (by decide)
    have s4 : ((s.extract k (k + 2)).toList == [60, 61]) = false := by rw [HE2.out, beq_eq_false_iff_ne]; intro e; obtain ⟨rfl, rfl⟩ : c = 60 ∧ d = 61 := (by simpa using e); exact HNC2.out (by decide)
    have s5 : ((s.extract k (k + 2)).toList == [62, 61]) = false := by rw [HE2.out, beq_eq_false_iff_ne]; intro e; obtain ⟨rfl, rfl⟩ : c = 62 ∧ d = 61 := (by simpa using e); exact HNC2.out (by decide)
    by_cases hc : c ∈ ones
    · have HC := Lib.hid (show opT (c :: d :: r) = [c] by simp [opT, hc, HNC2.out])
      unfold ones at hc
      simp only [List.mem_cons, List.not_mem_nil, or_false] at hc
      rcases hc with rfl | rfl | rfl | rfl | rfl | rfl | rfl | rfl | rfl | rfl
      · have t60 : ((s.extract k (k + 1)).toList == [60]) = true := by rw [HE.out]; decide
        go_quiet (fail)
        go_wp2
        go_quiet (fail)
        go_wp2
        go_quiet (fail)
        go_wp2
        go_ret
        (refine HFIN2.out _ _ _ ?_ (by rw [HC.out]; exact HE.out); rfl)
      · have t62 : ((s.extract k (k + 1)).toList == [62]) = true := by rw [HE.out]; decide
        have t60 : ((s.extract k (k + 1)).toList == [60]) = false := by rw [HE.out]; decide
        go_quiet (fail)
        go_wp2
        go_quiet (fail)
        go_wp2
        go_quiet (fail)
        go_wp2
        go_ret
        (refine HFIN2.out _ _ _ ?_ (by rw [HC.out]; exact HE.out); rfl)
      · have t43 : ((s.extract k (k + 1)).toList == [43]) = true := by rw [HE.out]; decide
        have t60 : ((s.extract k (k + 1)).toList == [60]) = false := by rw [HE.out]; decide
        have t62 : ((s.extract k (k + 1)).toList == [62]) = false := by rw [HE.out]; decide
        go_quiet (fail)
        go_wp2
        go_quiet (fail)
        go_wp2
        go_quiet (fail)
        go_wp2
        go_ret
        (refine HFIN2.out _ _ _ ?_ (by rw [HC.out]; exact HE.out); rfl)
      · have t45 : ((s.extract k (k + 1)).toList == [45]) = true := by rw [HE.out]; decide
        have t60 : ((s.extract k (k + 1)).toList == [60]) = false := by rw [HE.out]; decide
        have t62 : ((s.extract k (k + 1)).toList == [62]) = false := by rw [HE.out]; decide
        have t43 : ((s.extract k (k + 1)).toList == [43]) = false := by rw [HE.out]; decide
        go_quiet (fail)
        go_wp2
        go_quiet (fail)
        go_wp2
        go_quiet (fail)
        go_wp2
        go_ret
        (refine HFIN2.out _ _ _ ?_ (by rw [HC.out]; exact HE.out); rfl)
      · have t42 : ((s.extract k (k + 1)).toList == [42]) = true := by rw [HE.out]; decide
        have t60 : ((s.extract k (k + 1)).toList == [60]) = false := by rw [HE.out]; decide
        have t62 : ((s.extract k (k + 1)).toList == [62]) = false := by rw [HE.out]; decide
        have t43 : ((s.extract k (k + 1)).toList == [43]) = false := by rw [HE.out]; decide
        have t45 : ((s.extract k (k + 1)).toList == [45]) = false := by rw [HE.out]; decide
        go_quiet (fail)
        go_wp2
        go_quiet (fail)
        go_wp2
        go_quiet (fail)
        go_wp2
        go_ret
        (refine HFIN2.out _ _ _ ?_ (by rw [HC.out]; exact HE.out); rfl)
      · have t47 : ((s.extract k (k + 1)).toList == [47]) = true := by rw [HE.out]; decide
        have t60 : ((s.extract k (k + 1)).toList == [60]) = false := by rw [HE.out]; decide
        have t62 : ((s.extract k (k + 1)).toList == [62]) = false := by rw [HE.out]; decide
        have t43 : ((s.extract k (k + 1)).toList == [43]) = false := by rw [HE.out]; decide
        have t45 : ((s.extract k (k + 1)).toList == [45]) = false := by rw [HE.out]; decide
        have t42 : ((s.extract k (k + 1)).toList == [42]) = false := by rw [HE.out]; decide
        go_quiet (fail)
        go_wp2
        go_quiet (fail)
        go_wp2
        go_quiet (fail)
        go_wp2
        go_ret
        (refine HFIN2.out _ _ _ ?_ (by rw [HC.out]; exact HE.out); rfl)
      · have t37 : ((s.extract k (k + 1)).toList == [37]) = true := by rw [HE.out]; decide
        have t60 : ((s.extract k (k + 1)).toList == [60]) = false := by rw [HE.out]; decide
        have t62 : ((s.extract k (k + 1)).toList == [62]) = false := by rw [HE.out]; decide
        have t43 : ((s.extract k (k + 1)).toList == [43]) = false := by rw [HE.out]; decide
        have t45 : ((s.extract k (k + 1)).toList == [45]) = false := by rw [HE.out]; decide
        have t42 : ((s.extract k (k + 1)).toList == [42]) = false := by rw [HE.out]; decide
        have t47 : ((s.extract k (k + 1)).toList == [47]) = false := by rw [HE.out]; decide
        go_quiet (fail)
        go_wp2
        go_quiet (fail)
        go_wp2
        go_quiet (fail)
        go_wp2
        go_ret
        (refine HFIN2.out _ _ _ ?_ (by rw [HC.out]; exact HE.out); rfl)
      · have t33 : ((s.extract k (k + 1)).toList == [33]) = true := by rw [HE.out]; decide
        have t60 : ((s.extract k (k + 1)).toList == [60]) = false := by rw [HE.out]; decide
        have t62 : ((s.extract k (k + 1)).toList == [62]) = false := by rw [HE.out]; decide
        have t43 : ((s.extract k (k + 1)).toList == [43]) = false := by rw [HE.out]; decide
        have t45 : ((s.extract k (k + 1)).toList == [45]) = false := by rw [HE.out]; decide
        have t42 : ((s.extract k (k + 1)).toList == [42]) = false := by rw [HE.out]; decide
        have t47 : ((s.extract k (k + 1)).toList == [47]) = false := by rw [HE.out]; decide
        have t37 : ((s.extract k (k + 1)).toList == [37]) = false := by rw [HE.out]; decide
        go_quiet (fail)
        go_wp2
        go_quiet (fail)
        go_wp2
        go_quiet (fail)
        go_wp2
        go_ret
        (refine HFIN2.out _ _ _ ?_ (by rw [HC.out]; exact HE.out); rfl)
      · have t40 : ((s.extract k (k + 1)).toList == [40]) = true := by rw [HE.out]; decide
        have t60 : ((s.extract k (k + 1)).toList == [60]) = false := by rw [HE.out]; decide
        have t62 : ((s.extract k (k + 1)).toList == [62]) = false := by rw [HE.out]; decide
        have t43 : ((s.extract k (k + 1)).toList == [43]) = false := by rw [HE.out]; decide
        have t45 : ((s.extract k (k + 1)).toList == [45]) = false := by rw [HE.out]; decide
        have t42 : ((s.extract k (k + 1)).toList == [42]) = false := by rw [HE.out]; decide
        have t47 : ((s.extract k (k + 1)).toList == [47]) = false := by rw [HE.out]; decide
        have t37 : ((s.extract k (k + 1)).toList == [37]) = false := by rw [HE.out]; decide
        have t33 : ((s.extract k (k + 1)).toList == [33]) = false := by rw [HE.out]; decide
        go_quiet (fail)
        go_wp2
        go_quiet (fail)
        go_wp2
        go_quiet (fail)
        go_wp2
        go_ret
        (refine HFIN2.out _ _ _ ?_ (by rw [HC.out]; exact HE.out); rfl)
      · have t41 : ((s.extract k (k + 1)).toList == [41]) = true := by rw [HE.out]; decide
        have t60 : ((s.extract k (k + 1)).toList == [60]) = false := by rw [HE.out]; decide
        have t62 : ((s.extract k (k + 1)).toList == [62]) = false := by rw [HE.out]; decide
        have t43 : ((s.extract k (k + 1)).toList == [43]) = false := by rw [HE.out]; decide
        have t45 : ((s.extract k (k + 1)).toList == [45]) = false := by rw [HE.out]; decide
        have t42 : ((s.extract k (k + 1)).toList == [42]) = false := by rw [HE.out]; decide
        have t47 : ((s.extract k (k + 1)).toList == [47]) = false := by rw [HE.out]; decide
        have t37 : ((s.extract k (k + 1)).toList == [37]) = false := by rw [HE.out]; decide
        have t33 : ((s.extract k (k + 1)).toList == [33]) = false := by rw [HE.out]; decide
        have t40 : ((s.extract k (k + 1)).toList == [40]) = false := by rw [HE.out]; decide
        go_quiet (fail)
        go_wp2
        go_quiet (fail)
        go_wp2
        go_quiet (fail)
        go_wp2
        go_ret
        (refine HFIN2.out _ _ _ ?_ (by rw [HC.out]; exact HE.out); rfl)
    · have HC := Lib.hid (show opT (c :: d :: r) = [] by simp [opT, hc, HNC2.out])
      have HNC := Lib.hid hc
      clear hc
      have t60 : ((s.extract k (k + 1)).toList == [60]) = false := by rw [HE.out, beq_eq_false_iff_ne]; intro e; obtain rfl : c = 60 := (by simpa using e); exact HNC.out (by decide)
      have t62 : ((s.extract k (k + 1)).toList == [62]) = false := by rw [HE.out, beq_eq_false_iff_ne]; intro e; obtain rfl : c = 62 := (by simpa using e); exact HNC.out (by decide)
      have t43 : ((s.extract k (k + 1)).toList == [43]) = false := by rw [HE.out, beq_eq_false_iff_ne]; intro e; obtain rfl : c = 43 := (by simpa using e); exact HNC.out (by decide)
      have t45 : ((s.extract k (k + 1)).toList == [45]) = false := by rw [HE.out, beq_eq_false_iff_ne]; intro e; obtain rfl : c = 45 := (by simpa using e); exact HNC.out (by decide)
      have t42 : ((s.extract k (k + 1)).toList == [42]) = false := by rw [HE.out, beq_eq_false_iff_ne]; intro e; obtain rfl : c = 42 := (by simpa using e); exact HNC.out (by decide)
      have t47 : ((s.extract k (k + 1)).toList == [47]) = false := by rw [HE.out, beq_eq_false_iff_ne]; intro e; obtain rfl : c = 47 := (by simpa using e); exact HNC.out (by decide)
      have t37 : ((s.extract k (k + 1)).toList == [37]) = false := by rw [HE.out, beq_eq_false_iff_ne]; intro e; obtain rfl : c = 37 := (by simpa using e); exact HNC.out (by decide)
      have t33 : ((s.extract k (k + 1)).toList == [33]) = false := by rw [HE.out, beq_eq_false_iff_ne]; intro e; obtain rfl : c = 33 := (by simpa using e); exact HNC.out (by decide)
      have t40 : ((s.extract k (k + 1)).toList == [40]) = false := by rw [HE.out, beq_eq_false_iff_ne]; intro e; obtain rfl : c = 40 := (by simpa using e); exact HNC.out (by decide)
      have t41 : ((s.extract k (k + 1)).toList == [41]) = false := by rw [HE.out, beq_eq_false_iff_ne]; intro e; obtain rfl : c = 41 := (by simpa using e); exact HNC.out (by decide)
      go_quiet (fail)
      go_wp2
      go_quiet (fail)
      go_wp2
      go_quiet (fail)
      go_wp2
      go_ret
      (refine HFIN2.out _ ⟨#[]⟩ _ ?_ (by rw [HC.out, empty_toList]); rfl)
/-- the word of signs that begins here. -/
theorem operator_calls (s : ByteArray) (b a p : Nat) (w : World) (hs : s.size ≤ 200) (ha : a ≤ s.size) (h : St w b s a p) :
    Calls Tryz.prog 189 #[.pointer (some ⟨b, 0, none⟩)] w (OpPost s b a p w) := by
  rcases hk : skipL ((L s).drop a) with _ | ⟨c, _ | ⟨d, r⟩⟩
  · exact operator_none s b a p w hs ha h hk
  · exact operator_one s b a p w hs ha h c hk
  · exact operator_two s b a p w hs ha h c d r hk
end Go.Proofs.YtkjajlolfcioiaaGreatDoor.Expr
