/- Each group has one owner, each partition one reader. -/
import Derived.Test.YtfmdflkbgfnehaaHandOwnsC
import Derived.Deep.QuietTactic
import Derived.BigQuiet
import Derived.WalkSmall
namespace Go.Proofs.Ytfmdflkbgfnehaa.Hand
open Go.RowKit Go.Shelf Go.Proofs.Ytfmdflkbgfnehaa

def rA (m k : Nat) : Int := rangeA m k (rangeL m k)
def rB (m k : Nat) : Int := rangeB (rangeL m k)
def atF (m : Nat) : Nat → Int | 0 => 0 | k + 1 => rB m k
theorem atF_end : ∀ m : Fin 9, 1 ≤ m.val → atF m m = 16 := by decide +kernel
theorem ranges_all : ∀ m k : Fin 9, 1 ≤ m.val → k.val < m.val → rA m k = atF m k ∧ 0 ≤ rA m k ∧ rA m k < rB m k ∧ rB m k ≤ 16 ∧ ((16 / m.val : Nat) : Int) ≤ rB m k - rA m k ∧ rB m k - rA m k ≤ ((16 / m.val : Nat) : Int) + 1 ∧ ∀ g : Fin 16, rA m k ≤ (g.val : Int) → (g.val : Int) < rB m k → (g.val : Int) * (m.val : Int) / 16 = (k.val : Int) := by decide +kernel

/-- how often a partition has been counted: behind i readers, and k of the next one's. -/
def cnt (s p i k c : Nat) : Int := if c < p ∧ (c % s < i ∨ (c % s = i ∧ c / s < k)) then 1 else 0
theorem cnt_at (s p i k : Nat) (hs : 1 ≤ s) (hi : i < s) (hx : i + k * s < p) : cnt s p i k (i + k * s) = 0 ∧ cnt s p i (k + 1) (i + k * s) = 1 := by
  have h1 : (i + k * s) % s = i := by rw [Nat.add_mul_mod_self_right, Nat.mod_eq_of_lt hi]
  have h2 : (i + k * s) / s = k := by rw [Nat.add_mul_div_right _ _ (by omega), Nat.div_eq_of_lt hi]; omega
  unfold cnt
  rw [h1, h2]
  exact ⟨if_neg (by omega), if_pos (by omega)⟩
theorem cnt_else (s p i k c : Nat) (hc : c ≠ i + k * s) : cnt s p i (k + 1) c = cnt s p i k c := by
  have hne : ¬ (c % s = i ∧ c / s = k) := by
    rintro ⟨h1, h2⟩
    have := Nat.mod_add_div c s
    rw [h1, h2, Nat.mul_comm] at this
    exact hc this.symm
  unfold cnt
  have : (c < p ∧ (c % s < i ∨ c % s = i ∧ c / s < k + 1)) ↔ (c < p ∧ (c % s < i ∨ c % s = i ∧ c / s < k)) := by omega
  simp only [this]
theorem cnt_next (s p i k c : Nat) (hx : p ≤ i + k * s) : cnt s p i k c = cnt s p (i + 1) 0 c := by
  unfold cnt
  have key : c < p → c % s = i → c / s < k := by
    intro h1 h2
    apply Decidable.byContradiction
    intro h3
    have := Nat.mod_add_div c s
    have h4 : s * k ≤ s * (c / s) := Nat.mul_le_mul_left _ (by omega)
    rw [Nat.mul_comm s k] at h4
    generalize s * (c / s) = z at *
    omega
  have : (c < p ∧ (c % s < i ∨ c % s = i ∧ c / s < k)) ↔ (c < p ∧ (c % s < i + 1 ∨ c % s = i + 1 ∧ c / s < 0)) := by
    constructor
    · rintro ⟨a, b⟩; exact ⟨a, by omega⟩
    · rintro ⟨a, b⟩
      refine ⟨a, ?_⟩
      by_cases e : c % s = i
      · exact .inr ⟨e, key a e⟩
      · have : ¬ c / s < 0 := Nat.not_lt_zero _
        omega
  simp only [this]
theorem cnt_zero (s p c : Nat) : cnt s p 0 0 c = 0 := by
  unfold cnt
  rw [if_neg (by rintro ⟨_, h | ⟨_, h⟩⟩ <;> exact Nat.not_lt_zero _ h)]
theorem cnt_end (s p c : Nat) (hs : 1 ≤ s) (hc : c < p) : cnt s p s 0 c = 1 := by unfold cnt; rw [if_pos ⟨hc, .inl (Nat.mod_lt _ (by omega))⟩]
theorem cnt_bd (s p i k c : Nat) : 0 ≤ cnt s p i k c ∧ cnt s p i k c ≤ 1 := by unfold cnt; split <;> omega

theorem steps_in (n s p K : Nat) (h : K = 0 ∨ n + (K - 1) * s < p) : ∀ j, j < K → n + j * s < p := by
  intro j hj
  have : j * s ≤ (K - 1) * s := Nat.mul_le_mul_right _ (by omega)
  omega

def Seen (w : World) (B : Nat) (f : Nat → Int) : Prop := ∀ c, c < 16 → w.cell? ⟨B, c, none⟩ = some (.int .i64 (f c)) ∧ w.frozen? ⟨B, c, none⟩ = false
theorem Seen.below {w w' : World} {B : Nat} {f : Nat → Int} (h : Seen w B f) (hb : RowKit.Below w.heap.size w w') (hB : B < w.heap.size) : Seen w' B f :=
  fun c hc => ⟨keep hb hB (h c hc).1, (hb.frozen (p := ⟨B, c, none⟩) hB).trans (h c hc).2⟩
theorem Seen.congr {w : World} {B : Nat} {f g : Nat → Int} (h : Seen w B f) (e : ∀ c, c < 16 → f c = g c) : Seen w B g := fun c hc => by rw [← e c hc]; exact h c hc
theorem Seen.set {w : World} {B x : Nat} {f : Nat → Int} (h : Seen w B f) (hx : x < 16) (v : Int) : Seen (w.setCell ⟨B, x, none⟩ (.int .i64 v)) B (fun c => if c = x then v else f c) := by
  intro c hc
  refine ⟨?_, by rw [World.frozen?_setCell]; exact (h c hc).2⟩
  by_cases e : c = x
  · subst e
    simp only [if_true]
    exact World.cell?_setCell_same' _ _ _ (by rw [(h c hc).1]; rfl)
  · simp only [if_neg e]
    have := (h c hc).1
    go_simp
theorem Seen.start (w : World) (zs : Array Value) (t : TypeId) (hz : ∀ c, c < 16 → zs[c]? = some (.int .i64 0)) : Seen (w.alloc (.cells zs t)) w.heap.size (fun _ => 0) := by
  intro c hc
  have h := World.alloc_heap_new w (.cells zs t)
  constructor
  · unfold World.cell?
    rw [h]
    exact hz c hc
  · unfold World.frozen?
    rw [h]
    simp
theorem RowAt.set {w : World} {v : Value} {n : Nat} {f : Nat → Value} {B x : Nat} (u : Value) (h : RowAt w v n f) (hne : ∀ g, v.ownBlock = some g → g ≠ B) : RowAt (w.setCell ⟨B, x, none⟩ u) v n f := by
  rcases h with h | ⟨g, cap, h1, h2, h3, h4⟩
  · exact .inl h
  · have hg : g ≠ B := hne g (by rw [h1]; rfl)
    refine .inr ⟨g, cap, h1, h2, by simpa using h3, fun j hj => ?_⟩
    rw [World.cell?_of_block (w := w) (Below.heap_setCell _ _ _ _ hg)]
    exact h4 j hj

theorem Seen.drewN {w : World} {B : Nat} {f : Nat → Int} (h : Seen w B f) (n : Nat) : Seen (w.drewN n) B f := fun c hc => by
  have h1 := (h c hc).1
  have h2 := (h c hc).2
  exact ⟨by go_simp, by go_simp⟩
theorem RowAt.drewN {w : World} {v : Value} {n : Nat} {f : Nat → Value} (h : RowAt w v n f) (k : Nat) : RowAt (w.drewN k) v n f := by
  rcases h with h | ⟨g, cap, h1, h2, h3, h4⟩
  · exact .inl h
  · exact .inr ⟨g, cap, h1, h2, by simpa using h3, fun j hj => by have := h4 j hj; go_simp⟩
/-- one more counted, at whatever number of draws. -/
theorem round_end (wr w : World) (nq B n s p j K g cap : Nat) (hs0 : 1 ≤ s) (hlt : n < s) (hx16 : n + j * s < 16) (hx : n + j * s < p) (hgB : g ≠ B) (hwB : w.heap.size ≤ B) (hS : Seen wr B (cnt s p n j)) (hB : B < wr.heap.size)
    (hR : RowAt wr (.slice (some ⟨g, 0, none⟩) K cap) K (fun j => .int .i64 ((n + j * s : Nat) : Int))) (hb : RowKit.Below w.heap.size w wr) :
    Seen ((wr.drewN nq).setCell ⟨B, n + j * s, none⟩ (.int .i64 1)) B (cnt s p n (j + 1)) ∧ B < ((wr.drewN nq).setCell ⟨B, n + j * s, none⟩ (.int .i64 1)).heap.size ∧
    RowAt ((wr.drewN nq).setCell ⟨B, n + j * s, none⟩ (.int .i64 1)) (.slice (some ⟨g, 0, none⟩) K cap) K (fun j => .int .i64 ((n + j * s : Nat) : Int)) ∧ RowKit.Below w.heap.size w ((wr.drewN nq).setCell ⟨B, n + j * s, none⟩ (.int .i64 1)) := by
  obtain ⟨hc0, hc1⟩ := cnt_at s p n j hs0 hlt hx
  refine ⟨((hS.drewN nq).set hx16 1).congr (fun c _ => ?_), by simpa using hB, (hR.drewN nq).set (.int .i64 1) (fun g' hg' => ?_), (below_drewN hb nq).setCell (p := ⟨B, n + j * s, none⟩) hwB _⟩
  · by_cases e : c = n + j * s
    · rw [if_pos e, e, hc1]
    · rw [if_neg e, cnt_else s p n j c e]
  · obtain rfl : g = g' := by simpa [Value.ownBlock] using hg'
    exact hgB

set_option maxRecDepth 100000 in
set_option maxHeartbeats 8000000 in
theorem RangesLaw_good (m s p : Nat) (w : World) (hm0 : 1 ≤ m) (hm : m ≤ 8) (hs0 : 1 ≤ s) (hs : s ≤ 8) (hp0 : 1 ≤ p) (hp : p ≤ 16) :
    Calls Try.prog 5 #[.int .i64 (m : Int), .int .i64 (s : Int), .int .i64 (p : Int)] w fun e w' => e = .returned (.bool true) ∧ RowKit.Below w.heap.size w w' := by
  obtain ⟨q, hq⟩ : ∃ q : Int, q = ((16 / m : Nat) : Int) := ⟨_, rfl⟩
  have hq0 : 0 ≤ q := by rw [hq]; exact Int.natCast_nonneg _
  have hq16 : q ≤ 16 := by have := Nat.div_le_self 16 m; omega
  have HQ := Lib.hid hq
  clear hq
  have hp1 : decide ((p : Int) < 1) = false := by simp; omega
  have hp2 : decide (16 < (p : Int)) = false := by simp; omega
  go_enter Try.func5, Try.ntmps5
  go_wp2_with (go_at_call 15; refine (Sub_true _ _ (by omega) (by omega)).mono ?_; rintro e w' ⟨rfl, rfl⟩)
  go_loopw [7, 8, 9, 10] (fun a l x i wr => ∃ (k : Nat) (A L X : Int), k ≤ m ∧ i = .int .i64 (k : Int) ∧ a = .int .i64 A ∧ Hid (A = atF m k) ∧ l = .int .i64 L ∧ x = .int .i64 X ∧ q ≤ L ∧ L ≤ 16 ∧ 0 ≤ X ∧ X ≤ q + 1 ∧ RowKit.Below w.heap.size w wr) (fun _ _ _ i _ => m - (intOf i).toNat)
  case atStart => exact ⟨0, 0, 16, 0, by omega, rfl, rfl, Lib.hid rfl, rfl, rfl, by omega, by omega, by omega, by omega, Below.refl _ _⟩
  case round =>
    obtain ⟨k, A, L, X, hk, rfl, rfl, hA, rfl, rfl, hL0, hL1, hX0, hX1, hB⟩ := hrel
    by_cases hlt : k < m
    · obtain ⟨r1, r2, r3, r4, r6, r7, r5⟩ := ranges_all ⟨m, by omega⟩ ⟨k, by omega⟩ hm0 hlt
      simp only at r1 r2 r3 r4 r5 r6 r7
      rw [← HQ.out] at r6 r7
      rw [← hA.out] at r1
      have R1 := Lib.hid r1
      have R5 := Lib.hid r5
      clear r5
      rw [r1] at r2 r3 r6 r7
      clear r1
      obtain ⟨Bv, hBv⟩ : ∃ x, x = rB m k := ⟨_, rfl⟩
      rw [← hBv] at r3 r4 r6 r7
      have HB := Lib.hid hBv
      clear hBv
      have RA : Hid (rangeA m k (rangeL m k) = A) := R1
      have RB : Hid (rangeB (rangeL m k) = Bv) := Lib.hid HB.out.symm
      go_wp2_with (go_at_call 13; go_must (refine (Range_good m k (by omega) (by omega) (by omega) (by omega) _).mono ?_); rintro e w1 ⟨rfl, hB1⟩; rw [RA.out, RB.out])
      all_goals
        go_loop [14] (fun g => ∃ n : Nat, g = .int .i64 (n : Int) ∧ A ≤ n ∧ (n : Int) ≤ Bv) (fun g => (Bv - intOf g).toNat)
        case atStart => exact ⟨A.toNat, by rw [Int.toNat_of_nonneg r2], by omega, by omega⟩
        case round =>
          obtain ⟨n, rfl, hn1, hn2⟩ := hrel
          by_cases hg : (n : Int) < Bv
          · have hO := R5.out ⟨n, by omega⟩ (by rw [R1.out]; exact hn1) (by rw [← HB.out]; exact hg)
            simp only at hO
            have HO := Lib.hid hO
            clear hO
            go_wp2_with (go_at_call 12; go_must (refine (Owner_good n m _ (by omega) (by omega) (by omega) (by omega)).mono ?_); rintro e w' ⟨rfl, rfl⟩; rw [HO.out])
            go_round
            case rel => exact ⟨n + 1, by go_num, by omega, by omega⟩
            case measure => simp [intOf]; omega
          · go_wp2
            go_roundw
            case rel => exact ⟨k + 1, Bv, _, _, by omega, by go_num, rfl, Lib.hid HB.out, rfl, rfl, by omega, by omega, by omega, by omega, bgo hB (by have := hB.size; omega) hB1⟩
            case measure => simp [intOf]; omega
    · obtain rfl : k = m := by omega
      obtain rfl : A = 16 := by rw [hA.out]; exact atF_end ⟨k, by omega⟩ hm0
      go_wp2
      obtain ⟨Z, hZ⟩ : ∃ Z : Array Value, Z = #[.int .i64 0, .int .i64 0, .int .i64 0, .int .i64 0, .int .i64 0, .int .i64 0, .int .i64 0, .int .i64 0, .int .i64 0, .int .i64 0, .int .i64 0, .int .i64 0, .int .i64 0, .int .i64 0, .int .i64 0, .int .i64 0] := ⟨_, rfl⟩
      have hS0 := Seen.start wr Z 40 (by rw [hZ]; intro c hc; rcases c with _ | _ | _ | _ | _ | _ | _ | _ | _ | _ | _ | _ | _ | _ | _ | _ | c <;> first | rfl | omega)
      have hB0 : RowKit.Below w.heap.size w (wr.alloc (.cells Z 40)) := hB.alloc hB.size _
      have hz0 : (wr.alloc (.cells Z 40)).heap.size = wr.heap.size + 1 := World.size_alloc _ _
      rw [← hZ]
      obtain ⟨W0, hW0⟩ : ∃ W0, wr.alloc (.cells Z 40) = W0 := ⟨_, rfl⟩
      rw [hW0] at hS0 hB0 hz0 ⊢
      obtain ⟨B, hBe⟩ : ∃ B, wr.heap.size = B := ⟨_, rfl⟩
      have hwB : w.heap.size ≤ B := by have := hB.size; omega
      rw [hBe] at hS0 hz0 ⊢
      clear hW0 hZ hBe hB
      go_loopw [18] (fun i wq => ∃ n : Nat, n ≤ s ∧ i = .int .i64 (n : Int) ∧ Seen wq B (cnt s p n 0) ∧ B < wq.heap.size ∧ RowKit.Below w.heap.size w wq) (fun i _ => s - (intOf i).toNat)
      case atStart => exact ⟨0, by omega, rfl, hS0.congr (fun c _ => (cnt_zero s p c).symm), by omega, hB0⟩
      case round =>
        obtain ⟨n, hn, rfl, hS, hBl, hBq⟩ := hrel
        by_cases hlt : n < s
        · go_wp2_with (go_at_call 14; go_must (refine (Parts_good n s p (by omega) (by omega) (by omega) (by omega) (by omega) _).mono ?_); rintro e w2 ⟨v, K, rfl, hk1, hk2, hown, hB2⟩; have hr1 := RowAt.of hown (fun j => .int .i64 ((n + j * s : Nat) : Int)) (fun j hj => stepL_get _ _ _ _ hj); go_must (have hne : ∀ g, v.ownBlock = some g → g ≠ B := fun g hg => by have := (hown.lt g hg).1; omega); clear hown; have hS2 := hS.below hB2 hBl; have hK16 := (parts_fit p n s K (by omega) (by omega) (by omega) (by omega) hk1 hk2).1 ▸ rpartsL_le n s p)
          have HK1 := Lib.hid hk1
          have HK2 := Lib.hid (steps_in n s p K hk2)
          clear hk1 hk2
          have hB3 : RowKit.Below w.heap.size w w2 := bgo hBq (Nat.le_refl _) hB2
          have hBl2 : B < w2.heap.size := by have := hB2.size; omega
          rcases hr1 with ⟨hK0, hv0⟩ | ⟨g, cap, hv0, hcap, hg, hcell⟩
          · subst hK0 hv0
            go_loop [21] (fun i => i = .int .i64 0) (fun _ => 0)
            case atStart => exact rfl
            case round =>
              subst hrel
              go_wp2
              go_roundw
              case rel => exact ⟨n + 1, by omega, by go_num, hS2.congr (fun c _ => cnt_next s p n 0 c HK1.out), hBl2, hB3⟩
              case measure => simp [intOf]; omega
          · subst hv0
            have hgB : g ≠ B := hne g rfl
            have HR : RowAt w2 (.slice (some ⟨g, 0, none⟩) K cap) K (fun j => .int .i64 ((n + j * s : Nat) : Int)) := .inr ⟨g, cap, rfl, hcap, hg, hcell⟩
            clear hcell hne
            go_loopw [21] (fun i wi => ∃ j : Nat, j ≤ K ∧ i = .int .i64 (j : Int) ∧ Seen wi B (cnt s p n j) ∧ B < wi.heap.size ∧ RowAt wi (.slice (some ⟨g, 0, none⟩) K cap) K (fun j => .int .i64 ((n + j * s : Nat) : Int)) ∧ RowKit.Below w.heap.size w wi) (fun i _ => K - (intOf i).toNat)
            case atStart => exact ⟨0, by omega, rfl, hS2, hBl2, HR, hB3⟩
            case round =>
              obtain ⟨j, hj, rfl, hSi, hBi, hRi, hBB⟩ := hrel
              by_cases hjl : j < K
              · have hx := HK2.out j hjl
                obtain ⟨hc0, hc1⟩ := cnt_at s p n j hs0 hlt hx
                rcases hRi with ⟨h0, _⟩ | ⟨g', cap', he, _, hg', hcl⟩
                · omega
                · obtain ⟨rfl, rfl⟩ : g = g' ∧ cap = cap' := by simpa using he
                  have hRi : RowAt wr (.slice (some ⟨g, 0, none⟩) K cap) K (fun j => .int .i64 ((n + j * s : Nat) : Int)) := .inr ⟨g, cap, rfl, hcap, hg', hcl⟩
                  have hpre : Hid (∀ a : Nat, j = a + 1 → wr.cell? ⟨g, a, none⟩ = some (.int .i64 ((n + a * s : Nat) : Int)) ∧ n + a * s < n + j * s) := Lib.hid (fun a ha => ⟨hcl a (by omega), by rw [ha, Nat.add_mul]; omega⟩)
                  have hxj : wr.cell? ⟨g, j, none⟩ = some (.int .i64 ((n + j * s : Nat) : Int)) := hcl j hjl
                  clear hcl he
                  have hSx := hSi (n + j * s) (by omega)
                  rw [hc0] at hSx
                  have hSx1 := hSx.1
                  have hSx2 := hSx.2
                  clear hSx hc0 hc1
                  have HE := Lib.hid (fun nq => round_end wr w nq B n s p j K g cap hs0 hlt (by omega) hx hgB hwB hSi hBi hRi hBB)
                  obtain ⟨x, hX⟩ : ∃ x, x = n + j * s := ⟨_, rfl⟩
                  rw [← hX] at hxj hx hSx1 hSx2 HE hpre
                  clear hX
                  have t1 : decide ((x : Int) < 0) = false := by simp
                  have t2 : decide ((p : Int) ≤ (x : Int)) = false := by simp; omega
                  have t3 : decide (p ≤ x) = false := by simp; omega
                  rcases j with _ | a
                  · have t4 : decide ((0 : Int) < 0) = false := rfl
                    clear hSi hRi hS hS2 hpre hB3 hBq HR hBB hB2 hS0 hB0 hz0 hA
                    go_wp2
                    go_quiet (fail)
                    go_wp2
                    obtain ⟨e1, e2, e3, e4⟩ := HE.out nq
                    exact ⟨⟨1, by omega, rfl, e1, e2, e3, e4⟩, by simp [intOf] <;> omega⟩
                  · obtain ⟨hy1, hy2⟩ := hpre.out a rfl
                    obtain ⟨y, hY⟩ : ∃ y, y = n + a * s := ⟨_, rfl⟩
                    rw [← hY] at hy1 hy2
                    clear hY
                    have t4 : decide ((0 : Int) < (a : Int) + 1) = true := by simp <;> omega
                    have t5 : decide ((x : Int) ≤ (y : Int)) = false := by simp; omega
                    have t6 : decide (x ≤ y) = false := by simp; omega
                    clear hSi hRi hS hS2 hpre hB3 hBq HR hBB hB2 hS0 hB0 hz0 hA
                    go_wp2
                    go_quiet (fail)
                    go_wp2
                    obtain ⟨e1, e2, e3, e4⟩ := HE.out nq
                    exact ⟨⟨a + 1 + 1, by omega, by go_num, e1, e2, e3, e4⟩, by simp [intOf]; omega⟩
              · obtain rfl : j = K := by omega
                go_wp2
                go_roundw
                case rel => exact ⟨n + 1, by omega, by go_num, hSi.congr (fun c _ => cnt_next s p n _ c HK1.out), hBi, hBB⟩
                case measure => simp [intOf]; omega
        · obtain rfl : n = s := by omega
          go_wp2
          go_loop [22] (fun i => ∃ c : Nat, c ≤ p ∧ i = .int .i64 (c : Int)) (fun i => p - (intOf i).toNat)
          case atStart => exact ⟨0, by omega, rfl⟩
          case round =>
            obtain ⟨c, hc, rfl⟩ := hrel
            by_cases hcl : c < p
            · have hcell := (hS c (by omega)).1
              rw [cnt_end n p c (by omega) hcl] at hcell
              go_wp2
              go_round
              case rel => exact ⟨c + 1, by omega, by go_num⟩
              case measure => simp [intOf]; omega
            · obtain rfl : c = p := by omega
              go_wp2_with (go_at_call 7; go_must (refine (awake_calls _).mono ?_); rintro e w5 ⟨rfl, hB5⟩)
              go_ret
              exact ⟨by first | rfl | (simp; omega), bgo hBq (by have := hBq.size; omega) hB5⟩

set_option maxRecDepth 100000 in
set_option maxHeartbeats 8000000 in
theorem RangesLaw_bad (m s p : Int) (w : World) (h : (m < 1 ∨ 8 < m) ∨ (s < 1 ∨ 8 < s) ∨ p < 1 ∨ 16 < p) :
    Calls Try.prog 5 #[.int .i64 m, .int .i64 s, .int .i64 p] w fun e w' => e = .returned (.bool true) ∧ RowKit.Below w.heap.size w w' := by
  by_cases h1 : m < 1 ∨ 8 < m
  · go_enter Try.func5, Try.ntmps5
    go_wp2_with (go_at_call 15; refine (Sub_false _ _ h1).mono ?_; rintro e w' ⟨rfl, rfl⟩)
    go_ret
    exact ⟨rfl, Below.refl _ _⟩
  · by_cases h2 : s < 1 ∨ 8 < s
    · go_enter Try.func5, Try.ntmps5
      go_wp2_with (first | (go_at_call 15; (with_reducible refine (Sub_true m _ (by omega) (by omega)).mono ?_); rintro e w' ⟨rfl, rfl⟩) | (go_at_call 15; (with_reducible refine (Sub_false s _ h2).mono ?_); rintro e w' ⟨rfl, rfl⟩))
      go_ret
      exact ⟨rfl, Below.refl _ _⟩
    · by_cases h3 : p < 1
      · go_enter Try.func5, Try.ntmps5
        go_wp2_with (first | (go_at_call 15; (with_reducible refine (Sub_true m _ (by omega) (by omega)).mono ?_); rintro e w' ⟨rfl, rfl⟩) | (go_at_call 15; (with_reducible refine (Sub_true s _ (by omega) (by omega)).mono ?_); rintro e w' ⟨rfl, rfl⟩))
        go_ret
        exact ⟨rfl, Below.refl _ _⟩
      · have h4 : 16 < p := by omega
        go_enter Try.func5, Try.ntmps5
        go_wp2_with (first | (go_at_call 15; (with_reducible refine (Sub_true m _ (by omega) (by omega)).mono ?_); rintro e w' ⟨rfl, rfl⟩) | (go_at_call 15; (with_reducible refine (Sub_true s _ (by omega) (by omega)).mono ?_); rintro e w' ⟨rfl, rfl⟩))
        go_ret
        exact ⟨rfl, Below.refl _ _⟩

theorem GroupsRanges_calls (m s p : Int) (w : World) (_ : (Lit.int .i64 m).wf = true) (_ : (Lit.int .i64 s).wf = true) (_ : (Lit.int .i64 p).wf = true) :
    Calls Try.prog 5 #[.int .i64 m, .int .i64 s, .int .i64 p] w fun e w' => e = .returned (.bool true) ∧ RowKit.Below w.heap.size w w' := by
  by_cases h : (m < 1 ∨ 8 < m) ∨ (s < 1 ∨ 8 < s) ∨ p < 1 ∨ 16 < p
  · exact RangesLaw_bad m s p w h
  · obtain ⟨a, rfl⟩ := Int.eq_ofNat_of_zero_le (show 0 ≤ m by omega)
    obtain ⟨b, rfl⟩ := Int.eq_ofNat_of_zero_le (show 0 ≤ s by omega)
    obtain ⟨c, rfl⟩ := Int.eq_ofNat_of_zero_le (show 0 ≤ p by omega)
    exact RangesLaw_good a b c w (by omega) (by omega) (by omega) (by omega) (by omega) (by omega)
end Go.Proofs.Ytfmdflkbgfnehaa.Hand
