/- the law's examples, walked. -/
import Derived.Test.YtkjajlolfcioiaaGreatDoorLawGE
import Derived.WalkSpells
namespace Go.Proofs.YtkjajlolfcioiaaGreatDoor.Graph
open Go.RowKit Go.Proofs.YtkjajlolfcioiaaGreatDoor Go.Proofs.YtkjajlolfcioiaaGreatDoor.Own Go.Proofs.YtkjajlolfcioiaaGreatDoor.Tail Go.Proofs.YtkjajlolfcioiaaGreatDoor.Mp Go.Proofs.YtkjajlolfcioiaaGreatDoor.Ints Go.Proofs.YtkjajlolfcioiaaGreatDoor.Scan Go.Proofs.YtkjajlolfcioiaaGreatDoor.Plan Go.Proofs.YtkjajlolfcioiaaGreatDoor.Expr Go.Proofs.YtkjajlolfcioiaaGreatDoor.Check Go.Lib

def lnA : List ByteArray := [bs [99, 100], bs [97, 99]]
def lnB : List ByteArray := [bs [97, 99], bs [99, 97]]
def lnC : List ByteArray := [bs [97, 99], bs [99, 100], bs [97, 101]]
theorem lnA_order : orderR (plnOf lineTops (lineFl 0 lnA)) = ([1, 0], 0) := by decide +kernel
theorem lnB_order : orderR (plnOf lineTops (lineFl 0 lnB)) = ([], 60) := by decide +kernel
theorem lnC_e : planE (plnOf lineTops (lineFl 0 lnC)) = 0 := by decide +kernel
theorem lnC_F : edgesL ((lineFl 0 lnC).map (·.f)) = [-1, 0, -1] := by decide +kernel
theorem lineFl_small (L : List ByteArray) (j : Nat) : SmallFlows (lineFl j L) := by
  intro x hx
  obtain ⟨k, s, rfl⟩ := lineFl_mem hx
  constructor <;> simp [SmallSteps, lineFlv, lineFlw]
def TwoPost (X : World) (e : Ending) (X' : World) : Prop := ∃ b o c, e = .returned (.tuple #[.slice (some ⟨b, o, none⟩) 2 c, .int .i64 0]) ∧ X'.cell? ⟨b, o, none⟩ = some (.int .i64 1) ∧ X'.cell? ⟨b, o + 1, none⟩ = some (.int .i64 0) ∧ Below X.heap.size X X'
def OnePost (X : World) (e : Ending) (X' : World) : Prop := ∃ b o c, e = .returned (.tuple #[.slice (some ⟨b, o, none⟩) 1 c, .int .i64 0]) ∧ X'.cell? ⟨b, o, none⟩ = some (.int .i64 1) ∧ Below X.heap.size X X'
def NonePost (X : World) (e : Ending) (X' : World) : Prop := ∃ v, e = .returned (.tuple #[v, .int .i64 60]) ∧ Below X.heap.size X X'
def SrcPost (X : World) (e : Ending) (X' : World) : Prop := e = .returned (.tuple #[.int .i64 (-1), .int .i64 0]) ∧ Below X.heap.size X X'
theorem ordA {w X : World} {tv fv : Value} (hT : Tab w) (hg : 5 < w.heap.size) (U : Below w.heap.size w X) (hP : PlanAt X tv fv lineTops (lineFl 0 lnA)) : Calls Tryz.prog 17 #[.agg #[tv, fv]] X (TwoPost X) := by
  refine (order_calls _ _ tv fv X hP (lineFl_small _ _) (hT.below U) (by have := U.size; omega)).mono ?_
  rintro e X' ⟨v, rfl, hv, hB⟩
  rw [lnA_order] at hv ⊢
  obtain ⟨A, c, rfl, hc, hr⟩ := hv
  obtain ⟨b, o, rfl, hrow⟩ := hr (by decide)
  exact ⟨b, o, c, rfl, hrow 0 _ rfl, hrow 1 _ rfl, hB⟩
theorem ordB {w X : World} {tv fv : Value} (hT : Tab w) (hg : 5 < w.heap.size) (U : Below w.heap.size w X) (hP : PlanAt X tv fv lineTops (lineFl 0 lnB)) : Calls Tryz.prog 17 #[.agg #[tv, fv]] X (NonePost X) := by
  refine (order_calls _ _ tv fv X hP (lineFl_small _ _) (hT.below U) (by have := U.size; omega)).mono ?_
  rintro e X' ⟨v, rfl, hv, hB⟩
  rw [lnB_order] at hv ⊢
  exact ⟨v, rfl, hB⟩
theorem lnC_gE (i : Int) (h0 : 0 ≤ i) (h3 : i < 3) : gE (plnOf lineTops (lineFl 0 lnC)) i = 0 := by
  unfold gE
  rw [if_neg (by rw [lnC_e]; decide), if_neg]
  have : (plnOf lineTops (lineFl 0 lnC)).flows.length = 3 := rfl
  rw [this]
  omega
theorem lnC_rch (k : Int) : Rch (nxB [-1, 0, -1]) 0 k ↔ k = 1 := by
  have h0 : nxB [-1, 0, -1] 0 = [1] := by decide +kernel
  have h1 : nxB [-1, 0, -1] 1 = [] := by decide +kernel
  constructor
  · intro h
    cases h with
    | one h => rw [h0] at h; simpa using h
    | more h g =>
      rw [h0] at h
      obtain rfl : _ = (1 : Int) := by simpa using h
      cases g with
      | one h => rw [h1] at h; cases h
      | more h _ => rw [h1] at h; cases h
  · rintro rfl
    exact .one (by rw [h0]; simp)
theorem only_one {L : List Int} (hp : L.Pairwise (· < ·)) (h : ∀ k, k ∈ L ↔ k = 1) : L = [1] := by
  match L, hp, h with
  | [], _, h => exact absurd ((h 1).2 rfl) (by simp)
  | [x], _, h => rw [(h x).1 (by simp)]
  | x :: y :: r, hp, h =>
    have h1 := (h x).1 (by simp)
    have h2 := (h y).1 (by simp)
    have h3 : x < y := by
      have := List.pairwise_cons.1 hp
      exact this.1 y (by simp)
    omega
theorem behC {w X : World} {tv fv : Value} (hT : Tab w) (hg : 5 < w.heap.size) (U : Below w.heap.size w X) (hP : PlanAt X tv fv lineTops (lineFl 0 lnC)) : Calls Tryz.prog 21 #[.agg #[tv, fv], .int .i64 0] X (OnePost X) := by
  refine (behind_calls _ _ tv fv 0 X hP (lineFl_small _ _) (hT.below U) (by have := U.size; omega)).mono ?_
  rintro e X' ⟨v, L, rfl, hpw, -, hL, hv, hB⟩
  have hz := lnC_gE 0 (by decide) (by decide)
  rw [lnC_F] at hL
  obtain rfl := only_one hpw (fun k => (hL hz k).trans (lnC_rch k))
  rw [hz]
  obtain ⟨A, c, rfl, hc, hr⟩ := hv
  obtain ⟨b, o, rfl, hrow⟩ := hr (by decide)
  exact ⟨b, o, c, rfl, hrow 0 _ rfl, hB⟩
theorem srcC {w X : World} {tv fv : Value} (hT : Tab w) (hg : 5 < w.heap.size) (U : Below w.heap.size w X) (hP : PlanAt X tv fv lineTops (lineFl 0 lnC)) : Calls Tryz.prog 24 #[.agg #[tv, fv], .int .i64 2] X (SrcPost X) := by
  refine (source_calls _ _ tv fv 2 X hP (lineFl_small _ _) (hT.below U) (by have := U.size; omega)).mono ?_
  rintro e X' ⟨rfl, hB⟩
  have hz := lnC_gE 2 (by decide) (by decide)
  rw [hz, if_pos rfl]
  have hF : edgesL (plnOf lineTops (lineFl 0 lnC)).flows = [-1, 0, -1] := lnC_F
  rw [hF]
  exact ⟨rfl, hB⟩
theorem cells_new (X : World) (cs : List Value) (T : TypeId) : CellsAt (X.alloc (.cells cs.toArray T)) X.heap.size 0 cs := fun j u hj => by
  rw [Nat.zero_add]
  exact cell_new rfl (by simpa using hj)
theorem lineAt (L : List ByteArray) (cs : List Value) (T : TypeId) (c : Nat) {Y : World} (hcs : L.map Value.string = cs) (hl : L.length ≤ 3) (h2 : ∀ s ∈ L, s.size = 2) (n : Nat) (hn : L.length = n) :
    Calls Tryz.prog 57 #[.slice (some ⟨Y.heap.size, 0, none⟩) n c] (Y.alloc (.cells cs.toArray T)) (fun e X => (∃ tv fv, e = .returned (.agg #[tv, fv]) ∧ PlanAt X tv fv lineTops (lineFl 0 L)) ∧ Below Y.heap.size Y X) := by
  subst hn hcs
  refine (line_calls L Y.heap.size c _ hl h2 (cells_new _ _ _) (fun _ => by simp)).mono ?_
  rintro e X ⟨tv, fv, rfl, hP, hB⟩
  exact ⟨⟨tv, fv, rfl, hP⟩, go (balloc (Below.refl _ _) _) hB⟩
theorem lineA (T : TypeId) (c : Nat) {Y : World} : Calls Tryz.prog 57 #[.slice (some ⟨Y.heap.size, 0, none⟩) 2 c] (Y.alloc (.cells #[.string ⟨#[99, 100]⟩, .string ⟨#[97, 99]⟩] T)) (fun e X => (∃ tv fv, e = .returned (.agg #[tv, fv]) ∧ PlanAt X tv fv lineTops (lineFl 0 lnA)) ∧ Below Y.heap.size Y X) :=
  lineAt lnA [.string ⟨#[99, 100]⟩, .string ⟨#[97, 99]⟩] T c rfl (by decide) (by decide +kernel) 2 rfl
theorem lineB (T : TypeId) (c : Nat) {Y : World} : Calls Tryz.prog 57 #[.slice (some ⟨Y.heap.size, 0, none⟩) 2 c] (Y.alloc (.cells #[.string ⟨#[97, 99]⟩, .string ⟨#[99, 97]⟩] T)) (fun e X => (∃ tv fv, e = .returned (.agg #[tv, fv]) ∧ PlanAt X tv fv lineTops (lineFl 0 lnB)) ∧ Below Y.heap.size Y X) :=
  lineAt lnB [.string ⟨#[97, 99]⟩, .string ⟨#[99, 97]⟩] T c rfl (by decide) (by decide +kernel) 2 rfl
theorem lineC (T : TypeId) (c : Nat) {Y : World} : Calls Tryz.prog 57 #[.slice (some ⟨Y.heap.size, 0, none⟩) 3 c] (Y.alloc (.cells #[.string ⟨#[97, 99]⟩, .string ⟨#[99, 100]⟩, .string ⟨#[97, 101]⟩] T)) (fun e X => (∃ tv fv, e = .returned (.agg #[tv, fv]) ∧ PlanAt X tv fv lineTops (lineFl 0 lnC)) ∧ Below Y.heap.size Y X) :=
  lineAt lnC [.string ⟨#[97, 99]⟩, .string ⟨#[99, 100]⟩, .string ⟨#[97, 101]⟩] T c rfl (by decide) (by decide +kernel) 3 rfl
set_option maxHeartbeats 8000000 in
set_option maxRecDepth 100000 in
theorem awake_calls (w : World) (hT : Tab w) (hg : 5 < w.heap.size) :
    Calls Tryz.prog 18 #[] w (Yes w) := by
  have HT := Lib.hid hT
  have HG := Lib.hid hg
  have U0 : Below w.heap.size w w := Below.refl _ _
  clear hT hg
  go_enter Tryz.func18, Tryz.ntmps18
  go_wp2_with (first
    | (go_at_call 57; (with_reducible refine (lineA _ _).mono ?_); rintro e X ⟨⟨tv, fv, rfl, hP⟩, hB⟩; have U := go U0 hB)
    | (go_at_call 57; (with_reducible refine (lineB _ _).mono ?_); rintro e X ⟨⟨tv, fv, rfl, hP⟩, hB⟩; have U := go U hB; have x0 := kc hB x0; have x1 := kc hB x1)
    | (go_at_call 57; (with_reducible refine (lineC _ _).mono ?_); rintro e X ⟨⟨tv, fv, rfl, hP⟩, hB⟩; have U := go U hB; have x0 := kc hB x0; have x1 := kc hB x1; (try have y0 := kc hB y0))
    | (go_at_call 17; (with_reducible refine (ordA HT.out HG.out (by assumption) (by assumption)).mono ?_); rintro e X ⟨b1, o1, q1, rfl, x0, x1, hB⟩; have U := go U hB)
    | (go_at_call 17; (with_reducible refine (ordB HT.out HG.out (by assumption) (by assumption)).mono ?_); rintro e X ⟨v, rfl, hB⟩; have U := go U hB; have x0 := kc hB x0; have x1 := kc hB x1)
    | (go_at_call 21; (with_reducible refine (behC HT.out HG.out (by assumption) (by assumption)).mono ?_); rintro e X ⟨b2, o2, q2, rfl, y0, hB⟩; have U := go U hB; have x0 := kc hB x0; have x1 := kc hB x1)
    | (go_at_call 24; (with_reducible refine (srcC HT.out HG.out (by assumption) (by assumption)).mono ?_); rintro e X ⟨rfl, hB⟩; have U := go U hB; have x0 := kc hB x0; have x1 := kc hB x1; have y0 := kc hB y0))
  go_ret
  exact ⟨rfl, U⟩
theorem awake_is (w : World) (hT : Tab w) (hg : 5 < w.heap.size) : Awake w := fun X k => awake_calls X (hT.below k) (by have := k.size; omega)
end Go.Proofs.YtkjajlolfcioiaaGreatDoor.Graph
