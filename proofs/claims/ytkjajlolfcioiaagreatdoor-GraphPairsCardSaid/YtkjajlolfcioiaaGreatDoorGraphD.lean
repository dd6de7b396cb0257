/- graph.reach: the walk through all that can be come to. -/
import Derived.Test.YtkjajlolfcioiaaGreatDoorKeysI
import Derived.WalkSpells
namespace Go.Proofs.YtkjajlolfcioiaaGreatDoor.Graph
open Go.RowKit Go.Proofs.YtkjajlolfcioiaaGreatDoor Go.Proofs.YtkjajlolfcioiaaGreatDoor.Own Go.Proofs.YtkjajlolfcioiaaGreatDoor.Tail Go.Proofs.YtkjajlolfcioiaaGreatDoor.Mp Go.Proofs.YtkjajlolfcioiaaGreatDoor.Ints Go.Proofs.YtkjajlolfcioiaaGreatDoor.Scan Go.Proofs.YtkjajlolfcioiaaGreatDoor.Plan Go.Proofs.YtkjajlolfcioiaaGreatDoor.Expr Go.Proofs.YtkjajlolfcioiaaGreatDoor.Check Go.Lib

/-- what can be come to by steps. -/
inductive Rch (nx : Int → List Int) : Int → Int → Prop
  | one {i k : Int} : k ∈ nx i → Rch nx i k
  | more {i j k : Int} : j ∈ nx i → Rch nx j k → Rch nx i k
theorem Rch.then {nx : Int → List Int} {i j k : Int} (h : Rch nx i j) (hk : k ∈ nx j) : Rch nx i k := by
  induction h with
  | one h => exact .more h (.one hk)
  | more h _ ih => exact .more h (ih hk)
theorem Rch.trans {nx : Int → List Int} {i j k : Int} (h : Rch nx i j) (g : Rch nx j k) : Rch nx i k := by
  induction h with
  | one h => exact .more h g
  | more h _ ih => exact .more h (ih g)
/-- v is a slice of these integers, that lies in no block b. -/
def AwayAt (w : World) (b : Nat) (v : Value) (L : List Int) : Prop := ∃ A c, v = .slice A L.length c ∧ (0 < L.length → ∃ g o, A = some ⟨g, o, none⟩ ∧ g ≠ b ∧ CellsAt w g o (L.map (Value.int .i64)))
/-- a function value that gives the next ones. -/
structure NextFn (J : World → Prop) (mb n K : Nat) (caps : Array Value) (nx : Int → List Int) : Prop where
  enters : ∀ (args : Array Value) (X : World), (callFunc K args).run Tryz.prog X = .ok (.enter K args) X
  calls : ∀ (i : Int) (X : World), J X → 0 ≤ i → i < n → Calls Tryz.prog K (#[.int .i64 i] ++ caps) X fun e w' => (∃ v, e = .returned v ∧ AwayAt w' mb v (nx i)) ∧ Below X.heap.size X w'
  keep : ∀ X Y, J X → But mb X Y → J Y
  range : ∀ i, ∀ k ∈ nx i, 0 ≤ k ∧ k < n
  short : ∀ i, (nx i).length ≤ 100
/-- the walk's variables. -/
structure Vars (X : World) (mb K : Nat) (caps : Array Value) (p1 p2 p3 : Nat) : Prop where
  c1 : X.cell? ⟨p1, 0, none⟩ = some (.func (.func K) #[] caps)
  c2 : X.cell? ⟨p2, 0, none⟩ = some (.map (some mb))
  c3 : X.cell? ⟨p3, 0, none⟩ = some (.func (.func 103) #[] #[.pointer (some ⟨p1, 0, none⟩), .pointer (some ⟨p2, 0, none⟩), .pointer (some ⟨p3, 0, none⟩)])
  n1 : p1 ≠ mb
  n2 : p2 ≠ mb
  n3 : p3 ≠ mb
theorem Vars.but {X Y : World} {mb K : Nat} {caps : Array Value} {p1 p2 p3 : Nat} (h : Vars X mb K caps p1 p2 p3) (k : But mb X Y) : Vars Y mb K caps p1 p2 p3 :=
  ⟨k.cell h.n1 h.c1, k.cell h.n2 h.c2, k.cell h.n3 h.c3, h.n1, h.n2, h.n3⟩
/-- what has been seen. -/
structure Seen (nx : Int → List Int) (n : Nat) (i : Int) (S T : List Int) : Prop where
  sub : ∀ k ∈ S, k ∈ T
  nodup : T.Nodup
  range : ∀ k ∈ T, 0 ≤ k ∧ k < n
  sound : ∀ k ∈ T, k ∈ S ∨ Rch nx i k
  closed : ∀ k ∈ T, k ∈ S ∨ ∀ j ∈ nx k, j ∈ T
def WalkPost (nx : Int → List Int) (mb n : Nat) (i : Int) (S : List Int) (w : World) (e : Ending) (w' : World) : Prop :=
  e = .returned (.tuple #[]) ∧ But mb w w' ∧ ∃ T, IntSet w' mb T ∧ Seen nx n i S T ∧ ∀ k ∈ nx i, k ∈ T
theorem Seen.step {nx : Int → List Int} {n : Nat} {i x : Int} {S T U : List Int} (h : Seen nx n i S T) (hx : x ∈ nx i) (g : Seen nx n x (T ++ [x]) U) (hn : ∀ k ∈ nx x, k ∈ U) : Seen nx n i S U where
  sub k hk := g.sub k (List.mem_append_left _ (h.sub k hk))
  nodup := g.nodup
  range := g.range
  sound k hk := by
    rcases g.sound k hk with h1 | h1
    · rcases List.mem_append.1 h1 with h2 | h2
      · exact h.sound k h2
      · obtain rfl : k = x := by simpa using h2
        exact .inr (.one hx)
    · exact .inr (.more hx h1)
  closed k hk := by
    rcases g.closed k hk with h1 | h1
    · rcases List.mem_append.1 h1 with h2 | h2
      · rcases h.closed k h2 with h3 | h3
        · exact .inl h3
        · exact .inr fun j hj => g.sub j (List.mem_append_left _ (h3 j hj))
      · obtain rfl : k = x := by simpa using h2
        exact .inr hn
    · exact .inr h1
set_option maxHeartbeats 4000000 in
set_option maxRecDepth 100000 in
theorem walk_one (J : World → Prop) (mb n K : Nat) (caps : Array Value) (nx : Int → List Int) (p1 p2 p3 : Nat) (hN : NextFn J mb n K caps nx) (S : List Int) (i : Int) (w : World)
    (hrec : ∀ (T : List Int) (x : Int) (X : World), Seen nx n i S T → x ∉ T → 0 ≤ x → x < n → J X → Vars X mb K caps p1 p2 p3 → IntSet X mb (T ++ [x]) →
      Calls Tryz.prog 103 #[.int .i64 x, .pointer (some ⟨p1, 0, none⟩), .pointer (some ⟨p2, 0, none⟩), .pointer (some ⟨p3, 0, none⟩)] X (WalkPost nx mb n x (T ++ [x]) X))
    (hSn : S.Nodup) (hSr : ∀ k ∈ S, 0 ≤ k ∧ k < n) (hi0 : 0 ≤ i) (hin : i < n) (hJ : J w) (hV : Vars w mb K caps p1 p2 p3) (hS : IntSet w mb S) :
    Calls Tryz.prog 103 #[.int .i64 i, .pointer (some ⟨p1, 0, none⟩), .pointer (some ⟨p2, 0, none⟩), .pointer (some ⟨p3, 0, none⟩)] w (WalkPost nx mb n i S w) := by
  have HREC := Lib.hid hrec
  have HN := Lib.hid hN
  have HNC := Lib.hid (hN.calls i w hJ hi0 hin)
  have HV := Lib.hid hV
  have HJ := Lib.hid hJ
  have hsh := hN.short i
  have hE := hN.enters
  have hE2 : ∀ (args : Array Value) (X : World), (callFunc 103 args).run Tryz.prog X = .ok (.enter 103 args) X := enters_of Tryz.func103 (by kernel_rfl) rfl
  have HS0 := Lib.hid (show Seen nx n i S S from ⟨fun _ h => h, hSn, hSr, fun _ h => .inl h, fun _ h => .inl h⟩)
  have HSI := Lib.hid hS
  obtain ⟨c1, c2, c3, n1, n2, n3⟩ := hV
  clear hrec hN hJ hS c2 c3 hSn hSr
  go_enter Tryz.func103, Tryz.ntmps103
  go_wp2_with fail
  refine HNC.out.mono ?_
  rintro e w1 ⟨⟨v, rfl, ⟨A, cp, rfl, hcells⟩⟩, hB1⟩
  have HC := Lib.hid hcells
  have HB1 := Lib.hid (But.of_below (b := mb) hB1)
  have HS1 := Lib.hid (HSI.out.below hB1)
  clear hcells hB1
  go_wp2
  go_loopw [13] (fun iv wr => ∃ (k : Nat) (T : List Int), k ≤ (nx i).length ∧ iv = .int .i64 (k : Int) ∧ But mb w1 wr ∧ IntSet wr mb T ∧ Hid (Seen nx n i S T) ∧ Hid (∀ y ∈ (nx i).take k, y ∈ T)) (fun iv _ => (nx i).length - (RowKit.intOf iv).toNat)
  case atStart => exact ⟨0, S, Nat.zero_le _, rfl, But.refl _ _, HS1.out, HS0, Lib.hid (by simp)⟩
  case round =>
    obtain ⟨k, T, hk, rfl, hB, hT, hSe, hdone⟩ := hrel
    have HVr := Lib.hid ((HV.out.but HB1.out).but hB)
    have v2 := HVr.out.c2
    by_cases hlt : k < (nx i).length
    · have hlt' : (k : Int) < (nx i).length := by omega
      obtain ⟨g, o, rfl, hgm, hrow⟩ := HC.out (by omega)
      obtain ⟨x, hx⟩ : ∃ x, (nx i)[k]? = some x := ⟨_, List.getElem?_eq_getElem hlt⟩
      have d0 : wr.cell? ⟨g, o + k, none⟩ = some (.int .i64 x) := hB.cell hgm (hrow k _ (by rw [List.getElem?_map, hx]; rfl))
      have hxr := HN.out.range i x (List.mem_of_getElem? hx)
      have HX := Lib.hid hx
      obtain ⟨t, ht⟩ : ∃ t, decide (x ∈ T) = t := ⟨_, rfl⟩
      have HTT := Lib.hid ht
      have HTI := Lib.hid hT
      clear hx hrow ht
      cases t
      · have HNX := Lib.hid (show x ∉ T from of_decide_eq_false HTT.out)
        go_wp2_with (first
          | (at_lookup; refine look_set hT (by kernel_rfl) _ _ rfl rfl rfl HTT.out ?_; have v2' := kc (box_below wr (.cells #[] 100)) v2)
          | (at_mapUpdate; refine put_set (hT.below (box_below _ _)) (by kernel_rfl) _ _ _ rfl rfl rfl rfl ?_; intro w6 hs6 hb6; have HV6 := Lib.hid ((HVr.out.but (But.of_below (box_below _ _))).but hb6); have v3 := HV6.out.c3; have HS6 := Lib.hid hs6; have HB6 := Lib.hid ((hB.alloc _).trans hb6); clear hs6 hb6))
        refine (HREC.out T x w6 hSe.out HNX.out hxr.1 hxr.2 (HN.out.keep _ _ HJ.out (HB1.out.trans HB6.out)) HV6.out HS6.out).mono ?_
        rintro e w7 ⟨rfl, hB7, U, hU, hSeU, hUn⟩
        have HSU := Lib.hid (hSe.out.step (List.mem_of_getElem? HX.out) hSeU hUn)
        have HUS := Lib.hid hSeU.sub
        clear hSeU hUn
        go_wp2
        go_roundw
        case rel =>
          refine ⟨k + 1, U, by omega, by go_num, HB6.out.trans hB7, hU, HSU, Lib.hid ?_⟩
          rw [List.take_add_one, HX.out]
          intro y hy
          rcases List.mem_append.1 hy with hy | hy
          · exact HUS.out y (List.mem_append_left _ (hdone.out y hy))
          · obtain rfl : y = x := by simpa using hy
            exact HUS.out y (by simp)
        case measure => simp [RowKit.intOf]; omega
      · have HIN := Lib.hid (show x ∈ T from of_decide_eq_true HTT.out)
        go_wp2_with (at_lookup; refine look_set hT (by kernel_rfl) _ _ rfl rfl rfl HTT.out ?_)
        go_roundw
        case rel =>
          refine ⟨k + 1, T, by omega, by go_num, hB.alloc _, hT.below (box_below _ _), hSe, Lib.hid ?_⟩
          rw [List.take_add_one, HX.out]
          intro y hy
          rcases List.mem_append.1 hy with hy | hy
          · exact hdone.out y hy
          · obtain rfl : y = x := by simpa using hy
            exact HIN.out
        case measure => simp [RowKit.intOf]; omega
    · obtain rfl : k = (nx i).length := by omega
      have hlt' : ¬ ((nx i).length : Int) < (nx i).length := by omega
      go_wp2
      go_end0
      exact ⟨rfl, HB1.out.trans hB, T, hT, hSe.out, by have := hdone.out; rw [List.take_length] at this; exact this⟩
theorem Seen.snoc_ok {nx : Int → List Int} {n : Nat} {i x : Int} {S T : List Int} (h : Seen nx n i S T) (hx : x ∉ T) (h0 : 0 ≤ x) (hn : x < n) : (T ++ [x]).Nodup ∧ (∀ k ∈ T ++ [x], 0 ≤ k ∧ k < n) :=
  ⟨List.nodup_append.2 ⟨h.nodup, by simp, fun a ha b hb e => by
      simp only [List.mem_singleton] at hb
      subst hb e
      exact hx ha⟩, fun k hk => by
    rcases List.mem_append.1 hk with hk | hk
    · exact h.range k hk
    · obtain rfl : k = x := by simpa using hk
      exact ⟨h0, hn⟩⟩
theorem sub_len : ∀ (S T : List Int), S.Nodup → (∀ k ∈ S, k ∈ T) → S.length ≤ T.length
  | [], _, _, _ => Nat.zero_le _
  | x :: r, T, hd, h => by
    obtain ⟨h1, h2⟩ := List.nodup_cons.1 hd
    have h3 := sub_len r (T.filter (fun y => decide (y ≠ x))) h2 (fun k hk => List.mem_filter.2 ⟨h k (List.mem_cons_of_mem _ hk), by simp; intro e; subst e; exact h1 hk⟩)
    have h4 : (T.filter (fun y => decide (y ≠ x))).length < T.length := by
      rw [List.length_filter_lt_length_iff_exists]
      exact ⟨x, h x List.mem_cons_self, by simp⟩
    simp only [List.length_cons]
    omega
theorem walk_calls (J : World → Prop) (mb n K : Nat) (caps : Array Value) (nx : Int → List Int) (p1 p2 p3 : Nat) (hN : NextFn J mb n K caps nx) :
    ∀ (m : Nat) (S : List Int) (i : Int) (w : World), n ≤ m + S.length → S.Nodup → (∀ k ∈ S, 0 ≤ k ∧ k < n) → 0 ≤ i → i < n → J w → Vars w mb K caps p1 p2 p3 → IntSet w mb S →
      Calls Tryz.prog 103 #[.int .i64 i, .pointer (some ⟨p1, 0, none⟩), .pointer (some ⟨p2, 0, none⟩), .pointer (some ⟨p3, 0, none⟩)] w (WalkPost nx mb n i S w)
  | 0, S, i, w, hm, hSn, hSr, hi0, hin, hJ, hV, hS => by
    refine walk_one J mb n K caps nx p1 p2 p3 hN S i w (fun T x X hT hx h0 hn _ _ _ => ?_) hSn hSr hi0 hin hJ hV hS
    have h1 := sub_len S T hSn hT.sub
    obtain ⟨h2, h3⟩ := hT.snoc_ok hx h0 hn
    have h4 := nodup_len n _ h2 h3
    rw [List.length_append] at h4
    simp only [List.length_cons, List.length_nil] at h4
    omega
  | m + 1, S, i, w, hm, hSn, hSr, hi0, hin, hJ, hV, hS => by
    refine walk_one J mb n K caps nx p1 p2 p3 hN S i w (fun T x X hT hx h0 hn hJX hVX hSX => ?_) hSn hSr hi0 hin hJ hV hS
    have h1 := sub_len S T hSn hT.sub
    obtain ⟨h2, h3⟩ := hT.snoc_ok hx h0 hn
    exact walk_calls J mb n K caps nx p1 p2 p3 hN m (T ++ [x]) x X (by rw [List.length_append]; simp; omega) h2 h3 h0 hn hJX hVX hSX
end Go.Proofs.YtkjajlolfcioiaaGreatDoor.Graph
