/- control.begin, walked. -/
import Derived.Test.YtkjajlolfcioiaaGreatDoorYCtlA
import Derived.Test.YtkjajlolfcioiaaGreatDoorYForce
import Derived.Deep.RegionHeld3
import Derived.WalkSpells
import Derived.WalkLawsBesides
namespace Go.Proofs.YtkjajlolfcioiaaGreatDoor.Control
open Go Go.RowKit Go.MapKept Go.Proofs Go.Proofs.YtkjajlolfcioiaaGreatDoor Go.Proofs.YtkjajlolfcioiaaGreatDoor.Own Go.Proofs.YtkjajlolfcioiaaGreatDoor.Tail Go.Proofs.YtkjajlolfcioiaaGreatDoor.Mp Go.Proofs.YtkjajlolfcioiaaGreatDoor.Ints Go.Proofs.YtkjajlolfcioiaaGreatDoor.Plan Go.Proofs.YtkjajlolfcioiaaGreatDoor.Check Go.Proofs.YtkjajlolfcioiaaGreatDoor.Graph Go.Proofs.YtkjajlolfcioiaaGreatDoor.Ctl

theorem Kp.drewN {U : Nat → Prop} {a b : World} (h : Kp U a b) (n : Nat) : Kp U a (b.drewN n) := ⟨h.os, h.tape, h.output, h.size, h.block⟩
theorem placesOf_at {live : List Int} {a n : Int} {k : Nat} (h : live ≠ []) (hk : (k : Int) < n) : (placesOf live a n)[k]? = some (live.getD (((k : Int) + a) % live.length).toNat 0) := by
  unfold placesOf
  rw [if_neg h, List.getElem?_map, List.getElem?_range (by omega)]
  rfl
theorem own_ints_at {w Y : World} {base : Nat} {v : Value} {L : List Int} (h : w.ownsRow base 3 1 v L.length (L.map (Value.int .i64))) (hY : ∀ k, base ≤ k → k < w.heap.size → Y.heap[k]? = w.heap[k]?) : IntsAt Y v L := by
  refine own_ints (base := base) ⟨h.1, ?_⟩
  rcases h.2 with hn | ⟨g, cap, cur, hv, hg, hh, rest⟩
  · exact .inl hn
  · exact .inr ⟨g, cap, cur, hv, hg, (hY g hg (Array.getElem?_eq_some_iff.1 hh).1).trans hh, rest⟩
theorem own_put {base E size n : Nat} {v : Value} {xs : List Value} {w : World} (h : w.ownsRow base E size v n xs) {b i : Nat} (u : Value) (hb : b < base) : (w.setCell ⟨b, i, none⟩ u).ownsRow base E size v n xs :=
  own_but h ((But.refl b w).setCell i u) hb
/-- the job in the round. -/
def begun (j : Jb) (ps : List Int) : Jb := { j with att := j.att + 1, num := 0, acked := [], places := ps }
/-- what begin asks of a job. -/
structure BgOk (n : Int) (j : Jb) : Prop where
  att : 0 ≤ j.att ∧ j.att ≤ n
  rd : 1 ≤ j.rd ∧ j.rd ≤ 8
  kp : 1 ≤ j.kp ∧ j.kp ≤ 8
theorem bg_ok {n : Int} {j : Jb} (h : JobOk n j) : BgOk n j := ⟨h.att, h.rd, h.kp⟩
def BeginPost (w : World) (cb : Nat) (c : Ct) (U : Nat → Prop) (tv fv : Value) (lm : Nat) (jv : Value) (fl : List FlwV) (xs : List JV) (i : Nat) (x : JV) (e : Ending) (w' : World) : Prop :=
  ∃ v, e = .returned v ∧ Kp (fun k => k = x.b) w w' ∧ ∃ pv, CtlIs w' cb { c with jobs := c.jobs.set i (beginJ (liveL c.lives) x.j) } (more U w w') tv fv lm jv fl (xs.set i ⟨beginJ (liveL c.lives) x.j, pv, none, x.b⟩)
set_option maxHeartbeats 4000000 in
set_option maxRecDepth 100000 in
theorem begin_calls {w : World} {cb : Nat} {c : Ct} {U : Nat → Prop} {tv fv : Value} {lm : Nat} {jv : Value} {fl : List FlwV} {xs : List JV} (h : CtlIs w cb c U tv fv lm jv fl xs) (hc : ∀ k, k < 1 ∨ 6 < k → c.lives k = 0)
    {i : Nat} {x : JV} {n : Int} (hx : xs[i]? = some x) (hj : BgOk n x.j) (hn : n ≤ 1000) :
    Calls Tryz.prog 77 #[.pointer (some ⟨cb, 0, none⟩), .pointer (some ⟨x.b, 0, none⟩)] w (BeginPost w cb c U tv fv lm jv fl xs i x) := by
  have hbox := h.box x (List.mem_of_getElem? hx)
  have hTurn : ∀ (X : World) (ps : List Int) (pv : Value), Below x.b w X ∨ Kp (fun k => k = x.b) w X → JobBox X x.b (begun x.j ps) pv none → X.ownsRow w.heap.size 3 1 pv ps.length (ps.map (Value.int .i64)) → Kp (fun k => k = x.b) w X →
      CtlIs X cb { c with jobs := c.jobs.set i (begun x.j ps) } (more U w X) tv fv lm jv fl (xs.set i ⟨begun x.j ps, pv, none, x.b⟩) := fun X ps pv _ hb ho hk =>
    h.turn hx hk.size (fun k hk1 hk2 _ => hk.block k hk1 hk2) hb (.inr fun Y hY => own_ints_at ho fun k hk1 hk2 => hY k hk1 hk2 (by simp)) (.inr (.inl rfl)) rfl
  have hat := hj.att
  have hrd := hj.rd
  have hkp := hj.kp
  have hlt := hbox.lt
  obtain ⟨j, pv0, mo, b⟩ := x
  simp only at hbox hat hrd hkp hlt hTurn
  obtain ⟨att, rd, kp, done, num, next, places, acked⟩ := j
  simp only at hat hrd hkp
  have c0 : w.cell? ⟨b, 0, none⟩ = some (.int .i64 att) := hbox.cell rfl
  have hb0 : w.heap[b]? = some (.cells #[.int .i64 att, .int .i64 rd, .int .i64 kp, .int .i64 done, .int .i64 num, .int .i64 next, pv0, .map mo] 122) := hbox
  have hne : (att == 1000000000) = false := by simp; omega
  have hw1 : IntKind.i64.wrap (att + 1) = att + 1 := by simp [IntKind.wrap, IntKind.bits, IntKind.signed]; omega
  have e4 : ((((w.setCell ⟨b, 6, none⟩ (.slice none 0 0)).setCell ⟨b, 0, none⟩ (.int .i64 (att + 1))).setCell ⟨b, 4, none⟩ (.int .i64 0)).setCell ⟨b, 7, none⟩ (.map none)).heap[b]? = some (.cells (jobCells (begun ⟨att, rd, kp, done, num, next, places, acked⟩ []) (.slice none 0 0) none) 122) :=
    (set_cell_heap _ (set_cell_heap _ (set_cell_heap _ (set_cell_heap _ hb0)))).trans (by simp [jobCells, begun])
  have k4 : Kp (fun k => k = b) w ((((w.setCell ⟨b, 6, none⟩ (.slice none 0 0)).setCell ⟨b, 0, none⟩ (.int .i64 (att + 1))).setCell ⟨b, 4, none⟩ (.int .i64 0)).setCell ⟨b, 7, none⟩ (.map none)) :=
    Kp.of_but (((((But.refl b w).setCell _ _).setCell _ _).setCell _ _).setCell _ _) rfl
  have c6 : w.cell? ⟨b, 6, none⟩ = some pv0 := hbox.cell rfl
  have c4 : w.cell? ⟨b, 4, none⟩ = some (.int .i64 num) := hbox.cell rfl
  have c7 : w.cell? ⟨b, 7, none⟩ = some (.map mo) := hbox.cell rfl
  have f0 := hbox.frozen 0
  have f4 := hbox.frozen 4
  have f6 := hbox.frozen 6
  have f7 := hbox.frozen 7
  have L4 := Lib.hid (live_calls (hTurn _ [] (.slice none 0 0) (.inr k4) e4 (own_nil _ _ _ _) k4) hc)
  have E4 := Lib.hid e4
  have K4 := Lib.hid k4
  have HT := Lib.hid hTurn
  clear e4 k4 hTurn hb0 hbox h hj hx hc
  go_enter Tryz.func77, Tryz.ntmps77
  go_wp2_with (go_at_call 35; go_must (refine (L4.out).mono ?_); rintro e w5 ⟨v, rfl, hrow, hB⟩; have HR := Lib.hid hrow; have HB := Lib.hid hB; clear hrow hB)
  obtain ⟨L, hL⟩ : ∃ L, liveL c.lives = L := ⟨_, rfl⟩
  rw [hL] at HR
  have HL := Lib.hid hL
  clear hL L4 c0 c4 c6 c7 f0 f4 f6 f7 hne
  obtain ⟨Av, cv, rfl, hcv, hmv, hnv, hrv⟩ := own_form HR.out
  have hsz4 : ((((w.setCell ⟨b, 6, none⟩ (.slice none 0 0)).setCell ⟨b, 0, none⟩ (.int .i64 (att + 1))).setCell ⟨b, 4, none⟩ (.int .i64 0)).setCell ⟨b, 7, none⟩ (.map none)).heap.size = w.heap.size := by simp [World.setCell]
  have h5 : w5.heap[b]? = some (.cells (jobCells (begun ⟨att, rd, kp, done, num, next, places, acked⟩ []) (.slice none 0 0) none) 122) := (HB.out.block b (by rw [hsz4]; exact hlt)).trans E4.out
  have K5 := Lib.hid (K4.out.trans (Kp.of_below (U := fun k => k = b) HB.out) (fun _ _ e => e))
  have hle5 : w.heap.size ≤ w5.heap.size := K5.out.size
  have HRV := Lib.hid (show ∀ (q : Nat) (u : Int), L[q]? = some u → ∃ ad, Av = some ad ∧ ad.block ≠ b ∧ w5.cell? (ad.add q) = some (.int .i64 u) by
    intro q u hq
    have hpos : 0 < L.length := by
      have := (List.getElem?_eq_some_iff.1 hq).1
      omega
    cases Av with
    | none => have := (hnv rfl).2; omega
    | some ad =>
      obtain ⟨h1, h2⟩ := hrv ad rfl
      rw [hsz4] at h1
      exact ⟨ad, rfl, by omega, h2 q _ (by rw [List.getElem?_map, hq]; rfl)⟩)
  obtain ⟨ps, hps⟩ : ∃ ps, placesOf L (att + 1) (rd + kp) = ps := ⟨_, rfl⟩
  have HPS := Lib.hid hps
  have hw2 : IntKind.i64.wrap (rd + kp) = rd + kp := by simp [IntKind.wrap, IntKind.bits, IntKind.signed]; omega
  have HB5 := Lib.hid h5
  have FIN := Lib.hid (show ∀ (X : World) (pv : Value), X.heap[b]? = some (.cells (jobCells (begun ⟨att, rd, kp, done, num, next, places, acked⟩ ps) pv none) 122) → X.ownsRow w5.heap.size 3 1 pv ps.length (ps.map (Value.int .i64)) → Kp (fun k => k = b) w5 X → BeginPost w cb c U tv fv lm jv fl xs i ⟨⟨att, rd, kp, done, num, next, places, acked⟩, pv0, mo, b⟩ (.returned (.tuple #[])) X from by
    intro X pv h1 h2 h3
    have hk := K5.out.trans h3 (fun _ _ e => e)
    refine ⟨_, rfl, hk, pv, ?_⟩
    have e : beginJ (liveL c.lives) ⟨att, rd, kp, done, num, next, places, acked⟩ = begun ⟨att, rd, kp, done, num, next, places, acked⟩ ps := by
      unfold beginJ begun
      rw [HL.out, ← hps]
    simp only [e]
    exact HT.out X ps pv (.inr hk) h1 (own_base h2 hle5) hk)
  clear h5 hps hrv hnv E4 K4 HB HR
  go_loopw [5] (fun kv wr => ∃ (k : Nat) (pv : Value), (k : Int) ≤ rd + kp ∧ kv = .int .i64 (k : Int) ∧ Hid (wr.heap[b]? = some (.cells (jobCells (begun ⟨att, rd, kp, done, num, next, places, acked⟩ (ps.take k)) pv none) 122)) ∧ Hid (wr.ownsRow w5.heap.size 3 1 pv (ps.take k).length ((ps.take k).map (Value.int .i64))) ∧ Hid (Kp (fun k => k = b) w5 wr) ∧ Hid (L = [] → k = 0)) (fun kv _ => (rd + kp - RowKit.intOf kv).toNat)
  case atStart => exact ⟨0, .slice none 0 0, by omega, rfl, HB5, Lib.hid (by simpa using own_nil _ _ _ _), Lib.hid (Kp.refl _ _), Lib.hid fun _ => rfl⟩
  case round =>
    obtain ⟨k, pv, hk, rfl, hbx, hown, hkp2, hk0⟩ := hrel
    have b1 : wr.cell? ⟨b, 1, none⟩ = some (.int .i64 rd) := JobBox.cell hbx.out rfl
    have b2 : wr.cell? ⟨b, 2, none⟩ = some (.int .i64 kp) := JobBox.cell hbx.out rfl
    by_cases hlt2 : (k : Int) < rd + kp
    · have t1 : decide ((k : Int) < rd + kp) = true := by simpa using hlt2
      by_cases hLe : L = []
      · have t2 : decide (0 < L.length) = false := by simp [hLe]
        have HLE := Lib.hid hLe
        have hk00 := hk0.out hLe
        have HK00 := Lib.hid hk00
        clear hLe hk0 hk00
        go_wp2
        go_quiet (fail)
        go_wp2
        go_end0
        have hps0 : ps = [] := by rw [← HPS.out]; unfold placesOf; rw [if_pos HLE.out]
        have htk : ps.take k = ps := by rw [hps0]; simp
        rw [htk] at hbx hown
        exact FIN.out _ _ hbx.out hown.out (hkp2.out.drewN _)
      · have hpos : 0 < L.length := List.length_pos_iff.2 hLe
        have t2 : decide ((0 : Int) < L.length) = true := by simpa using hpos
        go_wp2
        go_quiet (fail)
        go_wp2
        obtain ⟨Ap, cp, rfl, hcp, hmp, hnp, hrp⟩ := own_form hown.out
        have hwk : IntKind.i64.wrap ((k : Int) + (att + 1)) = (k : Int) + (att + 1) := by simp [IntKind.wrap, IntKind.bits, IntKind.signed]; omega
        have hlen : (ps.take k).length = k := by
          have := placesOf_len (a := att + 1) (n := rd + kp) hLe (by omega)
          rw [HPS.out] at this
          rw [List.length_take]
          omega
        rw [hlen] at hown
        obtain ⟨q, hq⟩ : ∃ q : Nat, ((k : Int) + (att + 1)) % L.length = q := ⟨_, (Int.toNat_of_nonneg (Int.emod_nonneg _ (by omega))).symm⟩
        have hql : q < L.length := by
          have := Int.emod_lt_of_pos ((k : Int) + (att + 1)) (show (0 : Int) < L.length by omega)
          omega
        have hqt : Int.tmod ((k : Int) + (att + 1)) L.length = q := by rw [Int.tmod_eq_emod_of_nonneg (by omega)]; exact hq
        obtain ⟨u, hu⟩ : ∃ u, L[q]? = some u := ⟨_, List.getElem?_eq_getElem hql⟩
        obtain ⟨ad, rfl, had, hcu⟩ := HRV.out q u hu
        have HU := Lib.hid (show ps[k]? = some u by rw [← HPS.out, placesOf_at hLe hlt2, hq]; simp [List.getD_eq_getElem?_getD, hu])
        have b6 : wr.cell? ⟨b, 6, none⟩ = some (.slice Ap (ps.take k).length cp) := JobBox.cell hbx.out rfl
        rw [hlen] at b6
        have b0 : wr.cell? ⟨b, 0, none⟩ = some (.int .i64 (att + 1)) := JobBox.cell hbx.out rfl
        have bu : wr.cell? (ad.add q) = some (.int .i64 u) := hkp2.out.cell (by rw [add_block]; exact had) hcu
        have HQ := Lib.hid hq
        have hadl : ad.block < w5.heap.size := by have := lt_of_cell hcu; rw [add_block] at this; exact this
        have f6 : wr.frozen? ⟨b, 6, none⟩ = false := JobBox.frozen hbx.out 6
        clear hu hcu hq hrp hnp t2 hk0 b1 b2
        refine wp_region_forced 19 (by kernel_rfl) (by kernel_rfl) ?_
        simp only [List.take_succ_cons, List.take_zero, List.drop_succ_cons, List.drop_zero, List.size_toArray, List.length_cons, List.length_nil, Nat.zero_add, Nat.reduceAdd]
        refine wpAny_of_held (S := fun X : World => X.cell? ⟨b, 6, none⟩ = some (.slice Ap k cp) ∧ X.cell? ⟨b, 0, none⟩ = some (.int .i64 (att + 1)) ∧ X.cell? (ad.add q) = some (.int .i64 u)) _ _ _ _ ?_
        have hS0 : (fun X : World => X.cell? ⟨b, 6, none⟩ = some (.slice Ap k cp) ∧ X.cell? ⟨b, 0, none⟩ = some (.int .i64 (att + 1)) ∧ X.cell? (ad.add q) = some (.int .i64 u)) (wr.drewN (nq + 1)) := ⟨b6, b0, bu⟩
        refine wpAnyH_take (i := 0) (v := ?_) rfl (by kernel_rfl) (by kernel_rfl) (by kernel_rfl) (fun _ _ _ h => h) (Or.inl ⟨by rfl, ?_⟩) hS0 ?_
        rotate_left
        · intro w hSw; (try dsimp only at hSw); go_simp; (first | done | with_reducible rfl)
        simp only [Act.put, List.setIfInBounds_toArray]
        refine wpAnyH_take (i := 1) (v := ?_) rfl (by kernel_rfl) (by kernel_rfl) (by kernel_rfl) (fun _ _ _ h => h) (Or.inl ⟨by rfl, ?_⟩) hS0 ?_
        rotate_left
        · intro w hSw; (try dsimp only at hSw); go_simp; (first | done | with_reducible rfl)
        simp only [Act.put]
        refine wpAnyH_take (i := 2) (v := ?_) rfl (by kernel_rfl) (by kernel_rfl) (by kernel_rfl) (fun _ _ _ h => h) (Or.inl ⟨by rfl, ?_⟩) hS0 ?_
        rotate_left
        · intro w hSw; (try dsimp only at hSw); go_simp; (first | done | with_reducible rfl)
        simp only [Act.put]
        refine wpAnyH_take (i := 3) (v := ?_) rfl (by kernel_rfl) (by kernel_rfl) (by kernel_rfl) (fun _ _ _ h => h) (Or.inl ⟨by rfl, ?_⟩) hS0 ?_
        rotate_left
        · intro w hSw; (try dsimp only at hSw); go_simp; (first | done | with_reducible rfl)
        simp only [Act.put]
        refine wpAnyH_take (i := 4) (v := ?_) rfl (by kernel_rfl) (by kernel_rfl) (by kernel_rfl) (fun _ _ _ h => h) (Or.inl ⟨by rfl, ?_⟩) hS0 ?_
        rotate_left
        · intro w hSw; (try dsimp only at hSw); go_simp; (first | done | with_reducible rfl)
        simp only [Act.put]
        refine wpAnyH_take (i := 5) (v := ?_) rfl (by kernel_rfl) (by kernel_rfl) (by kernel_rfl) (fun _ _ _ h => h) (Or.inl ⟨by rfl, ?_⟩) hS0 ?_
        rotate_left
        · intro w hSw; (try dsimp only at hSw); go_simp; (first | done | with_reducible rfl)
        simp only [Act.put]
        refine wpAnyH_take (i := 6) (v := ?_) rfl (by kernel_rfl) (by kernel_rfl) (by kernel_rfl) (fun _ _ _ h => h) (Or.inl ⟨by rfl, ?_⟩) hS0 ?_
        rotate_left
        · intro w hSw; (try dsimp only at hSw); go_simp; (first | done | with_reducible rfl)
        simp only [Act.put]
        refine wpAnyH_take (i := 7) (v := ?_) rfl (by kernel_rfl) (by kernel_rfl) (by kernel_rfl) (fun _ _ _ h => h) (Or.inl ⟨by rfl, ?_⟩) hS0 ?_
        rotate_left
        · intro w hSw; (try dsimp only at hSw); go_simp; (first | done | with_reducible rfl)
        simp only [Act.put]
        refine wpAnyH_take (i := 8) (v := ?_) rfl (by kernel_rfl) (by kernel_rfl) (by kernel_rfl) (fun _ _ _ h => h) (Or.inl ⟨by rfl, ?_⟩) hS0 ?_
        rotate_left
        · intro w hSw; (try dsimp only at hSw); go_simp; (first | done | with_reducible rfl)
        simp only [Act.put]
        refine wpAnyH_take (i := 9) (v := ?_) rfl (by kernel_rfl) (by kernel_rfl) (by kernel_rfl) (fun _ _ _ h => h) (Or.inl ⟨by rfl, ?_⟩) hS0 ?_
        rotate_left
        · intro w hSw; (try dsimp only at hSw); go_simp; (first | done | with_reducible rfl)
        simp only [Act.put]
        refine wpAnyH_take (i := 10) (v := ?_) rfl (by kernel_rfl) (by kernel_rfl) (by kernel_rfl) (fun _ _ _ h => h) (Or.inl ⟨by rfl, ?_⟩) hS0 ?_
        rotate_left
        · intro w hSw; (try dsimp only at hSw); go_simp; (first | done | with_reducible rfl)
        simp only [Act.put]
        refine wpAnyH_take (i := 11) (v := ?_) rfl (by kernel_rfl) (by kernel_rfl) (by kernel_rfl) (fun _ _ _ h => h) (Or.inl ⟨by rfl, ?_⟩) hS0 ?_
        rotate_left
        · intro w hSw; (try dsimp only at hSw); go_simp; (first | done | with_reducible rfl)
        simp only [Act.put]
        refine wpAnyH_take (i := 12) (v := ?_) rfl (by kernel_rfl) (by kernel_rfl) (by kernel_rfl) (fun _ _ _ h => h) (Or.inl ⟨by rfl, ?_⟩) hS0 ?_
        rotate_left
        · intro w hSw; (try dsimp only at hSw); go_simp; (first | done | with_reducible rfl)
        simp only [Act.put]
        refine wpAnyH_take (i := 13) (v := ?_) rfl (by kernel_rfl) (by kernel_rfl) (by kernel_rfl) (fun _ _ _ h => h) (Or.inl ⟨by rfl, ?_⟩) hS0 ?_
        rotate_left
        · intro w hSw; (try dsimp only at hSw); go_simp; (first | done | with_reducible rfl)
        simp only [Act.put]
        refine wpAnyH_take (i := 14) (v := ?_) rfl (by kernel_rfl) (by kernel_rfl) (by kernel_rfl) (fun _ _ _ h => h) (Or.inl ⟨by rfl, ?_⟩) hS0 ?_
        rotate_left
        · intro w hSw; (try dsimp only at hSw); go_simp; (first | done | with_reducible rfl)
        simp only [Act.put]
        refine wpAnyH_take (i := 15) (v := ?_) rfl (by kernel_rfl) (by kernel_rfl) (by kernel_rfl) (fun _ _ _ h => h) (Or.inl ⟨by rfl, ?_⟩) hS0 ?_
        rotate_left
        · intro w hSw; (try dsimp only at hSw); go_simp; (first | done | with_reducible rfl)
        simp only [Act.put]
        refine wpAnyH_take (i := 16) (v := ?_) rfl (by kernel_rfl) (by kernel_rfl) (by kernel_rfl) (fun _ _ _ h => h) (Or.inl ⟨by rfl, ?_⟩) hS0 ?_
        rotate_left
        · intro w hSw; (try dsimp only at hSw); go_simp; (first | done | with_reducible rfl)
        simp only [Act.put]
        refine wpAnyH_ready (rs := [17]) (by kernel_rfl) (by simp) ?_
        refine AllReadyH.cons rfl (fun K hK => ?_) AllReadyH.nil
        go_simp
        refine hK.out _ _ ⟨kc (box_below _ _) b6, kc (box_below _ _) b0, kc (box_below _ _) bu⟩ (fun hS3 => ?_)
        clear hK K
        try simp only [Act.put, List.setIfInBounds_toArray, List.set_cons_zero, List.set_cons_succ]
        refine wpAnyH_ready (rs := [18]) (by kernel_rfl) (by simp) ?_
        refine AllReadyH.cons rfl (fun K hK => ?_) AllReadyH.nil
        have hsl : SliceOf Tryz.prog 30 3 1 8 := sliceOfInt
        have hwz : wr.heap.size ≥ w5.heap.size := hkp2.out.size
        refine Own.step_app (o := ⟨some 65, _, _, _, _, _⟩) hsl (by rfl) (.tmp 51) (.tmp 64) (by rfl) (base := w5.heap.size) (by rfl) (own_kept (hown.out) (balloc (bdrewN (Below.refl _ _) _) _)) (by rfl) (Own.Src.at (T := 3) (by (repeat (first | (with_reducible exact Own.heap_at (by simp; done)) | (with_reducible refine Own.heap_drew ?_) | (with_reducible refine Own.heap_up ?_))); done) 1 1 1 (by simp) (by simp [Value.oneCell'])) (by unfold maxLen; omega) (by omega) (by simp; omega) ?_
        intro v7 w7 ho7 hB7 hg7
        obtain ⟨A7, d7, rfl, -, -, -, -⟩ := own_form ho7
        refine hK.out _ _ ⟨kb hB7 (by simp; omega) hS3.1, kb hB7 (by simp; omega) hS3.2.1, kb hB7 (by rw [add_block]; exact hadl) hS3.2.2⟩ (fun hS4 => ?_)
        clear hK K
        try simp only [Act.put, List.setIfInBounds_toArray, List.set_cons_zero, List.set_cons_succ]
        refine wpAnyH_done (by kernel_rfl) ?_ _
        show wpList _ _ _ _ _ _
        have c7 := hS4.1
        have f7 : w7.frozen? ⟨b, 6, none⟩ = false := (hB7.frozen (by simp; omega)).trans (kf (balloc (bdrewN (Below.refl _ _) _) _) b6 f6)
        go_wp2
        have hb7 : w7.heap[b]? = wr.heap[b]? := (hB7.block b (by omega)).trans (Below.heap_alloc _ _ b (by have := lt_of_cell b6; simpa using this))
        have hXb := (set_cell_heap (i := 6) (.slice A7 (k + 1) d7) (hb7.trans hbx.out))
        have hkX : Kp (fun q => q = b) w5 (w7.setCell ⟨b, 6, none⟩ (.slice A7 (k + 1) d7)) := by
          have h1 : Below w5.heap.size wr w7 := ((balloc (bdrewN (Below.refl wr.heap.size wr) _) _).mono hwz).trans hB7
          have h2 : Kp (fun q => q = b) w5 w7 := ⟨h1.os.trans hkp2.out.os, h1.tape.trans hkp2.out.tape, h1.output.trans hkp2.out.output, Nat.le_trans hkp2.out.size h1.size, fun q hq1 hq2 => (h1.block q hq1).trans (hkp2.out.block q hq1 hq2)⟩
          exact h2.trans (Kp.of_but (U := fun q => q = b) ((But.refl b w7).setCell _ _) rfl) (fun _ _ e => e)
        have htk : ps.take (k + 1) = ps.take k ++ [u] := by rw [List.take_add_one, HU.out]; rfl
        refine ⟨⟨k + 1, .slice A7 (k + 1) d7, by omega, by rfl, Lib.hid ?_, Lib.hid ?_, Lib.hid hkX, Lib.hid fun e => absurd e hLe⟩, by simp [RowKit.intOf]; omega⟩
        · exact hXb.trans (by simp [jobCells, begun])
        · have := own_put (b := b) (i := 6) ho7 (.slice A7 (k + 1) d7) (by omega)
          rw [htk, List.length_append, hlen, List.map_append]
          exact this
    · have t1 : decide ((k : Int) < rd + kp) = false := by simpa using hlt2
      go_wp2
      go_quiet (fail)
      go_wp2
      go_end0
      have htk : ps.take k = ps := by
        by_cases hLe : L = []
        · rw [← HPS.out]; unfold placesOf; rw [if_pos hLe]; simp
        · refine List.take_of_length_le ?_
          have := placesOf_len (a := att + 1) (n := rd + kp) hLe (by omega)
          rw [HPS.out] at this
          omega
      rw [htk] at hbx hown
      exact FIN.out _ _ hbx.out hown.out (hkp2.out.drewN _)
end Go.Proofs.YtkjajlolfcioiaaGreatDoor.Control

/- control.beginAll, and whom it asks. -/
namespace Go.Proofs.YtkjajlolfcioiaaGreatDoor.Control
open Go Go.RowKit Go.MapKept Go.Proofs Go.Proofs.YtkjajlolfcioiaaGreatDoor Go.Proofs.YtkjajlolfcioiaaGreatDoor.Expr Go.Proofs.YtkjajlolfcioiaaGreatDoor.Own Go.Proofs.YtkjajlolfcioiaaGreatDoor.Tail Go.Proofs.YtkjajlolfcioiaaGreatDoor.Mp Go.Proofs.YtkjajlolfcioiaaGreatDoor.Ints Go.Proofs.YtkjajlolfcioiaaGreatDoor.Plan Go.Proofs.YtkjajlolfcioiaaGreatDoor.Check Go.Proofs.YtkjajlolfcioiaaGreatDoor.Graph Go.Proofs.YtkjajlolfcioiaaGreatDoor.Ctl

section
variable {w X : World} {cb : Nat} {c : Ct} {U : Nat → Prop} {tv fv : Value} {lm : Nat} {jv : Value} {fl : List FlwV} {xs : List JV}
theorem more_more {a b d : World} (h1 : a.heap.size ≤ b.heap.size) (h2 : b.heap.size ≤ d.heap.size) (U : Nat → Prop) : more (more U a b) b d = more U a d := by
  funext i
  unfold more
  apply propext
  constructor
  · rintro ((h | h) | h)
    · exact .inl h
    · exact .inr ⟨h.1, by omega⟩
    · exact .inr ⟨by omega, h.2⟩
  · rintro (h | h)
    · exact .inl (.inl h)
    · rcases Nat.lt_or_ge i b.heap.size with h' | h'
      · exact .inl (.inr ⟨h.1, h'⟩)
      · exact .inr ⟨h', h.2⟩
theorem more_self (U : Nat → Prop) (a : World) : more U a a = U := by
  funext i
  unfold more
  apply propext
  constructor
  · rintro (h | h)
    · exact h
    · omega
  · exact .inl
theorem CtlIs.grow (h : CtlIs w cb c U tv fv lm jv fl xs) {V : Nat → Prop} (hV : ∀ i, U i → V i) (hl : ∀ i, V i → i < w.heap.size) (hg : ¬ V 5) : CtlIs w cb c V tv fv lm jv fl xs :=
  { h with
    stat := fun Y hY => h.stat Y fun i hi hm => hY i (hV i hi) hm
    inU := fun i hi => hV i (h.inU i hi)
    cbU := hV _ h.cbU
    lt := hl
    gU := hg }
/-- .. while new things are made beside it. -/
theorem CtlIs.belowMore {a : World} (h : CtlIs w cb c (more U a w) tv fv lm jv fl xs) (ha : a.heap.size ≤ w.heap.size) (k : Below w.heap.size w X) (hl : ∀ i, U i → i < a.heap.size) (ht : Tab a) (hg : ¬ U 5) : CtlIs X cb c (more U a X) tv fv lm jv fl xs := by
  refine (h.below k).grow ?_ ?_ ?_
  · rintro i (hi | hi)
    · exact .inl hi
    · exact .inr ⟨hi.1, Nat.lt_of_lt_of_le hi.2 k.size⟩
  · rintro i (hi | hi)
    · have := hl i hi
      have := k.size
      omega
    · exact hi.2
  · rintro (hi | hi)
    · exact hg hi
    · have := tab_lt ht
      omega
end
/-- the jobs of which it is so begin anew. -/
def begunIf (q : Jb → Bool) (live : List Int) (j : Jb) : Jb := if q j then beginJ live j else j
/-- a function that is asked of each job. -/
structure AskFn (J : World → Prop) (K : Nat) (caps : Array Value) (q : Jb → Bool) : Prop where
  enters : ∀ (args : Array Value) (X : World), (callFunc K args).run Tryz.prog X = .ok (.enter K args) X
  calls : ∀ (x : JV) (X : World), J X → JobBox X x.b x.j x.pv x.mo → IntsAt X x.pv x.j.places → x.j.places.length ≤ 1000 → Calls Tryz.prog K (#[.pointer (some ⟨x.b, 0, none⟩)] ++ caps) X fun e w' => e = .returned (.bool (q x.j)) ∧ Below X.heap.size X w'
def AllPost (q : Jb → Bool) (w : World) (cb : Nat) (c : Ct) (U : Nat → Prop) (tv fv : Value) (lm : Nat) (jv : Value) (fl : List FlwV) (e : Ending) (w' : World) : Prop :=
  (∃ v, e = .returned v) ∧ Kp U w w' ∧ ∃ xs', CtlIs w' cb { c with jobs := c.jobs.map (begunIf q (liveL c.lives)) } (more U w w') tv fv lm jv fl xs'
def midJobs (q : Jb → Bool) (live : List Int) (l : List Jb) (k : Nat) : List Jb := (l.take k).map (begunIf q live) ++ l.drop k
theorem midJobs_at {q : Jb → Bool} {live : List Int} {l : List Jb} {k : Nat} {j : Jb} (h : l[k]? = some j) : (midJobs q live l k)[k]? = some j := by
  have hk := (List.getElem?_eq_some_iff.1 h).1
  unfold midJobs
  rw [List.getElem?_append_right (by simp; omega)]
  simp [Nat.min_eq_left (Nat.le_of_lt hk), h]
theorem midJobs_next {q : Jb → Bool} {live : List Int} {l : List Jb} {k : Nat} {j : Jb} (h : l[k]? = some j) : (midJobs q live l k).set k (begunIf q live j) = midJobs q live l (k + 1) := by
  have hk := (List.getElem?_eq_some_iff.1 h).1
  unfold midJobs
  rw [List.set_append_right _ _ (by simp; omega), List.take_add_one, h, List.map_append, List.append_assoc]
  congr 1
  simp [Nat.min_eq_left (Nat.le_of_lt hk)]
  rw [List.drop_eq_getElem_cons hk]
  have : l[k] = j := (List.getElem?_eq_some_iff.1 h).2
  simp [this]
theorem midJobs_same {q : Jb → Bool} {live : List Int} {l : List Jb} {k : Nat} {j : Jb} (h : l[k]? = some j) (hq : q j = false) : midJobs q live l k = midJobs q live l (k + 1) := by
  rw [← midJobs_next h]
  have : begunIf q live j = j := by unfold begunIf; rw [hq]; rfl
  rw [this]
  refine (List.ext_getElem? fun i => ?_)
  rw [List.getElem?_set]
  split
  · rename_i e
    subst e
    rw [midJobs_at h]
    split
    · rfl
    · rename_i hn
      exact absurd ((List.getElem?_eq_some_iff.1 (midJobs_at (q := q) (live := live) h)).1) hn
  · rfl
set_option maxHeartbeats 4000000 in
set_option maxRecDepth 100000 in
theorem all_calls (q : Jb → Bool) (K : Nat) (caps : Array Value) (J : World → Prop) {w : World} {cb : Nat} {c : Ct} {U : Nat → Prop} {tv fv : Value} {lm : Nat} {jv : Value} {fl : List FlwV} {xs : List JV} {n : Int} (h : CtlIs w cb c U tv fv lm jv fl xs) (hc : ∀ k, k < 1 ∨ 6 < k → c.lives k = 0)
    (hn : n ≤ 1000) (hj : ∀ j ∈ c.jobs, JobOk n j) (hl8 : c.jobs.length ≤ 8) (hF : AskFn J K caps q) (hJ : ∀ X, Kp (fun k => U k ∨ w.heap.size ≤ k) w X → J X) :
    Calls Tryz.prog 110 #[.pointer (some ⟨cb, 0, none⟩), .func (.func K) #[] caps] w (AllPost q w cb c U tv fv lm jv fl) := by
  obtain ⟨A, cp, rfl, hcp, hrow⟩ := h.now.ptrs
  have hxl : xs.length = c.jobs.length := by rw [← h.jobs]; simp
  have c3 : w.cell? ⟨cb, 3, none⟩ = some (.slice A xs.length cp) := by rw [cell_of_row _ _ _ _ _ _ h.now.ctl]; simp
  have H := Lib.hid h
  have HF := Lib.hid hF
  have HJ := Lib.hid hJ
  have HJB := Lib.hid hj
  have HXLn := Lib.hid hxl
  have hx8 : xs.length ≤ 8 := by omega
  clear hxl
  have hE := hF.enters
  clear hF hJ hj h
  go_enter Tryz.func110, Tryz.ntmps110
  go_wp2
  go_loopw [11] (fun iv wr => ∃ k : Nat, k ≤ xs.length ∧ iv = .int .i64 (k : Int) ∧ Hid (Kp U w wr) ∧ Hid (∃ xk, CtlIs wr cb { c with jobs := midJobs q (liveL c.lives) c.jobs k } (more U w wr) tv fv lm (.slice A xs.length cp) fl xk)) (fun iv _ => xs.length - (RowKit.intOf iv).toNat)
  case atStart => exact ⟨0, Nat.zero_le _, rfl, Lib.hid (Kp.refl _ _), Lib.hid ⟨xs, by rw [more_self]; exact H.out⟩⟩
  case round =>
    obtain ⟨k, hk, rfl, hkp, hck⟩ := hrel
    by_cases hlt : k < xs.length
    · obtain ⟨xk, hck⟩ := hck.out
      obtain ⟨j, hjk⟩ : ∃ j, c.jobs[k]? = some j := ⟨_, List.getElem?_eq_getElem (by have := HXLn.out; omega)⟩
      have hmid := midJobs_at (q := q) (live := liveL c.lives) hjk
      obtain ⟨x, hx, hxj⟩ : ∃ x, xk[k]? = some x ∧ x.j = j := by
        have := hck.jobs
        have h2 : (xk.map (·.j))[k]? = some j := by rw [this]; exact hmid
        rw [List.getElem?_map] at h2
        obtain ⟨x, h3, h4⟩ := Option.map_eq_some_iff.1 h2
        exact ⟨x, h3, h4⟩
      have hjo := HJB.out j (List.mem_of_getElem? hjk)
      have hxm := List.mem_of_getElem? hx
      have hxl2 : xk.length = xs.length := by
        have := congrArg List.length hck.jobs
        simp [midJobs] at this
        have := HXLn.out
        omega
      have hptr : ∃ bb oo, A = some ⟨bb, oo, none⟩ ∧ wr.cell? ⟨bb, oo + k, none⟩ = some (.pointer (some ⟨x.b, 0, none⟩)) := by
        obtain ⟨A2, c2, e2, -, hr2⟩ := hck.now.ptrs
        have e2' := e2
        simp only [Value.slice.injEq] at e2
        obtain ⟨bb, oo, e3, hcells⟩ := hr2 (by omega)
        refine ⟨bb, oo, by rw [e2.1]; exact e3, hcells k _ (by rw [List.getElem?_map, hx]; rfl)⟩
      obtain ⟨bb, oo, rfl, hcell⟩ := hptr
      have hlt' : (k : Int) < xs.length := by omega
      have hask := HF.out.calls x wr (HJ.out wr (hkp.out.mono fun _ => .inl)) (hck.box x hxm) (hck.now.places x hxm) (by
        have := hjo.len; have := hjo.rd; have := hjo.kp
        rw [hxj]
        rcases hjo.len with e | e
        · rw [e]; simp
        · omega)
      rw [hxj] at hask
      obtain ⟨t, ht⟩ : ∃ t, q j = t := ⟨_, rfl⟩
      rw [ht] at hask
      have HA := Lib.hid hask
      have HT := Lib.hid ht
      have HCK := Lib.hid hck
      have HM := Lib.hid hmid
      have HX := Lib.hid hx
      have HJK := Lib.hid hjk
      have HXJ := Lib.hid hxj
      clear hask ht hck hmid hx hjk hxj hxm hrow
      have hgrow : ∀ X, Below wr.heap.size wr X → CtlIs X cb { c with jobs := midJobs q (liveL c.lives) c.jobs k } (more U w X) tv fv lm (.slice (some ⟨bb, oo, none⟩) xs.length cp) fl xk := fun X hX => HCK.out.belowMore hkp.out.size hX H.out.lt H.out.tab H.out.gU
      have HG := Lib.hid hgrow
      clear hgrow
      cases t
      · go_wp2_with fail
        refine HA.out.mono ?_
        rintro e w1 ⟨rfl, hB1⟩
        go_wp2
        go_roundw
        case rel =>
          refine ⟨k + 1, by omega, by go_num, Lib.hid (hkp.out.trans (Kp.of_below (U := U) hB1) (fun _ _ e => e)), Lib.hid ⟨xk, ?_⟩⟩
          rw [← midJobs_same HJK.out HT.out]
          exact HG.out _ hB1
        case measure => simp [RowKit.intOf]; omega
      · go_wp2_with fail
        refine HA.out.mono ?_
        rintro e w1 ⟨rfl, hB1⟩
        have hBG := begin_calls (n := n) (HG.out w1 hB1) hc HX.out (by rw [HXJ.out]; exact bg_ok hjo) hn
        have HBG := Lib.hid hBG
        clear hBG
        go_wp2_with (go_at_call 77; go_must (refine (HBG.out).mono ?_); rintro e w2 ⟨v2, rfl, hk2, pv2, hc2⟩)
        go_roundw
        case rel =>
          have hU : ∀ q, q = x.b → more U w w1 q := fun q e => (HG.out w1 hB1).inU q (.inr ⟨x, List.mem_of_getElem? HX.out, .inl e⟩)
          have hkk := hkp.out.trans (Kp.of_below (U := U) hB1) (fun _ _ e => e)
          have he : begunIf q (liveL c.lives) j = beginJ (liveL c.lives) j := by unfold begunIf; rw [HT.out]; rfl
          rw [more_more hkk.size hk2.size, HXJ.out, ← he] at hc2
          have hnx := midJobs_next (q := q) (live := liveL c.lives) HJK.out
          simp only [hnx] at hc2
          refine ⟨k + 1, by omega, by go_num, Lib.hid (hkk.trans hk2 (fun i hi e => ?_)), Lib.hid ⟨_, hc2⟩⟩
          rcases hU i e with h1 | h1
          · exact h1
          · omega
        case measure => simp [RowKit.intOf]; omega
    · obtain rfl : k = xs.length := by omega
      have hlt' : ¬ (xs.length : Int) < xs.length := by omega
      go_wp2
      go_end0
      refine ⟨⟨_, rfl⟩, hkp.out, ?_⟩
      obtain ⟨xk, hck⟩ := hck.out
      refine ⟨xk, ?_⟩
      have : midJobs q (liveL c.lives) c.jobs xs.length = c.jobs.map (begunIf q (liveL c.lives)) := by
        unfold midJobs
        have := HXLn.out
        rw [List.take_of_length_le (by omega), List.drop_of_length_le (by omega)]
        simp
      rw [this] at hck
      exact hck
end Go.Proofs.YtkjajlolfcioiaaGreatDoor.Control

/- the functions that beginAll is handed. -/
namespace Go.Proofs.YtkjajlolfcioiaaGreatDoor.Control
open Go Go.RowKit Go.MapKept Go.Proofs Go.Proofs.YtkjajlolfcioiaaGreatDoor Go.Proofs.YtkjajlolfcioiaaGreatDoor.Expr Go.Proofs.YtkjajlolfcioiaaGreatDoor.Own Go.Proofs.YtkjajlolfcioiaaGreatDoor.Tail Go.Proofs.YtkjajlolfcioiaaGreatDoor.Mp Go.Proofs.YtkjajlolfcioiaaGreatDoor.Ints Go.Proofs.YtkjajlolfcioiaaGreatDoor.Plan Go.Proofs.YtkjajlolfcioiaaGreatDoor.Check Go.Proofs.YtkjajlolfcioiaaGreatDoor.Graph Go.Proofs.YtkjajlolfcioiaaGreatDoor.Ctl

theorem contains_calls (pv : Value) (L : List Int) (x : Int) (w : World) (h : IntsAt w pv L) (hl : L.length ≤ 1000) :
    Calls Tryz.prog 112 #[pv, .int .i64 x] w fun e w' => e = .returned (.bool (decide (x ∈ L))) ∧ w' = w := by
  obtain ⟨A, c, rfl, hc, hr⟩ := h
  by_cases h0 : 0 < L.length
  · obtain ⟨b, o, rfl, hcells⟩ := hr h0
    refine (Any.slices_Contains_int Tryz.lays107 b o L.length c L x w (Nat.le_refl _) (by omega) (fun j hj => hcells j _ (by rw [List.getElem?_map, List.getElem?_eq_getElem hj]; simp [hj]))).mono ?_
    rintro e w' ⟨rfl, rfl⟩
    refine ⟨?_, rfl⟩
    rw [List.take_length]
    congr 2
    by_cases hx : x ∈ L <;> simp [hx]
  · have hn : L = [] := List.length_eq_zero_iff.1 (by omega)
    subst hn
    exact Any.slices_Contains_int_empty Tryz.lays107 A c x w
/-- is it on the worker? -/
theorem ask_on (pw : Nat) (wk : Int) : AskFn (fun X => X.cell? ⟨pw, 0, none⟩ = some (.int .i64 wk)) 111 #[.pointer (some ⟨pw, 0, none⟩)] (fun j => decide (wk ∈ j.places)) where
  enters := enters_of Tryz.func111 (by kernel_rfl) rfl
  calls x X hJ hb hp hl := by
    have hc := contains_calls x.pv x.j.places wk
    have c6 : X.cell? ⟨x.b, 6, none⟩ = some x.pv := hb.cell rfl
    have HC := Lib.hid fun W (k : IntsAt W x.pv x.j.places) => hc W k hl
    have HP := Lib.hid hp
    obtain ⟨t, ht⟩ : ∃ t, decide (wk ∈ x.j.places) = t := ⟨_, rfl⟩
    simp only [ht] at HC ⊢
    clear hc hb hp hl ht
    go_enter Tryz.func111, Tryz.ntmps111
    go_wp2
    go_quiet (exact Calls.quiet_of_same (HC.out _ HP.out))
    go_wp2
    go_ret
    exact ⟨rfl, bdrewN (Below.refl _ _) _⟩
/-- does it wait for workers? -/
theorem ask_idle : AskFn (fun _ => True) 113 #[] (fun j => decide (0 < j.att ∧ j.places = [])) where
  enters := enters_of Tryz.func113 (by kernel_rfl) rfl
  calls x X hJ hb hp hl := by
    have c6 : X.cell? ⟨x.b, 6, none⟩ = some x.pv := hb.cell rfl
    have c0 : X.cell? ⟨x.b, 0, none⟩ = some (.int .i64 x.j.att) := hb.cell rfl
    obtain ⟨A, c, e, -, -⟩ := hp
    rw [e] at c6
    by_cases h0 : 0 < x.j.att
    · by_cases h1 : x.j.places = []
      · have ht : decide (0 < x.j.att ∧ x.j.places = []) = true := by simp [h0, h1]
        have t1 : decide (0 < x.j.att) = true := by simpa using h0
        have hl0 : x.j.places.length = 0 := by simp [h1]
        rw [hl0] at c6
        rw [ht]
        clear hb e hl h1 ht hl0
        go_enter Tryz.func113, Tryz.ntmps113
        go_wp2
        go_ret
        exact ⟨by simp, Below.refl _ _⟩
      · have ht : decide (0 < x.j.att ∧ x.j.places = []) = false := by simp [h1]
        have t1 : decide (0 < x.j.att) = true := by simpa using h0
        have hl0 : 0 < x.j.places.length := List.length_pos_iff.2 h1
        rw [ht]
        clear hb e hl ht
        go_enter Tryz.func113, Tryz.ntmps113
        go_wp2
        go_ret
        exact ⟨by simp [h1], Below.refl _ _⟩
    · have ht : decide (0 < x.j.att ∧ x.j.places = []) = false := by simp [h0]
      have t1 : decide (0 < x.j.att) = false := by simpa using h0
      rw [ht]
      clear hb e hl ht
      go_enter Tryz.func113, Tryz.ntmps113
      go_wp2
      go_ret
      exact ⟨by simp, Below.refl _ _⟩
end Go.Proofs.YtkjajlolfcioiaaGreatDoor.Control

/- what the commands do to the job that they name: start, fail, trigger, give up. -/
namespace Go.Proofs.YtkjajlolfcioiaaGreatDoor.Control
open Go Go.RowKit Go.MapKept Go.Proofs Go.Proofs.YtkjajlolfcioiaaGreatDoor Go.Proofs.YtkjajlolfcioiaaGreatDoor.Expr Go.Proofs.YtkjajlolfcioiaaGreatDoor.Own Go.Proofs.YtkjajlolfcioiaaGreatDoor.Tail Go.Proofs.YtkjajlolfcioiaaGreatDoor.Mp Go.Proofs.YtkjajlolfcioiaaGreatDoor.Ints Go.Proofs.YtkjajlolfcioiaaGreatDoor.Plan Go.Proofs.YtkjajlolfcioiaaGreatDoor.Check Go.Proofs.YtkjajlolfcioiaaGreatDoor.Graph Go.Proofs.YtkjajlolfcioiaaGreatDoor.Ctl

/-- a job has been told. -/
def JobPost (w : World) (cb : Nat) (c : Ct) (U : Nat → Prop) (tv fv : Value) (lm : Nat) (jv : Value) (fl : List FlwV) (i : Nat) (r : Jb × Int) (e : Ending) (w' : World) : Prop :=
  e = .returned (.int .i64 r.2) ∧ Kp U w w' ∧ ∃ xs', CtlIs w' cb { c with jobs := c.jobs.set i r.1 } (more U w w') tv fv lm jv fl xs'
section
variable {w X : World} {cb : Nat} {c : Ct} {U : Nat → Prop} {tv fv : Value} {lm : Nat} {jv : Value} {fl : List FlwV} {xs : List JV} {i : Nat} {x : JV}
theorem CtlIs.job (h : CtlIs w cb c U tv fv lm jv fl xs) (hx : xs[i]? = some x) : c.jobs[i]? = some x.j := by
  rw [← h.jobs, List.getElem?_map, hx]; rfl
theorem set_same {l : List Jb} {j : Jb} (h : l[i]? = some j) : l.set i j = l := by
  refine List.ext_getElem? fun k => ?_
  rw [List.getElem?_set]
  split
  · rename_i e
    subst e
    rw [h, if_pos (List.getElem?_eq_some_iff.1 h).1]
  · rfl
/-- beside the control something is made. -/
theorem CtlIs.beside (h : CtlIs w cb c U tv fv lm jv fl xs) (k : Below w.heap.size w X) : CtlIs X cb c (more U w X) tv fv lm jv fl xs := by
  have h' : CtlIs w cb c (more U w w) tv fv lm jv fl xs := by rw [more_self]; exact h
  exact h'.belowMore (Nat.le_refl _) k h.lt h.tab h.gU
/-- nothing of the job turns. -/
theorem JobPost.same (h : CtlIs w cb c U tv fv lm jv fl xs) (hx : xs[i]? = some x) (k : Below w.heap.size w X) (n : Int) : JobPost w cb c U tv fv lm jv fl i (x.j, n) (.returned (.int .i64 n)) X := by
  refine ⟨rfl, Kp.of_below k, xs, ?_⟩
  have := set_same (h.job hx)
  simp only [this]
  exact h.beside k
/-- begin, in a later world. -/
theorem begin_from (h : CtlIs w cb c U tv fv lm jv fl xs) (hc : ∀ k, k < 1 ∨ 6 < k → c.lives k = 0) {n : Int} (hx : xs[i]? = some x) (hj : BgOk n x.j) (hn : n ≤ 1000) (k : Below w.heap.size w X) :
    Calls Tryz.prog 77 #[.pointer (some ⟨cb, 0, none⟩), .pointer (some ⟨x.b, 0, none⟩)] X fun e w' => (∃ v, e = .returned v) ∧ Kp U w w' ∧ ∃ xs', CtlIs w' cb { c with jobs := c.jobs.set i (beginJ (liveL c.lives) x.j) } (more U w w') tv fv lm jv fl xs' := by
  refine (begin_calls (h.below k) hc hx hj hn).mono ?_
  rintro e w' ⟨v, rfl, hk, pv, hC⟩
  have hU : U x.b := h.inU _ (.inr ⟨x, List.mem_of_getElem? hx, .inl rfl⟩)
  have hK := (Kp.of_below (U := U) k).trans hk (fun q _ e => by rw [e]; exact hU)
  refine ⟨⟨v, rfl⟩, hK, _, hC.grow ?_ ?_ ?_⟩
  · rintro q (hq | hq)
    · exact .inl hq
    · exact .inr ⟨Nat.le_trans k.size hq.1, hq.2⟩
  · rintro q (hq | hq)
    · exact Nat.lt_of_lt_of_le (h.lt q hq) hK.size
    · exact hq.2
  · rintro (hq | hq)
    · exact h.gU hq
    · have := tab_lt h.tab
      omega
/-- a command's box: a command in memory. -/
structure CmdBox (w : World) (p : Nat) (x : Cmd) (v : Value) : Prop where
  kind : w.cell? ⟨p, 0, none⟩ = some (.int .i64 x.kind)
  flow : w.cell? ⟨p, 1, none⟩ = some (.int .i64 x.flow)
  att : w.cell? ⟨p, 2, none⟩ = some (.int .i64 x.att)
  num : w.cell? ⟨p, 3, none⟩ = some (.int .i64 x.num)
  wk : w.cell? ⟨p, 4, none⟩ = some (.int .i64 x.wk)
  rd : w.cell? ⟨p, 5, none⟩ = some (.int .i64 x.rd)
  kp : w.cell? ⟨p, 6, none⟩ = some (.int .i64 x.kp)
  parts : w.cell? ⟨p, 7, none⟩ = some v
set_option maxRecDepth 100000 in
/-- start. -/
theorem start_calls (h : CtlIs w cb c U tv fv lm jv fl xs) (hc : ∀ k, k < 1 ∨ 6 < k → c.lives k = 0) {n : Int} (hx : xs[i]? = some x) (hj : JobOk n x.j) (hn : n ≤ 1000) (pc : Nat) (hpc : w.cell? ⟨pc, 0, none⟩ = some (.pointer (some ⟨cb, 0, none⟩))) :
    Calls Tryz.prog 76 #[.pointer (some ⟨x.b, 0, none⟩), .pointer (some ⟨pc, 0, none⟩)] w (JobPost w cb c U tv fv lm jv fl i (startJ (liveL c.lives) x.j)) := by
  have c0 : w.cell? ⟨x.b, 0, none⟩ = some (.int .i64 x.j.att) := (h.box x (List.mem_of_getElem? hx)).cell rfl
  have HB := Lib.hid (begin_from h hc hx (bg_ok hj) hn (Below.refl _ _))
  have HS := Lib.hid fun X k n => JobPost.same (X := X) h hx k n
  unfold startJ
  by_cases h0 : 0 < x.j.att
  · have t1 : decide (0 < x.j.att) = true := by simpa using h0
    rw [if_pos h0]
    clear h hc hx hj HB
    go_enter Tryz.func76, Tryz.ntmps76
    go_wp2
    go_ret
    exact HS.out _ (Below.refl _ _) 52
  · have t1 : decide (0 < x.j.att) = false := by simpa using h0
    rw [if_neg h0]
    clear h hc hx hj HS
    go_enter Tryz.func76, Tryz.ntmps76
    go_wp2_with (go_at_call 77; go_must (refine (HB.out).mono ?_); rintro e w2 ⟨⟨v2, rfl⟩, hk2, hc2⟩)
    go_ret
    exact ⟨rfl, hk2, hc2⟩
set_option maxRecDepth 100000 in
/-- fail. -/
theorem fail_calls (h : CtlIs w cb c U tv fv lm jv fl xs) (hc : ∀ k, k < 1 ∨ 6 < k → c.lives k = 0) {n : Int} (hx : xs[i]? = some x) (hj : JobOk n x.j) (hn : n ≤ 1000) (pc px : Nat) (hpc : w.cell? ⟨pc, 0, none⟩ = some (.pointer (some ⟨cb, 0, none⟩))) (cmd : Cmd) (v : Value) (hcm : CmdBox w px cmd v) :
    Calls Tryz.prog 78 #[.pointer (some ⟨x.b, 0, none⟩), .pointer (some ⟨px, 0, none⟩), .pointer (some ⟨pc, 0, none⟩)] w (JobPost w cb c U tv fv lm jv fl i (failJ (liveL c.lives) cmd x.j)) := by
  have hxm := List.mem_of_getElem? hx
  have c0 : w.cell? ⟨x.b, 0, none⟩ = some (.int .i64 x.j.att) := (h.box x hxm).cell rfl
  have c6 : w.cell? ⟨x.b, 6, none⟩ = some x.pv := (h.box x hxm).cell rfl
  obtain ⟨A, cp, e6, -, -⟩ := h.now.places x hxm
  rw [e6] at c6
  have ha := hcm.att
  have HB := Lib.hid (fun X k => begin_from (X := X) h hc hx (bg_ok hj) hn k)
  have HS := Lib.hid fun X k n => JobPost.same (X := X) h hx k n
  have hpc' := fun n => (show (w.drewN n).cell? ⟨pc, 0, none⟩ = some (.pointer (some ⟨cb, 0, none⟩)) from hpc)
  unfold failJ
  by_cases h1 : x.j.att = 0
  · have t1 : (x.j.att == 0) = true := by simpa using h1
    rw [if_pos (.inl h1)]
    clear h hc hx hj HB hcm
    go_enter Tryz.func78, Tryz.ntmps78
    go_wp2
    go_quiet (fail)
    go_wp2
    go_ret
    exact HS.out _ (bdrewN (Below.refl _ _) _) 210
  · have t1 : (x.j.att == 0) = false := by simpa using h1
    by_cases h2 : cmd.att = x.j.att
    · have t2 : (cmd.att != x.j.att) = false := by simpa using h2
      by_cases h3 : x.j.places = []
      · have hl0 : x.j.places.length = 0 := by simp [h3]
        rw [hl0] at c6
        rw [if_pos (.inr (.inr h3))]
        clear h hc hx hj HB hcm e6 hl0 h3
        go_enter Tryz.func78, Tryz.ntmps78
        go_wp2
        go_quiet (fail)
        go_wp2
        go_ret
        exact HS.out _ (bdrewN (Below.refl _ _) _) 210
      · have hl0 : ((x.j.places.length : Int) == 0) = false := by
          have := List.length_pos_iff.2 h3
          simp
          exact h3
        rw [if_neg (by rintro (q | q | q); exact h1 q; exact q h2; exact h3 q)]
        clear h hc hx hj HS hcm e6
        go_enter Tryz.func78, Tryz.ntmps78
        go_wp2
        go_quiet (fail)
        go_wp2_with (go_at_call 77; go_must (refine (HB.out _ (bdrewN (Below.refl _ _) _)).mono ?_); rintro e w2 ⟨⟨v2, rfl⟩, hk2, hc2⟩)
        go_ret
        exact ⟨rfl, hk2, hc2⟩
    · have t2 : (cmd.att != x.j.att) = true := by simpa using h2
      rw [if_pos (.inr (.inl h2))]
      clear h hc hx hj HB hcm
      go_enter Tryz.func78, Tryz.ntmps78
      go_wp2
      go_quiet (fail)
      go_wp2
      go_ret
      exact HS.out _ (bdrewN (Below.refl _ _) _) 210
end
end Go.Proofs.YtkjajlolfcioiaaGreatDoor.Control

/- what the commands do to the job that they name: trigger, give up, scale. -/
namespace Go.Proofs.YtkjajlolfcioiaaGreatDoor.Control
open Go Go.RowKit Go.MapKept Go.Proofs Go.Proofs.YtkjajlolfcioiaaGreatDoor Go.Proofs.YtkjajlolfcioiaaGreatDoor.Expr Go.Proofs.YtkjajlolfcioiaaGreatDoor.Own Go.Proofs.YtkjajlolfcioiaaGreatDoor.Tail Go.Proofs.YtkjajlolfcioiaaGreatDoor.Mp Go.Proofs.YtkjajlolfcioiaaGreatDoor.Ints Go.Proofs.YtkjajlolfcioiaaGreatDoor.Plan Go.Proofs.YtkjajlolfcioiaaGreatDoor.Check Go.Proofs.YtkjajlolfcioiaaGreatDoor.Graph Go.Proofs.YtkjajlolfcioiaaGreatDoor.Ctl
section
variable {w X : World} {cb : Nat} {c : Ct} {U : Nat → Prop} {tv fv : Value} {lm : Nat} {jv : Value} {fl : List FlwV} {xs : List JV} {i : Nat} {x : JV}
theorem CtlIs.jobU (h : CtlIs w cb c U tv fv lm jv fl xs) (hx : xs[i]? = some x) : U x.b := h.inU _ (.inr ⟨x, List.mem_of_getElem? hx, .inl rfl⟩)
/-- numbers of the job have turned; what was acked is kept, or gone. -/
theorem CtlIs.nums (h : CtlIs w cb c U tv fv lm jv fl xs) (hx : xs[i]? = some x) (hk : Kp (fun k => k = x.b) w X) {j : Jb} {mo : Option Nat} (hb : JobBox X x.b j x.pv mo) (hp : j.places = x.j.places) (hm : (mo = x.mo ∧ j.acked = x.j.acked) ∨ (mo = none ∧ j.acked = [])) :
    CtlIs X cb { c with jobs := c.jobs.set i j } (more U w X) tv fv lm jv fl (xs.set i ⟨j, x.pv, mo, x.b⟩) := by
  have hxm := List.mem_of_getElem? hx
  refine h.turn hx hk.size (fun k h1 h2 _ => hk.block k h1 h2) hb (.inl ⟨rfl, hp⟩) (hm.elim (fun e => .inl e.1) (fun e => .inr (.inl e.1))) ?_
  rcases hm with ⟨e1, e2⟩ | ⟨e1, e2⟩
  · rw [e1, e2]
    refine (h.ack x hxm).block fun m hm => hk.block m (h.lt m (h.inU m (.inr ⟨x, hxm, .inr hm⟩))) (fun e => ?_)
    have h1 := h.box x hxm
    have h2 := h.ack x hxm
    rw [hm] at h2
    obtain ⟨f, ⟨es, ck, hh, _⟩, _⟩ := h2
    unfold JobBox at h1
    rw [e, h1] at hh
    cases hh
  · rw [e1]
    exact e2
theorem JobPost.nums (h : CtlIs w cb c U tv fv lm jv fl xs) (hx : xs[i]? = some x) (hk : Kp (fun k => k = x.b) w X) {j : Jb} {mo : Option Nat} (hb : JobBox X x.b j x.pv mo) (hp : j.places = x.j.places) (hm : (mo = x.mo ∧ j.acked = x.j.acked) ∨ (mo = none ∧ j.acked = [])) (n : Int) :
    JobPost w cb c U tv fv lm jv fl i (j, n) (.returned (.int .i64 n)) X :=
  ⟨rfl, hk.mono (fun q e => by rw [e]; exact h.jobU hx), _, h.nums hx hk hb hp hm⟩
/-- the cells of a job. -/
structure JobCells (w : World) (b : Nat) (j : Jb) (pv : Value) (mo : Option Nat) : Prop where
  c0 : w.cell? ⟨b, 0, none⟩ = some (.int .i64 j.att)
  c1 : w.cell? ⟨b, 1, none⟩ = some (.int .i64 j.rd)
  c2 : w.cell? ⟨b, 2, none⟩ = some (.int .i64 j.kp)
  c3 : w.cell? ⟨b, 3, none⟩ = some (.int .i64 j.done)
  c4 : w.cell? ⟨b, 4, none⟩ = some (.int .i64 j.num)
  c5 : w.cell? ⟨b, 5, none⟩ = some (.int .i64 j.next)
  c6 : w.cell? ⟨b, 6, none⟩ = some pv
  c7 : w.cell? ⟨b, 7, none⟩ = some (.map mo)
  f : ∀ k, w.frozen? ⟨b, k, none⟩ = false
theorem JobBox.cells {b : Nat} {j : Jb} {pv : Value} {mo : Option Nat} (h : JobBox w b j pv mo) : JobCells w b j pv mo :=
  ⟨h.cell rfl, h.cell rfl, h.cell rfl, h.cell rfl, h.cell rfl, h.cell rfl, h.cell rfl, h.cell rfl, h.frozen⟩
set_option maxHeartbeats 1000000 in
set_option maxRecDepth 100000 in
/-- a checkpoint begins. -/
theorem trigger_calls (h : CtlIs w cb c U tv fv lm jv fl xs) {n : Int} (hx : xs[i]? = some x) (hj : JobOk n x.j) (hn : n ≤ 1000) :
    Calls Tryz.prog 81 #[.pointer (some ⟨x.b, 0, none⟩)] w (JobPost w cb c U tv fv lm jv fl i (triggerJ x.j)) := by
  have hxm := List.mem_of_getElem? hx
  obtain ⟨c0, c1, c2, c3, c4, c5, c6, c7, hf⟩ := (h.box x hxm).cells
  obtain ⟨A, cp, e6, -, -⟩ := h.now.places x hxm
  rw [e6] at c6
  have hnx := hj.next
  have HS := Lib.hid fun X k n => JobPost.same (X := X) h hx k n
  have HN := Lib.hid fun X k j mo hb hp hm n => JobPost.nums (X := X) h hx k (j := j) (mo := mo) hb hp hm n
  have HB := Lib.hid (h.box x hxm)
  unfold triggerJ
  clear c0 c1 c2 c3
  by_cases h1 : x.j.places = []
  · have hl0 : x.j.places.length = 0 := by simp [h1]
    rw [hl0] at c6
    rw [if_pos h1]
    clear h hx hj e6 HN h1 hl0 hf c5 c7 c4
    go_enter Tryz.func81, Tryz.ntmps81
    go_wp2
    go_ret
    exact HS.out _ (Below.refl _ _) 6
  · have hl0 : ((x.j.places.length : Int) == 0) = false := by simp; exact h1
    rw [if_neg h1]
    by_cases h2 : x.j.num = 0
    · have t2 : (x.j.num != 0) = false := by simpa using h2
      have t3 : decide (1000000000 < x.j.next) = false := by simp; omega
      have f4 := hf 4
      have f5 := hf 5
      have f7 := hf 7
      have hw : IntKind.i64.wrap (x.j.next + 1) = x.j.next + 1 := by simp [IntKind.wrap, IntKind.bits, IntKind.signed]; omega
      rw [if_neg (fun e => e h2)]
      have HE := Lib.hid e6
      clear h hx hj e6 HS h2 hf hnx
      go_enter Tryz.func81, Tryz.ntmps81
      go_wp2
      go_ret
      refine HN.out _ (Kp.of_but ((((But.refl x.b w).setCell 4 _).setCell 7 _).setCell 5 _) rfl) { x.j with num := x.j.next, acked := [], next := x.j.next + 1 } none ?_ rfl (.inr ⟨rfl, rfl⟩) 0
      exact (set_cell_heap _ (set_cell_heap _ (set_cell_heap _ HB.out))).trans (by simp [jobCells])
    · have t2 : (x.j.num != 0) = true := by simpa using h2
      rw [if_pos h2]
      clear h hx hj e6 HN hf c5 c7
      go_enter Tryz.func81, Tryz.ntmps81
      go_wp2
      go_ret
      exact HS.out _ (Below.refl _ _) 211
set_option maxHeartbeats 1000000 in
set_option maxRecDepth 100000 in
/-- a checkpoint is given up. -/
theorem give_calls (h : CtlIs w cb c U tv fv lm jv fl xs) (hx : xs[i]? = some x) (px : Nat) (cmd : Cmd) (v : Value) (hcm : CmdBox w px cmd v) :
    Calls Tryz.prog 84 #[.pointer (some ⟨x.b, 0, none⟩), .pointer (some ⟨px, 0, none⟩)] w (JobPost w cb c U tv fv lm jv fl i (giveJ cmd x.j)) := by
  have hxm := List.mem_of_getElem? hx
  obtain ⟨c0, c1, c2, c3, c4, c5, c6, c7, hf⟩ := (h.box x hxm).cells
  have hnm := hcm.num
  have HS := Lib.hid fun X k n => JobPost.same (X := X) h hx k n
  have HN := Lib.hid fun X k j mo hb hp hm n => JobPost.nums (X := X) h hx k (j := j) (mo := mo) hb hp hm n
  have HB := Lib.hid (h.box x hxm)
  unfold giveJ
  clear c0 c1 c2 c3 c5 c6
  by_cases h1 : x.j.num = 0
  · have t1 : (x.j.num == 0) = true := by simpa using h1
    rw [if_pos (.inl h1)]
    clear h hx hcm HN h1 hf c7
    go_enter Tryz.func84, Tryz.ntmps84
    go_wp2
    go_quiet (fail)
    go_wp2
    go_ret
    exact HS.out _ (bdrewN (Below.refl _ _) _) 210
  · have t1 : (x.j.num == 0) = false := by simpa using h1
    by_cases h2 : cmd.num = x.j.num
    · have t2 : (cmd.num != x.j.num) = false := by simpa using h2
      have f4 := hf 4
      have f7 := hf 7
      rw [if_neg (by rintro (q | q); exact h1 q; exact q h2)]
      clear h hx hcm HS h1 hf h2
      go_enter Tryz.func84, Tryz.ntmps84
      go_wp2
      go_quiet (fail)
      go_wp2
      go_ret
      refine HN.out _ (Kp.of_but ((((But.refl x.b w).drewN _).setCell 4 _).setCell 7 _) rfl) { x.j with num := 0, acked := [] } none ?_ rfl (.inr ⟨rfl, rfl⟩) 0
      exact (set_cell_heap _ (set_cell_heap (w := w.drewN _) _ HB.out)).trans (by simp [jobCells])
    · have t2 : (cmd.num != x.j.num) = true := by simpa using h2
      rw [if_pos (.inr h2)]
      clear h hx hcm HN h1 hf c7 h2
      go_enter Tryz.func84, Tryz.ntmps84
      go_wp2
      go_quiet (fail)
      go_wp2
      go_ret
      exact HS.out _ (bdrewN (Below.refl _ _) _) 210
end
end Go.Proofs.YtkjajlolfcioiaaGreatDoor.Control

/- copies of slices; cells that turn in them. -/
namespace Go.Proofs.YtkjajlolfcioiaaGreatDoor.Control
open Go Go.RowKit Go.MapKept Go.Proofs Go.Proofs.YtkjajlolfcioiaaGreatDoor Go.Proofs.YtkjajlolfcioiaaGreatDoor.Expr Go.Proofs.YtkjajlolfcioiaaGreatDoor.Own Go.Proofs.YtkjajlolfcioiaaGreatDoor.Tail Go.Proofs.YtkjajlolfcioiaaGreatDoor.Mp Go.Proofs.YtkjajlolfcioiaaGreatDoor.Ints Go.Proofs.YtkjajlolfcioiaaGreatDoor.Plan Go.Proofs.YtkjajlolfcioiaaGreatDoor.Check Go.Proofs.YtkjajlolfcioiaaGreatDoor.Graph Go.Proofs.YtkjajlolfcioiaaGreatDoor.Ctl
theorem flat_set {α : Type} (f : α → List Value) (m : Nat) (hf : ∀ x, (f x).length = m) : ∀ (l : List α) (i j : Nat) (x x' : α) (u : Value), l[i]? = some x → j < m → f x' = (f x).set j u → (l.flatMap f).set (i * m + j) u = (l.set i x').flatMap f
  | [], _, _, _, _, _, h, _, _ => by simp at h
  | y :: r, 0, j, x, x', u, h, hj, he => by
    obtain rfl : y = x := by simpa using h
    rw [List.flatMap_cons, Nat.zero_mul, Nat.zero_add, List.set_append_left _ _ (by rw [hf]; exact hj), List.set_cons_zero, List.flatMap_cons, he]
  | y :: r, i + 1, j, x, x', u, h, hj, he => by
    have e : (i + 1) * m + j = m + (i * m + j) := by rw [Nat.succ_mul]; omega
    rw [List.flatMap_cons, e, List.set_append_right _ _ (by rw [hf]; omega), hf, Nat.add_sub_cancel_left, flat_set f m hf r i j x x' u (by simpa using h) hj he, List.set_cons_succ, List.flatMap_cons]
theorem own_set {w : World} {base E size n g cap : Nat} {xs : List Value} (h : w.ownsRow base E size (.slice (some ⟨g, 0, none⟩) n cap) n xs) {j : Nat} (u : Value) : (w.setCell ⟨g, j, none⟩ u).ownsRow base E size (.slice (some ⟨g, 0, none⟩) n cap) n (xs.set j u) := by
  refine ⟨by rw [List.length_set]; exact h.1, ?_⟩
  rcases h.2 with ⟨e, _⟩ | ⟨g', cap', cur, e, hb, hh, hle, hmax, hsz, htake⟩
  · cases e
  · obtain ⟨rfl, rfl⟩ : g = g' ∧ cap = cap' := by simpa using e
    refine .inr ⟨g, cap, cur.setIfInBounds j u, rfl, hb, ?_, hle, hmax, by simpa using hsz, ?_⟩
    · have hlt := (Array.getElem?_eq_some_iff.1 hh).1
      have hx : w.heap[g]'hlt = .cells cur E := by
        rw [Array.getElem?_eq_getElem hlt] at hh
        exact Option.some.inj hh
      simp [World.setCell, hlt]
      rw [Array.getElem_modify]
      simp [hx]
    · rw [Array.toList_setIfInBounds, List.take_set, htake]
theorem own_cell {w : World} {base E size n g cap : Nat} {xs : List Value} (h : w.ownsRow base E size (.slice (some ⟨g, 0, none⟩) n cap) n xs) {j : Nat} {u : Value} (hj : xs[j]? = some u) : w.cell? ⟨g, j, none⟩ = some u ∧ w.frozen? ⟨g, j, none⟩ = false := by
  rcases h.2 with ⟨e, _⟩ | ⟨g', cap', cur, e, hb, hh, hle, hmax, hsz, htake⟩
  · cases e
  · obtain ⟨rfl, rfl⟩ : g = g' ∧ cap = cap' := by simpa using e
    refine ⟨?_, by simp [World.frozen?, hh]⟩
    have := RowAt.of_heap hh j u (by
      rw [← htake, List.getElem?_take] at hj
      split at hj
      · exact hj
      · cases hj)
    rwa [Own.add_plain] at this
theorem sliceAt_own' {w : World} {base E size n : Nat} {v : Value} {xs : List Value} (h : w.ownsRow base E size v n xs) : SliceAt w v n xs := by
  obtain ⟨A, cap, rfl, hc, _, hn, hr⟩ := own_form h
  refine ⟨A, cap, rfl, hc, fun h0 => ?_⟩
  rcases h.2 with ⟨e, hz⟩ | ⟨g, cap', cur, e, _, hh, _, _, _, htake⟩
  · omega
  · obtain ⟨rfl, rfl⟩ : A = some ⟨g, 0, none⟩ ∧ cap = cap' := by simpa using e
    refine ⟨g, 0, rfl, fun j u hj => ?_⟩
    have := (hr _ rfl).2 j u hj
    rw [Own.add_plain] at this
    rwa [Nat.zero_add]
/-- a copy. -/
def CopyPost (w : World) (E size n : Nat) (news : List Value) (e : Ending) (w' : World) : Prop := ∃ v, e = .returned v ∧ w'.ownsRow w.heap.size E size v n news ∧ Below w.heap.size w w'
theorem sliceOfFlw : SliceOf Tryz.prog 23 71 12 152 := sliceOf (z := .agg #[.string ⟨#[]⟩, .string ⟨#[]⟩, .string ⟨#[]⟩, .int .i64 0, .int .i64 0, .int .i64 0, .slice none 0 0, .int .i64 0, .int .i64 0, .int .i64 0, .int .i64 0, .slice none 0 0]) Tryz.underlying23 (by kernel_rfl) rfl (by decide)
theorem plan_one {w : World} {tv fv : Value} {tops : List Top} {fl : List FlwV} (h : PlanAt w tv fv tops fl) : ∀ u ∈ fl.flatMap flwvCells, u.oneCell' = true := by
  intro u hu
  obtain ⟨x, hx, hu⟩ := List.mem_flatMap.1 hu
  obtain ⟨A, c, e1, -, -⟩ := h.pre x hx
  obtain ⟨B, d, e2, -, -⟩ := h.post x hx
  unfold flwvCells flwCells at hu
  rw [e1, e2] at hu
  simp at hu
  rcases hu with rfl | rfl | rfl | rfl | rfl | rfl | rfl | rfl | rfl | rfl | rfl | rfl <;> rfl
theorem cloneF_calls (fv : Value) (fl : List FlwV) (w : World) (h : SliceAt w fv fl.length (fl.flatMap flwvCells)) (hl : fl.length ≤ 1000) (h1 : ∀ u ∈ fl.flatMap flwvCells, u.oneCell' = true) (h0 : 0 < fl.length) :
    Calls Tryz.prog 114 #[fv] w (CopyPost w 71 12 fl.length (fl.flatMap flwvCells)) := by
  obtain ⟨A, c, rfl, hc, hr⟩ := h
  obtain ⟨b, o, rfl, hcells⟩ := hr h0
  obtain ⟨i0, z, e1, e2, e3, e4, e5⟩ := sliceOfFlw.info
  refine (AnyE.slices_Clone Tryz.cloneF i0 z 12 152 e1 e2 e3 e4 e5 (by decide) (fun w => Tryz.sizeOf71 w) b o fl.length c (fl.flatMap flwvCells) w (by
    clear hcells hr h1 h0 hl hc
    induction fl with
    | nil => rfl
    | cons x r ih => rw [List.flatMap_cons, List.length_append, ih, List.length_cons]; simp [flwvCells, flwCells]; omega) (by unfold maxLen; omega) (by omega) hcells h1).mono ?_
  rintro e w' ⟨v, rfl, ho, -, hB⟩
  exact ⟨v, rfl, ho, hB⟩
end Go.Proofs.YtkjajlolfcioiaaGreatDoor.Control
