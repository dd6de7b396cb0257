/- control.ack, walked. -/
import Derived.Test.YtkjajlolfcioiaaGreatDoorYCtlP
namespace Go.Proofs.YtkjajlolfcioiaaGreatDoor.Control
open Go Go.RowKit Go.MapKept Go.Maps Go.Proofs Go.Proofs.YtkjajlolfcioiaaGreatDoor Go.Proofs.YtkjajlolfcioiaaGreatDoor.Expr Go.Proofs.YtkjajlolfcioiaaGreatDoor.Own Go.Proofs.YtkjajlolfcioiaaGreatDoor.Tail Go.Proofs.YtkjajlolfcioiaaGreatDoor.Mp Go.Proofs.YtkjajlolfcioiaaGreatDoor.Mk Go.Proofs.YtkjajlolfcioiaaGreatDoor.Ints Go.Proofs.YtkjajlolfcioiaaGreatDoor.Plan Go.Proofs.YtkjajlolfcioiaaGreatDoor.Check Go.Proofs.YtkjajlolfcioiaaGreatDoor.Graph Go.Proofs.YtkjajlolfcioiaaGreatDoor.Ctl
section
variable {w X : World} {cb : Nat} {c : Ct} {U : Nat → Prop} {tv fv : Value} {lm : Nat} {jv : Value} {fl : List FlwV} {xs : List JV} {i : Nat} {x : JV}
/-- what an ack may turn. -/
def AckV (x : JV) (q : Nat) : Prop := q = x.b ∨ x.mo = some q
theorem box_ne_map {w : World} {b m : Nat} {j : Jb} {pv : Value} {mo : Option Nat} {L : List (Int × Int)} (h : JobBox w b j pv mo) (hm : PartMap w m L) : b ≠ m := by
  rintro rfl
  obtain ⟨f, ⟨es, ck, hh, _⟩, _⟩ := hm
  unfold JobBox at h
  rw [h] at hh
  cases hh
theorem JobPost.acked (h : CtlIs w cb c U tv fv lm jv fl xs) (hx : xs[i]? = some x) (hk : Kp (AckV x) w X) {j : Jb} {mo : Option Nat} (hb : JobBox X x.b j x.pv mo) (hp : j.places = x.j.places) (hmo : mo = x.mo ∨ mo = none ∨ ∃ m, mo = some m ∧ w.heap.size ≤ m ∧ m < X.heap.size) (ha : AckAt X mo j.acked) (n : Int) :
    JobPost w cb c U tv fv lm jv fl i (j, n) (.returned (.int .i64 n)) X :=
  ⟨rfl, hk.mono (fun q e => h.inU q (.inr ⟨x, List.mem_of_getElem? hx, e⟩)), _, h.turn hx hk.size (fun k h1 h2 h3 => hk.block k h1 (fun e => e.elim h2 h3)) hb (.inl ⟨rfl, hp⟩) hmo ha⟩
set_option maxHeartbeats 8000000 in
set_option maxRecDepth 100000 in
theorem ack_calls (h : CtlIs w cb c U tv fv lm jv fl xs) {n : Int} (hx : xs[i]? = some x) (hj : JobOk n x.j) (hp : planE ⟨c.tops, c.flows⟩ = 0) (hi : i < fl.length) (cmd : Cmd) (v : Value) (hfl : cmd.flow = (i : Int)) (hpt : ∀ X, Kp U w X → PartsAt X v cmd.parts) (hpl : cmd.parts.length ≤ 1000) :
    Calls Tryz.prog 83 #[.pointer (some ⟨cb, 0, none⟩), .pointer (some ⟨x.b, 0, none⟩), .agg (cmdCells cmd v)] w (JobPost w cb c U tv fv lm jv fl i (ackJ (partsAt c i) cmd x.j)) := by
  have hxm := List.mem_of_getElem? hx
  obtain ⟨c0, c1, c2, c3, c4, c5, c6, c7, hf⟩ := (h.box x hxm).cells
  obtain ⟨A0, cp0, e6, -, -⟩ := h.now.places x hxm
  rw [e6] at c6
  have hpa : 1 ≤ partsAt c i ∧ partsAt c i ≤ 16 := by
    have hil : i < c.flows.length := by rw [← h.flows]; simpa using hi
    have := plan_flow hp c.flows[i] (List.getElem_mem hil)
    unfold partsAt
    rw [List.getElem?_eq_getElem hil]
    exact this.parts
  have HP := Lib.hid fun X (k : Below w.heap.size w X) => parts_calls (h.below k) hp hi
  obtain ⟨pa, hpaE⟩ : ∃ pa, partsAt c i = pa := ⟨_, rfl⟩
  rw [hpaE] at HP hpa ⊢
  obtain ⟨kind, flow, catt, cnum, wk, rd, kp, parts⟩ := cmd
  simp only at hfl hpt hpl
  subst hfl
  obtain ⟨Ap, cpp, rfl, hcp, -⟩ := hpt w (Kp.refl _ _)
  have HS := Lib.hid fun X k n => JobPost.same (X := X) h hx k n
  have HA := Lib.hid fun X k j mo hb hp hmo ha n => JobPost.acked (X := X) h hx k (j := j) (mo := mo) hb hp hmo ha n
  have HPT := Lib.hid hpt
  have HBX := Lib.hid (h.box x hxm)
  have HAK := Lib.hid (h.ack x hxm)
  have HMO := Lib.hid (show ∀ q, AckV x q → U q from fun q e => h.inU q (.inr ⟨x, hxm, e⟩))
  have HLT := Lib.hid h.lt
  have HJ := Lib.hid hj
  have hxb : x.b < w.heap.size := (h.box x hxm).lt
  have a0 := kc (box_below w (.cells (cmdCells ⟨kind, (i : Int), catt, cnum, wk, rd, kp, parts⟩ (.slice Ap parts.length cpp)) 60)) c0
  have a4 := kc (box_below w (.cells (cmdCells ⟨kind, (i : Int), catt, cnum, wk, rd, kp, parts⟩ (.slice Ap parts.length cpp)) 60)) c4
  have a6 := kc (box_below w (.cells (cmdCells ⟨kind, (i : Int), catt, cnum, wk, rd, kp, parts⟩ (.slice Ap parts.length cpp)) 60)) c6
  unfold cmdCells at a0 a4 a6 ⊢
  simp only at a0 a4 a6
  have hack : ackJ pa ⟨kind, (i : Int), catt, cnum, wk, rd, kp, parts⟩ x.j = if x.j.places = [] ∨ catt ≠ x.j.att ∨ cnum ≠ x.j.num ∨ x.j.num = 0 then (x.j, 210) else if ∃ p ∈ parts, ¬ PartOk pa p then (x.j, 1) else if ((addP x.j.acked parts).length : Int) = pa + 16 then ({ x.j with done := x.j.num, num := 0, acked := [] }, 0) else ({ x.j with acked := addP x.j.acked parts }, 0) := rfl
  have HK := Lib.hid hack
  clear hack h hx hpt hj hp c0 c1 c2 c3 c5 hf e6 hpaE
  by_cases h1 : x.j.places = []
  · have hl0 : x.j.places.length = 0 := by simp [h1]
    rw [hl0] at a6
    rw [HK.out, if_pos (.inl h1)]
    clear c6 hl0 h1 c4 c7 a0 a4
    go_enter Tryz.func83, Tryz.ntmps83
    go_wp2
    go_quiet (fail)
    go_wp2
    go_ret
    exact HS.out _ (bdrewN (box_below _ _) _) 210
  have hl0 : ((x.j.places.length : Int) == 0) = false := by simp; exact h1
  by_cases h2 : catt = x.j.att
  case neg =>
    have t2 : (catt != x.j.att) = true := by simpa using h2
    rw [HK.out, if_pos (.inr (.inl h2))]
    clear c6 c4 c7 a4
    go_enter Tryz.func83, Tryz.ntmps83
    go_wp2
    go_quiet (fail)
    go_wp2
    go_ret
    exact HS.out _ (bdrewN (box_below _ _) _) 210
  have t2 : (catt != x.j.att) = false := by simpa using h2
  have H2 := Lib.hid h2
  clear h2
  by_cases h3 : cnum = x.j.num
  case neg =>
    have t3 : (cnum != x.j.num) = true := by simpa using h3
    rw [HK.out, if_pos (.inr (.inr (.inl h3)))]
    clear c6 c4 c7
    go_enter Tryz.func83, Tryz.ntmps83
    go_wp2
    go_quiet (fail)
    go_wp2
    go_ret
    exact HS.out _ (bdrewN (box_below _ _) _) 210
  have t3 : (cnum != x.j.num) = false := by simpa using h3
  have H3 := Lib.hid h3
  clear h3
  by_cases h4 : x.j.num = 0
  · have t4 : (x.j.num == 0) = true := by simpa using h4
    rw [HK.out, if_pos (.inr (.inr (.inr h4)))]
    clear c6 c4 c7 h4
    go_enter Tryz.func83, Tryz.ntmps83
    go_wp2
    go_quiet (fail)
    go_wp2
    go_ret
    exact HS.out _ (bdrewN (box_below _ _) _) 210
  have t4 : (x.j.num == 0) = false := by simpa using h4
  have H4 := Lib.hid h4
  rw [if_neg (by rintro (q | q | q | q); exact h1 q; exact q H2.out; exact q H3.out; exact h4 q)] at HK
  have H1 := Lib.hid h1
  clear c6 c4 c7 h1 h4
  go_enter Tryz.func83, Tryz.ntmps83
  go_wp2
  go_quiet (fail)
  go_wp2_with fail
  refine (HP.out _ (bdrewN (box_below _ _) _)).mono ?_
  rintro e w1 ⟨rfl, hB1⟩
  have p7 : w1.cell? ⟨w.heap.size, 7, none⟩ = some (.slice Ap parts.length cpp) := kc hB1 (cell_new (X := w) rfl rfl)
  have HB1 := Lib.hid (go (bdrewN (box_below _ _) _) hB1)
  have hwl : w.heap.size < w1.heap.size := lt_of_cell p7
  clear hB1 a0 a4 a6 t2 t3 t4 hl0
  go_wp2
  obtain ⟨w2, hw2⟩ : ∃ w2, w1.alloc (.cells #[.int .i64 0, .int .i64 pa, .int .i64 16] 174) = w2 := ⟨_, rfl⟩
  rw [hw2]
  have m1 : w2.cell? ⟨w1.heap.size, 1, none⟩ = some (.int .i64 pa) := by rw [← hw2]; exact cell_new rfl rfl
  have m2 : w2.cell? ⟨w1.heap.size, 2, none⟩ = some (.int .i64 16) := by rw [← hw2]; exact cell_new rfl rfl
  have p72 : w2.cell? ⟨w.heap.size, 7, none⟩ = some (.slice Ap parts.length cpp) := by rw [← hw2]; exact kc (box_below _ _) p7
  have HB2 := Lib.hid (show Below w.heap.size w w2 from by rw [← hw2]; exact balloc HB1.out _)
  clear p7 hw2
  go_loopw [51] (fun iv wr => ∃ k : Nat, k ≤ parts.length ∧ iv = .int .i64 (k : Int) ∧ Hid (∀ p ∈ parts.take k, PartOk pa p) ∧ Below w2.heap.size w2 wr) (fun iv _ => parts.length - (RowKit.intOf iv).toNat)
  case atStart => exact ⟨0, Nat.zero_le _, rfl, Lib.hid (by simp), Below.refl _ _⟩
  case round =>
    obtain ⟨k, hk, rfl, hq, hB⟩ := hrel
    by_cases hlt : k < parts.length
    · have hlt' : (k : Int) < parts.length := by omega
      obtain ⟨p, hpk⟩ : ∃ p, parts[k]? = some p := ⟨_, List.getElem?_eq_getElem hlt⟩
      obtain ⟨b, o, cq, eq, q0, q1⟩ := part_at (HPT.out wr (Kp.of_below (go HB2.out hB))) hpk
      simp only [Value.slice.injEq] at eq
      obtain ⟨rfl, -, rfl⟩ := eq
      have n1 := kc (box_below wr (.cells #[.int .i64 p.1, .int .i64 p.2] 75)) (kc hB m1)
      have n2 := kc (box_below wr (.cells #[.int .i64 p.1, .int .i64 p.2] 75)) (kc hB m2)
      have HPK := Lib.hid hpk
      have HBAD := Lib.hid (show ¬ PartOk pa p → ∀ X, Below w.heap.size w X → JobPost w cb c U tv fv lm jv fl i (ackJ pa ⟨kind, (i : Int), catt, cnum, wk, rd, kp, parts⟩ x.j) (.returned (.int .i64 1)) X from fun hb X hX => by
        rw [HK.out, if_pos ⟨p, List.mem_of_getElem? hpk, hb⟩]
        exact HS.out X hX 1)
      have HGO := Lib.hid (show PartOk pa p → ∀ p ∈ parts.take (k + 1), PartOk pa p from fun hg y hy => by
        rw [List.take_add_one, hpk] at hy
        rcases List.mem_append.1 hy with hy | hy
        · exact hq.out y hy
        · obtain rfl : y = p := by simpa using hy
          exact hg)
      have HBB := Lib.hid (go HB2.out hB)
      obtain ⟨p1, p2⟩ := p
      simp only at q0 q1 n1 n2
      clear hpk
      by_cases b1 : p1 < 1
      · have s1 : decide (p1 < 1) = true := by simpa using b1
        go_wp2
        go_quiet (fail)
        go_wp2
        go_ret
        exact HBAD.out (by unfold PartOk; simp only; omega) _ (bdrewN (balloc HBB.out _) _)
      have s1 : decide (p1 < 1) = false := by simpa using b1
      by_cases b2 : 2 < p1
      · have s2 : decide (2 < p1) = true := by simpa using b2
        go_wp2
        go_quiet (fail)
        go_wp2
        go_ret
        exact HBAD.out (by unfold PartOk; simp only; omega) _ (bdrewN (balloc HBB.out _) _)
      have s2 : decide (2 < p1) = false := by simpa using b2
      by_cases b3 : p2 < 0
      · have s3 : decide (p2 < 0) = true := by simpa using b3
        go_wp2
        go_quiet (fail)
        go_wp2
        go_ret
        exact HBAD.out (by unfold PartOk; simp only; omega) _ (bdrewN (balloc HBB.out _) _)
      have s3 : decide (p2 < 0) = false := by simpa using b3
      have hp12 : p1 = 1 ∨ p1 = 2 := by omega
      clear b1 b2 s1 s2
      rcases hp12 with rfl | rfl
      · by_cases b4 : pa ≤ p2
        · have s4 : decide (pa ≤ p2) = true := by simpa using b4
          go_wp2
          go_quiet (fail)
          go_wp2
          go_ret
          exact HBAD.out (by unfold PartOk; simp only; omega) _ (bdrewN (balloc HBB.out _) _)
        · have s4 : decide (pa ≤ p2) = false := by simpa using b4
          go_wp2
          go_quiet (fail)
          go_wp2
          go_roundw
          case rel => exact ⟨k + 1, by omega, by go_num, Lib.hid (HGO.out (.inl ⟨rfl, by simp only; omega, by simp only; omega⟩)), bdrewN (balloc hB _) _⟩
          case measure => simp [RowKit.intOf]; omega
      · by_cases b4 : 16 ≤ p2
        · have s4 : decide (16 ≤ p2) = true := by simpa using b4
          go_wp2
          go_quiet (fail)
          go_wp2
          go_ret
          exact HBAD.out (by unfold PartOk; simp only; omega) _ (bdrewN (balloc HBB.out _) _)
        · have s4 : decide (16 ≤ p2) = false := by simpa using b4
          go_wp2
          go_quiet (fail)
          go_wp2
          go_roundw
          case rel => exact ⟨k + 1, by omega, by go_num, Lib.hid (HGO.out (.inr ⟨rfl, by simp only; omega, by simp only; omega⟩)), bdrewN (balloc hB _) _⟩
          case measure => simp [RowKit.intOf]; omega
    · obtain rfl : k = parts.length := by omega
      have hlt' : ¬ (parts.length : Int) < parts.length := by omega
      have hall := hq.out
      rw [List.take_length] at hall
      have HALL := Lib.hid hall
      clear hq hall
      have hmm := @run_makeMap Tryz.prog
      have qm := fun (w : World) (r : Option Nat) => run_eql_map_nil (P := Tryz.prog) w 120 _ _ r Tryz.underlying120
      have BR := Lib.hid (go HB2.out hB)
      have r7 : wr.cell? ⟨w.heap.size, 7, none⟩ = some (.slice Ap parts.length cpp) := kc hB p72
      have rm1 := kc hB m1
      have rm2 := kc hB m2
      have hwr : w1.heap.size < wr.heap.size := by
        have := lt_of_cell rm1
        exact this
      have HBR := Lib.hid (HBX.out.block (BR.out.block x.b hxb))
      have HAR := Lib.hid (HAK.out.block (w' := wr) (fun m hm => BR.out.block m (HLT.out m (HMO.out m (.inr hm)))))
      have hmoU := Lib.hid (show ∀ m, x.mo = some m → m < w.heap.size from fun m hm => HLT.out m (HMO.out m (.inr hm)))
      clear m1 m2 p72 hB
      obtain ⟨mo, hmo⟩ : ∃ mo, x.mo = mo := ⟨_, rfl⟩
      rw [hmo] at HBR HAR
      have HMOE := Lib.hid hmo
      clear hmo
      rcases mo with _ | m
      · have c7n : wr.cell? ⟨x.b, 7, none⟩ = some (.map none) := JobBox.cell HBR.out rfl
        have f7n : wr.frozen? ⟨x.b, 7, none⟩ = false := JobBox.frozen HBR.out 7
        have c7m := kc (box_below wr (.map #[] 0)) c7n
        have f7m := kf (box_below wr (.map #[] 0)) c7n f7n
        have r7m := kc (box_below wr (.map #[] 0)) r7
        go_wp2
        obtain ⟨m, hm⟩ : ∃ m, wr.heap.size = m := ⟨_, rfl⟩
        obtain ⟨w3, hw3⟩ : ∃ w3, (wr.alloc (.map #[] 0)).setCell ⟨x.b, 7, none⟩ (.map (some m)) = w3 := ⟨_, rfl⟩
        rw [hm, hw3]
        have hbm : x.b ≠ m := by omega
        have h3 : (wr.alloc (.map #[] 0)).heap[x.b]? = wr.heap[x.b]? := Below.heap_alloc _ _ _ (by omega)
        have HB3 := Lib.hid (show JobBox w3 x.b x.j x.pv (some m) from by
          rw [← hw3]
          exact (set_cell_heap _ (h3.trans HBR.out)).trans (by simp [jobCells]))
        have HM3 := Lib.hid (show PartMap w3 m (addP x.j.acked (parts.take 0)) from by
          have e : x.j.acked = [] := HAR.out
          rw [e]
          have := partMap_made wr
          rw [hm] at this
          rw [← hw3]
          exact this.block (Below.heap_setCell _ _ _ _ (fun e => hbm (by simpa using e.symm))))
        have HK3 := Lib.hid (show Kp (AckV x) w w3 from by
          rw [← hw3]
          exact (Kp.of_below (U := AckV x) (balloc BR.out (.map #[] 0))).trans (Kp.of_but (U := AckV x) ((But.refl x.b _).setCell 7 _) (.inl rfl)) (fun _ _ e => e))
        have HN3 := Lib.hid (show w3.cell? ⟨w1.heap.size, 1, none⟩ = some (.int .i64 pa) ∧ w3.cell? ⟨w1.heap.size, 2, none⟩ = some (.int .i64 16) from by
          rw [← hw3]
          exact ⟨(World.cell?_setCell_other _ _ _ _ (by simp)).trans (kc (box_below _ _) rm1), (World.cell?_setCell_other _ _ _ _ (by simp)).trans (kc (box_below _ _) rm2)⟩)
        have HV := Lib.hid (show x.mo = some m ∨ w.heap.size ≤ m from .inr (by omega))
        have hml3 : m < w3.heap.size := by rw [← hw3]; simp [World.setCell]; omega
        have ham : w1.heap.size ≠ m := by omega
        have ham2 : w1.heap.size ≠ x.b := by omega
        clear c7n f7n c7m f7m r7m r7 rm1 rm2 hw3 h3 HBR HAR HMOE BR

        have hmapT := Tryz.underlying120
        go_loopw [90] (fun iv wr => ∃ k : Nat, k ≤ parts.length ∧ iv = .int .i64 (k : Int) ∧ Hid (JobBox wr x.b x.j x.pv (some m)) ∧ Hid (PartMap wr m (addP x.j.acked (parts.take k))) ∧ Hid (Kp (AckV x) w wr) ∧ Hid (w3.heap.size ≤ wr.heap.size) ∧ Hid (wr.cell? ⟨w1.heap.size, 1, none⟩ = some (.int .i64 pa) ∧ wr.cell? ⟨w1.heap.size, 2, none⟩ = some (.int .i64 16))) (fun iv _ => parts.length - (RowKit.intOf iv).toNat)
        case atStart => exact ⟨0, Nat.zero_le _, rfl, HB3, HM3, HK3, Lib.hid (Nat.le_refl _), HN3⟩
        case round =>
          obtain ⟨k, hk, rfl, hbx, hpm, hkp, hsz, hnn⟩ := hrel
          by_cases hlt : k < parts.length
          · have hlt' : (k : Int) < parts.length := by omega
            obtain ⟨p, hpk⟩ : ∃ p, parts[k]? = some p := ⟨_, List.getElem?_eq_getElem hlt⟩
            have hok := HALL.out p (List.mem_of_getElem? hpk)
            obtain ⟨lit, hlit⟩ := partKey (p := p) (by unfold PartOk at hok ⊢; omega)
            obtain ⟨b, o, cq, eq, q0, q1⟩ := part_at (HPT.out wr (hkp.out.mono HMO.out)) hpk
            simp only [Value.slice.injEq] at eq
            obtain ⟨rfl, -, rfl⟩ := eq
            obtain ⟨f, hmk, hf1, hf2⟩ := hpm.out
            obtain ⟨cn, hcn⟩ := part_get hf1 hf2 p
            have htk : addP x.j.acked (parts.take (k + 1)) = insP p (addP x.j.acked (parts.take k)) := by rw [List.take_add_one, hpk]; exact addP_snoc _ _ _
            have HTK := Lib.hid htk
            have j7 : wr.cell? ⟨x.b, 7, none⟩ = some (.map (some m)) := JobBox.cell hbx.out rfl
            have szq := hsz.out
            obtain ⟨p1, p2⟩ := p
            simp only at q0 q1
            have e7 := kc (box_below wr (.cells #[.int .i64 p1, .int .i64 p2] 75)) j7
            have e0 : (wr.alloc (.cells #[.int .i64 p1, .int .i64 p2] 75)).cell? ⟨wr.heap.size, 0, none⟩ = some (.int .i64 p1) := cell_new rfl rfl
            have e1 : (wr.alloc (.cells #[.int .i64 p1, .int .i64 p2] 75)).cell? ⟨wr.heap.size, 1, none⟩ = some (.int .i64 p2) := cell_new rfl rfl
            have HMK := Lib.hid (hmk.block (w' := wr.alloc (.cells #[.int .i64 p1, .int .i64 p2] 75)) (Below.heap_alloc _ _ m hmk.lt))
            have hbxlt := hbx.out.lt
            have hmlt := hmk.lt
            have HF1 := Lib.hid hf1
            have HF2 := Lib.hid hf2
            have HCN := Lib.hid hcn
            have HLIT := Lib.hid hlit
            -- what the round leaves
            have HEND := Lib.hid (show ∀ (W : World) (cn2 : Int), MapK Tryz.prog 75 W m (putF f (p1, p2) (.int .i64 cn2)) → But m (wr.alloc (.cells #[.int .i64 p1, .int .i64 p2] 75)) W →
                JobBox W x.b x.j x.pv (some m) ∧ PartMap W m (addP x.j.acked (parts.take (k + 1))) ∧ Kp (AckV x) w W ∧ w3.heap.size ≤ W.heap.size ∧ W.cell? ⟨w1.heap.size, 1, none⟩ = some (.int .i64 pa) ∧ W.cell? ⟨w1.heap.size, 2, none⟩ = some (.int .i64 16) from by
              intro W cn2 hW hbt
              have hsz2 : wr.heap.size < W.heap.size := by
                have := hbt.size
                simp at this
                omega
              refine ⟨(hbx.out.block (Below.heap_alloc _ _ x.b hbxlt)).block (hbt.block x.b (by simp; omega) (fun e => hbm (Option.some.inj e))), ?_, ?_, by omega, hbt.cell (by simpa using ham) (kc (box_below _ _) hnn.out.1), hbt.cell (by simpa using ham) (kc (box_below _ _) hnn.out.2)⟩
              · rw [htk]
                exact partMap_put hW hf1 hf2 (putF_same _ _ _) (fun y hy => putF_other _ _ _ hy)
              · refine ⟨hbt.os.trans hkp.out.os, hbt.tape.trans hkp.out.tape, hbt.output.trans hkp.out.output, by have := hkp.out.size; omega, fun q hq1 hq2 => ?_⟩
                have hqs := Nat.lt_of_lt_of_le hq1 hkp.out.size
                refine (hbt.block q (by simp; omega) (fun e => ?_)).trans ((Below.heap_alloc _ _ q hqs).trans (hkp.out.block q hq1 hq2))
                have e := Option.some.inj e
                rcases HV.out with h | h
                · exact hq2 (.inr (by rw [h, ← e]))
                · omega)
            clear hmk hf1 hf2 hcn htk hlit hpk j7 hbx hpm hkp hnn hok
            go_wp2
            obtain ⟨W, hW⟩ : ∃ W, (wr.alloc (.cells #[.int .i64 p1, .int .i64 p2] 75)).drew = W := ⟨_, rfl⟩
            have HMW := Lib.hid (show MapK Tryz.prog 75 W m f from by rw [← hW]; exact HMK.out)
            have hWs : wr.heap.size < W.heap.size := by rw [← hW]; simp
            have hS0 : (fun X : World => X.cell? ⟨x.b, 7, none⟩ = some (.map (some m)) ∧ X.cell? ⟨wr.heap.size, 0, none⟩ = some (.int .i64 p1) ∧ X.cell? ⟨wr.heap.size, 1, none⟩ = some (.int .i64 p2)) W := by rw [← hW]; exact ⟨e7, e0, e1⟩
            have HBW := Lib.hid (show ∀ Y, But m W Y → But m (wr.alloc (.cells #[.int .i64 p1, .int .i64 p2] 75)) Y from fun Y hY => by
              rw [← hW] at hY
              exact ⟨hY.os, hY.tape, hY.output, hY.size, hY.block⟩)
            have hbW : ∀ Y, But m W Y → (fun X : World => X.cell? ⟨x.b, 7, none⟩ = some (.map (some m)) ∧ X.cell? ⟨wr.heap.size, 0, none⟩ = some (.int .i64 p1) ∧ X.cell? ⟨wr.heap.size, 1, none⟩ = some (.int .i64 p2)) Y := fun Y hY => ⟨hY.cell (by simpa using hbm) hS0.1, hY.cell (by simp; omega) hS0.2.1, hY.cell (by simp; omega) hS0.2.2⟩
            have HbW := Lib.hid hbW
            clear hbW e7 e0 e1
            refine region_open (by kernel_rfl) ?_
            rw [hW]
            refine wpAny_of_held (S := (fun X : World => X.cell? ⟨x.b, 7, none⟩ = some (.map (some m)) ∧ X.cell? ⟨wr.heap.size, 0, none⟩ = some (.int .i64 p1) ∧ X.cell? ⟨wr.heap.size, 1, none⟩ = some (.int .i64 p2))) _ _ _ _ ?_
            clear hW
            refine wpAnyH_take (i := 0) (v := ?_) rfl (by kernel_rfl) (by kernel_rfl) (by kernel_rfl) (fun _ _ _ h => h) (Or.inl ⟨by rfl, ?_⟩) hS0 ?_
            rotate_left
            · intro w hSw; (try dsimp only at hSw); go_simp; (first | done | with_reducible rfl)
            simp only [Act.put, List.getElem_toArray, List.getElem_cons_zero, List.setIfInBounds_toArray, List.set_cons_zero, List.set_cons_succ]
            refine wpAnyH_take (i := 1) (v := ?_) rfl (by kernel_rfl) (by kernel_rfl) (by kernel_rfl) (fun _ _ _ h => h) (Or.inl ⟨by rfl, ?_⟩) hS0 ?_
            rotate_left
            · intro w hSw; (try dsimp only at hSw); go_simp; (first | done | with_reducible rfl)
            simp only [Act.put, List.getElem_toArray, List.getElem_cons_zero, List.getElem_cons_succ, List.setIfInBounds_toArray, List.set_cons_zero, List.set_cons_succ]
            refine wpAnyH_take (i := 2) (v := ?_) rfl (by kernel_rfl) (by kernel_rfl) (by kernel_rfl) (fun _ _ _ h => h) (Or.inl ⟨by rfl, ?_⟩) hS0 ?_
            rotate_left
            · intro w hSw; (try dsimp only at hSw); go_simp; (first | done | with_reducible rfl)
            simp only [Act.put, List.getElem_toArray, List.getElem_cons_zero, List.getElem_cons_succ, List.setIfInBounds_toArray, List.set_cons_zero, List.set_cons_succ]
            refine wpAnyH_take (i := 3) (v := ?_) rfl (by kernel_rfl) (by kernel_rfl) (by kernel_rfl) (fun _ _ _ h => h) (Or.inl ⟨by rfl, ?_⟩) hS0 ?_
            rotate_left
            · intro w hSw; (try dsimp only at hSw); go_simp; (first | done | with_reducible rfl)
            simp only [Act.put, List.getElem_toArray, List.getElem_cons_zero, List.getElem_cons_succ, List.setIfInBounds_toArray, List.set_cons_zero, List.set_cons_succ]
            refine wpAnyH_take (i := 4) (v := ?_) rfl (by kernel_rfl) (by kernel_rfl) (by kernel_rfl) (fun _ _ _ h => h) (Or.inl ⟨by rfl, ?_⟩) hS0 ?_
            rotate_left
            · intro w hSw; (try dsimp only at hSw); go_simp; (first | done | with_reducible rfl)
            simp only [Act.put, List.getElem_toArray, List.getElem_cons_zero, List.getElem_cons_succ, List.setIfInBounds_toArray, List.set_cons_zero, List.set_cons_succ]
            have hlk := (HMW.out.lookup partKeyed hmapT (Tryz.zeroValue3 _) HLIT.out false)
            rw [if_neg (by decide), HCN.out] at hlk
            obtain ⟨v5, born, X5, hent, hE5, hv5, hb5⟩ := HMW.out.entry partKeyed hmapT (Tryz.zeroValue3 _) HLIT.out
            rw [HCN.out] at hv5
            subst hv5
            have hlk5 := hE5.lookup partKeyed hmapT HLIT.out
            obtain ⟨X6, hsto, hM6, hb6⟩ := hE5.store (t := 120) (.int .i64 (IntKind.i64.wrap (cn + 1))) (putF f (p1, p2) (.int .i64 (IntKind.i64.wrap (cn + 1)))) (putF_same _ _ _) (fun _ hy => putF_other _ _ _ hy)
            have hS5 := HbW.out X5 hb5
            have hS6 := HbW.out X6 (hb5.trans hb6)
            have HE6 := Lib.hid (HEND.out X6 _ hM6 (HBW.out _ (hb5.trans hb6)))
            clear hE5 hM6 hb5 hb6
            refine wpAnyH_ready (rs := [5, 7]) (by kernel_rfl) (by simp) ?_
            refine AllReadyH.cons rfl (fun K hK => ?_) (AllReadyH.cons rfl (fun K hK => ?_) AllReadyH.nil)
            · go_simp
              refine hK.out _ _ hS0 (fun hS1 => ?_)
              clear hK K
              try simp only [Act.put, List.setIfInBounds_toArray, List.set_cons_zero, List.set_cons_succ]
              refine wpAnyH_take (i := 6) (v := ?_) rfl (by kernel_rfl) (by kernel_rfl) (by kernel_rfl) (fun _ _ _ h => h) (Or.inl ⟨by rfl, ?_⟩) hS1 ?_
              rotate_left
              · intro w hSw; (try dsimp only at hSw); go_simp; (first | done | with_reducible rfl)
              simp only [Act.put, List.getElem_toArray, List.getElem_cons_zero, List.getElem_cons_succ, List.setIfInBounds_toArray, List.set_cons_zero, List.set_cons_succ]
              refine wpAnyH_ready (rs := [7]) (by kernel_rfl) (by simp) ?_
              refine AllReadyH.cons rfl (fun K hK => ?_) AllReadyH.nil
              go_simp
              refine hK.out _ _ hS5 (fun hS7 => ?_)
              clear hK K
              try simp only [Act.put, List.setIfInBounds_toArray, List.set_cons_zero, List.set_cons_succ]
              refine wpAnyH_take (i := 8) (v := ?_) rfl (by kernel_rfl) (by kernel_rfl) (by kernel_rfl) (fun _ _ _ h => h) (Or.inl ⟨by rfl, ?_⟩) hS7 ?_
              rotate_left
              · intro w hSw; (try dsimp only at hSw); go_simp; (first | done | with_reducible rfl)
              simp only [Act.put, List.getElem_toArray, List.getElem_cons_zero, List.getElem_cons_succ, List.setIfInBounds_toArray, List.set_cons_zero, List.set_cons_succ]
              refine wpAnyH_ready (rs := [9]) (by kernel_rfl) (by simp) ?_
              refine AllReadyH.cons rfl (fun K hK => ?_) AllReadyH.nil
              go_simp
              refine hK.out _ _ hS6 (fun hS8 => ?_)
              clear hK K
              try simp only [Act.put, List.setIfInBounds_toArray, List.set_cons_zero, List.set_cons_succ]
              refine wpAnyH_done (by kernel_rfl) ?_ _
              go_wp2
              go_roundw
              case rel =>
                obtain ⟨g1, g2, g3, g4, g5⟩ := HE6.out
                exact ⟨k + 1, by omega, by go_num, Lib.hid g1, Lib.hid g2, Lib.hid g3, Lib.hid g4, Lib.hid g5⟩
              case measure => simp [RowKit.intOf]; omega
            · go_simp
              refine hK.out _ _ hS5 (fun hS7 => ?_)
              clear hK K
              try simp only [Act.put, List.setIfInBounds_toArray, List.set_cons_zero, List.set_cons_succ]
              refine wpAnyH_take (i := 8) (v := ?_) rfl (by kernel_rfl) (by kernel_rfl) (by kernel_rfl) (fun _ _ _ h => h) (Or.inl ⟨by rfl, ?_⟩) hS7 ?_
              rotate_left
              · intro w hSw; (try dsimp only at hSw); go_simp; (first | done | with_reducible rfl)
              simp only [Act.put, List.getElem_toArray, List.getElem_cons_zero, List.getElem_cons_succ, List.setIfInBounds_toArray, List.set_cons_zero, List.set_cons_succ]
              refine wpAnyH_ready (rs := [5]) (by kernel_rfl) (by simp) ?_
              refine AllReadyH.cons rfl (fun K hK => ?_) AllReadyH.nil
              go_simp
              refine hK.out _ _ hS5 (fun hS8 => ?_)
              clear hK K
              try simp only [Act.put, List.setIfInBounds_toArray, List.set_cons_zero, List.set_cons_succ]
              refine wpAnyH_take (i := 6) (v := ?_) rfl (by kernel_rfl) (by kernel_rfl) (by kernel_rfl) (fun _ _ _ h => h) (Or.inl ⟨by rfl, ?_⟩) hS8 ?_
              rotate_left
              · intro w hSw; (try dsimp only at hSw); go_simp; (first | done | with_reducible rfl)
              simp only [Act.put, List.getElem_toArray, List.getElem_cons_zero, List.getElem_cons_succ, List.setIfInBounds_toArray, List.set_cons_zero, List.set_cons_succ]
              refine wpAnyH_ready (rs := [9]) (by kernel_rfl) (by simp) ?_
              refine AllReadyH.cons rfl (fun K hK => ?_) AllReadyH.nil
              go_simp
              refine hK.out _ _ hS6 (fun hS9 => ?_)
              clear hK K
              try simp only [Act.put, List.setIfInBounds_toArray, List.set_cons_zero, List.set_cons_succ]
              refine wpAnyH_done (by kernel_rfl) ?_ _
              go_wp2
              go_roundw
              case rel =>
                obtain ⟨g1, g2, g3, g4, g5⟩ := HE6.out
                exact ⟨k + 1, by omega, by go_num, Lib.hid g1, Lib.hid g2, Lib.hid g3, Lib.hid g4, Lib.hid g5⟩
              case measure => simp [RowKit.intOf]; omega
          · obtain rfl : k = parts.length := by omega
            have hlt' : ¬ (parts.length : Int) < parts.length := by omega
            have hL := hpm.out
            rw [List.take_length] at hL
            have hsort : (addP x.j.acked parts).Pairwise PLt := addP_sorted _ _ HJ.out.sorted
            obtain ⟨LL, hLL⟩ : ∃ LL, addP x.j.acked parts = LL := ⟨_, rfl⟩
            rw [hLL] at hL hsort
            obtain ⟨N, hN⟩ : ∃ N, LL.length = N := ⟨_, rfl⟩
            obtain ⟨W, hW⟩ : ∃ W, wr.drew = W := ⟨_, rfl⟩
            have hbW : JobBox W x.b x.j x.pv (some m) := by rw [← hW]; exact hbx.out
            have hmW : PartMap W m LL := by rw [← hW]; exact hL
            have hkW : Kp (AckV x) w W := by rw [← hW]; exact hkp.out.drewN 1
            obtain ⟨-, -, -, j3, j4, -, -, j7, jf⟩ := hbW.cells
            have hlen := partMap_len hmW hsort 3
            rw [hN] at hlen
            have hS0 : (fun X : World => X.cell? ⟨x.b, 7, none⟩ = some (.map (some m)) ∧ X.cell? ⟨w1.heap.size, 1, none⟩ = some (.int .i64 pa) ∧ X.cell? ⟨w1.heap.size, 2, none⟩ = some (.int .i64 16) ∧ (Builtin.len_ #[120] 3 #[.map (some m)]).run Tryz.prog X = .ok (.int .i64 (N : Int)) X) W := ⟨j7, by rw [← hW]; exact hnn.out.1, by rw [← hW]; exact hnn.out.2, hlen⟩
            have hw16 : IntKind.i64.wrap (pa + 16) = pa + 16 := by simp [IntKind.wrap, IntKind.bits, IntKind.signed]; omega
            have HKE := Lib.hid (show ackJ pa ⟨kind, (i : Int), catt, cnum, wk, rd, kp, parts⟩ x.j = if (N : Int) = pa + 16 then ({ x.j with done := x.j.num, num := 0, acked := [] }, 0) else ({ x.j with acked := LL }, 0) from by
              rw [HK.out, if_neg (fun ⟨p, h1, h2⟩ => h2 (HALL.out p h1)), hLL, hN])
            have HBW := Lib.hid hbW
            have HMW := Lib.hid hmW
            have HKW := Lib.hid hkW
            have j3f := jf 3
            have j4f := jf 4
            have j7f := jf 7
            have hmWl : m < W.heap.size := by
              obtain ⟨f, hf, _⟩ := hmW
              exact hf.lt
            clear hL hsort hbW hmW hkW hlen jf hpm hbx hkp hnn hLL hN
            go_wp2
            refine region_open (by kernel_rfl) ?_
            rw [hW]
            refine wpAny_of_held (S := (fun X : World => X.cell? ⟨x.b, 7, none⟩ = some (.map (some m)) ∧ X.cell? ⟨w1.heap.size, 1, none⟩ = some (.int .i64 pa) ∧ X.cell? ⟨w1.heap.size, 2, none⟩ = some (.int .i64 16) ∧ (Builtin.len_ #[120] 3 #[.map (some m)]).run Tryz.prog X = .ok (.int .i64 (N : Int)) X)) _ _ _ _ ?_
            clear hW
            refine wpAnyH_take (i := 0) (v := ?_) rfl (by kernel_rfl) (by kernel_rfl) (by kernel_rfl) (fun _ _ _ h => h) (Or.inl ⟨by rfl, ?_⟩) hS0 ?_
            rotate_left
            · intro w hSw; (try dsimp only at hSw); go_simp; (first | done | with_reducible rfl)
            simp only [Act.put, List.getElem_toArray, List.getElem_cons_zero, List.setIfInBounds_toArray, List.set_cons_zero, List.set_cons_succ]
            refine wpAnyH_take (i := 1) (v := ?_) rfl (by kernel_rfl) (by kernel_rfl) (by kernel_rfl) (fun _ _ _ h => h) (Or.inl ⟨by rfl, ?_⟩) hS0 ?_
            rotate_left
            · intro w hSw; (try dsimp only at hSw); go_simp; (first | done | with_reducible rfl)
            simp only [Act.put, List.getElem_toArray, List.getElem_cons_zero, List.getElem_cons_succ, List.setIfInBounds_toArray, List.set_cons_zero, List.set_cons_succ]
            refine wpAnyH_take (i := 2) (v := ?_) rfl (by kernel_rfl) (by kernel_rfl) (by kernel_rfl) (fun _ _ _ h => h) (Or.inl ⟨by rfl, ?_⟩) hS0 ?_
            rotate_left
            · intro w hSw; (try dsimp only at hSw); go_simp; (first | done | with_reducible rfl)
            simp only [Act.put, List.getElem_toArray, List.getElem_cons_zero, List.getElem_cons_succ, List.setIfInBounds_toArray, List.set_cons_zero, List.set_cons_succ]
            refine wpAnyH_take (i := 3) (v := ?_) rfl (by kernel_rfl) (by kernel_rfl) (by kernel_rfl) (fun _ _ _ h => h) (Or.inl ⟨by rfl, ?_⟩) hS0 ?_
            rotate_left
            · intro w hSw; (try dsimp only at hSw); go_simp; (first | done | with_reducible rfl)
            simp only [Act.put, List.getElem_toArray, List.getElem_cons_zero, List.getElem_cons_succ, List.setIfInBounds_toArray, List.set_cons_zero, List.set_cons_succ]
            refine wpAnyH_take (i := 4) (v := ?_) rfl (by kernel_rfl) (by kernel_rfl) (by kernel_rfl) (fun _ _ _ h => h) (Or.inl ⟨by rfl, ?_⟩) hS0 ?_
            rotate_left
            · intro w hSw; (try dsimp only at hSw); go_simp; (first | done | with_reducible rfl)
            simp only [Act.put, List.getElem_toArray, List.getElem_cons_zero, List.getElem_cons_succ, List.setIfInBounds_toArray, List.set_cons_zero, List.set_cons_succ]
            refine wpAnyH_take (i := 5) (v := ?_) rfl (by kernel_rfl) (by kernel_rfl) (by kernel_rfl) (fun _ _ _ h => h) (Or.inl ⟨by rfl, ?_⟩) hS0 ?_
            rotate_left
            · intro w hSw; (try dsimp only at hSw); go_simp; (first | done | with_reducible rfl)
            simp only [Act.put, List.getElem_toArray, List.getElem_cons_zero, List.getElem_cons_succ, List.setIfInBounds_toArray, List.set_cons_zero, List.set_cons_succ]
            refine wpAnyH_take (i := 6) (v := ?_) rfl (by kernel_rfl) (by kernel_rfl) (by kernel_rfl) (fun _ _ _ h => h) (Or.inl ⟨by rfl, ?_⟩) hS0 ?_
            rotate_left
            · intro w hSw; (try dsimp only at hSw); go_simp; (first | done | with_reducible rfl)
            simp only [Act.put, List.getElem_toArray, List.getElem_cons_zero, List.getElem_cons_succ, List.setIfInBounds_toArray, List.set_cons_zero, List.set_cons_succ]
            refine wpAnyH_take (i := 7) (v := ?_) rfl (by kernel_rfl) (by kernel_rfl) (by kernel_rfl) (fun _ _ _ h => h) (Or.inl ⟨by rfl, ?_⟩) hS0 ?_
            rotate_left
            · intro w hSw; (try dsimp only at hSw); go_simp; (first | done | with_reducible rfl)
            simp only [Act.put, List.getElem_toArray, List.getElem_cons_zero, List.getElem_cons_succ, List.setIfInBounds_toArray, List.set_cons_zero, List.set_cons_succ]
            refine wpAnyH_take (i := 8) (v := ?_) rfl (by kernel_rfl) (by kernel_rfl) (by kernel_rfl) (fun _ _ _ h => h) (Or.inl ⟨by rfl, ?_⟩) hS0 ?_
            rotate_left
            · intro w hSw; (try dsimp only at hSw); go_simp; (first | done | with_reducible rfl)
            simp only [Act.put, List.getElem_toArray, List.getElem_cons_zero, List.getElem_cons_succ, List.setIfInBounds_toArray, List.set_cons_zero, List.set_cons_succ]
            refine wpAnyH_take (i := 9) (v := ?_) rfl (by kernel_rfl) (by kernel_rfl) (by kernel_rfl) (fun _ _ _ h => h) (Or.inl ⟨by rfl, ?_⟩) hS0 ?_
            rotate_left
            · intro w hSw; (try dsimp only at hSw); go_simp; (first | done | with_reducible rfl)
            simp only [Act.put, List.getElem_toArray, List.getElem_cons_zero, List.getElem_cons_succ, List.setIfInBounds_toArray, List.set_cons_zero, List.set_cons_succ]
            refine wpAnyH_take (i := 10) (v := ?_) rfl (by kernel_rfl) (by kernel_rfl) (by kernel_rfl) (fun _ _ _ h => h) (Or.inl ⟨by rfl, ?_⟩) hS0 ?_
            rotate_left
            · intro w hSw; (try dsimp only at hSw); go_simp; (first | done | with_reducible rfl)
            simp only [Act.put, List.getElem_toArray, List.getElem_cons_zero, List.getElem_cons_succ, List.setIfInBounds_toArray, List.set_cons_zero, List.set_cons_succ]
            refine wpAnyH_done (by kernel_rfl) ?_ _
            by_cases hful : (N : Int) = pa + 16
            · have tf : ((N : Int) == pa + 16) = true := by simpa using hful
              have HFUL := Lib.hid hful
              clear hful
              go_wp2
              go_ret
              rw [HKE.out, if_pos HFUL.out]
              refine HA.out _ ?_ { x.j with done := x.j.num, num := 0, acked := [] } none ?_ rfl (.inr (.inl rfl)) rfl 0
              · exact HKW.out.trans (Kp.of_but (U := AckV x) ((((But.refl x.b W).setCell 3 _).setCell 4 _).setCell 7 _) (.inl rfl)) (fun _ _ e => e)
              · exact (set_cell_heap _ (set_cell_heap _ (set_cell_heap _ HBW.out))).trans (by simp [jobCells])
            · have tf : ((N : Int) == pa + 16) = false := by simpa using hful
              have HFUL := Lib.hid hful
              clear hful
              go_wp2
              go_ret
              rw [HKE.out, if_neg HFUL.out]
              exact HA.out W HKW.out { x.j with acked := LL } (some m) HBW.out rfl (HV.out.elim (fun e => .inl e.symm) (fun e => .inr (.inr ⟨m, rfl, e, hmWl⟩))) HMW.out 0
      · have c7n : wr.cell? ⟨x.b, 7, none⟩ = some (.map (some m)) := JobBox.cell HBR.out rfl
        go_wp2
        have hmw := hmoU.out m HMOE.out
        obtain ⟨w3, hw3⟩ : ∃ w3, wr = w3 := ⟨_, rfl⟩
        rw [hw3]
        have HB3 := Lib.hid (show JobBox w3 x.b x.j x.pv (some m) from by rw [← hw3]; exact HBR.out)
        have HM3 := Lib.hid (show PartMap w3 m (addP x.j.acked (parts.take 0)) from by rw [← hw3]; exact HAR.out)
        have HK3 := Lib.hid (show Kp (AckV x) w w3 from by rw [← hw3]; exact Kp.of_below BR.out)
        have HN3 := Lib.hid (show w3.cell? ⟨w1.heap.size, 1, none⟩ = some (.int .i64 pa) ∧ w3.cell? ⟨w1.heap.size, 2, none⟩ = some (.int .i64 16) from by rw [← hw3]; exact ⟨rm1, rm2⟩)
        have HV := Lib.hid (show x.mo = some m ∨ w.heap.size ≤ m from .inl HMOE.out)
        have hml3 : m < w3.heap.size := by rw [← hw3]; omega
        have ham : w1.heap.size ≠ m := by omega
        have ham2 : w1.heap.size ≠ x.b := by omega
        have hbm : x.b ≠ m := box_ne_map HB3.out HM3.out
        clear c7n r7 rm1 rm2 hw3 HBR HAR HMOE BR hwr

        have hmapT := Tryz.underlying120
        go_loopw [90] (fun iv wr => ∃ k : Nat, k ≤ parts.length ∧ iv = .int .i64 (k : Int) ∧ Hid (JobBox wr x.b x.j x.pv (some m)) ∧ Hid (PartMap wr m (addP x.j.acked (parts.take k))) ∧ Hid (Kp (AckV x) w wr) ∧ Hid (w3.heap.size ≤ wr.heap.size) ∧ Hid (wr.cell? ⟨w1.heap.size, 1, none⟩ = some (.int .i64 pa) ∧ wr.cell? ⟨w1.heap.size, 2, none⟩ = some (.int .i64 16))) (fun iv _ => parts.length - (RowKit.intOf iv).toNat)
        case atStart => exact ⟨0, Nat.zero_le _, rfl, HB3, HM3, HK3, Lib.hid (Nat.le_refl _), HN3⟩
        case round =>
          obtain ⟨k, hk, rfl, hbx, hpm, hkp, hsz, hnn⟩ := hrel
          by_cases hlt : k < parts.length
          · have hlt' : (k : Int) < parts.length := by omega
            obtain ⟨p, hpk⟩ : ∃ p, parts[k]? = some p := ⟨_, List.getElem?_eq_getElem hlt⟩
            have hok := HALL.out p (List.mem_of_getElem? hpk)
            obtain ⟨lit, hlit⟩ := partKey (p := p) (by unfold PartOk at hok ⊢; omega)
            obtain ⟨b, o, cq, eq, q0, q1⟩ := part_at (HPT.out wr (hkp.out.mono HMO.out)) hpk
            simp only [Value.slice.injEq] at eq
            obtain ⟨rfl, -, rfl⟩ := eq
            obtain ⟨f, hmk, hf1, hf2⟩ := hpm.out
            obtain ⟨cn, hcn⟩ := part_get hf1 hf2 p
            have htk : addP x.j.acked (parts.take (k + 1)) = insP p (addP x.j.acked (parts.take k)) := by rw [List.take_add_one, hpk]; exact addP_snoc _ _ _
            have HTK := Lib.hid htk
            have j7 : wr.cell? ⟨x.b, 7, none⟩ = some (.map (some m)) := JobBox.cell hbx.out rfl
            have szq := hsz.out
            obtain ⟨p1, p2⟩ := p
            simp only at q0 q1
            have e7 := kc (box_below wr (.cells #[.int .i64 p1, .int .i64 p2] 75)) j7
            have e0 : (wr.alloc (.cells #[.int .i64 p1, .int .i64 p2] 75)).cell? ⟨wr.heap.size, 0, none⟩ = some (.int .i64 p1) := cell_new rfl rfl
            have e1 : (wr.alloc (.cells #[.int .i64 p1, .int .i64 p2] 75)).cell? ⟨wr.heap.size, 1, none⟩ = some (.int .i64 p2) := cell_new rfl rfl
            have HMK := Lib.hid (hmk.block (w' := wr.alloc (.cells #[.int .i64 p1, .int .i64 p2] 75)) (Below.heap_alloc _ _ m hmk.lt))
            have hbxlt := hbx.out.lt
            have hmlt := hmk.lt
            have HF1 := Lib.hid hf1
            have HF2 := Lib.hid hf2
            have HCN := Lib.hid hcn
            have HLIT := Lib.hid hlit
            -- what the round leaves
            have HEND := Lib.hid (show ∀ (W : World) (cn2 : Int), MapK Tryz.prog 75 W m (putF f (p1, p2) (.int .i64 cn2)) → But m (wr.alloc (.cells #[.int .i64 p1, .int .i64 p2] 75)) W →
                JobBox W x.b x.j x.pv (some m) ∧ PartMap W m (addP x.j.acked (parts.take (k + 1))) ∧ Kp (AckV x) w W ∧ w3.heap.size ≤ W.heap.size ∧ W.cell? ⟨w1.heap.size, 1, none⟩ = some (.int .i64 pa) ∧ W.cell? ⟨w1.heap.size, 2, none⟩ = some (.int .i64 16) from by
              intro W cn2 hW hbt
              have hsz2 : wr.heap.size < W.heap.size := by
                have := hbt.size
                simp at this
                omega
              refine ⟨(hbx.out.block (Below.heap_alloc _ _ x.b hbxlt)).block (hbt.block x.b (by simp; omega) (fun e => hbm (Option.some.inj e))), ?_, ?_, by omega, hbt.cell (by simpa using ham) (kc (box_below _ _) hnn.out.1), hbt.cell (by simpa using ham) (kc (box_below _ _) hnn.out.2)⟩
              · rw [htk]
                exact partMap_put hW hf1 hf2 (putF_same _ _ _) (fun y hy => putF_other _ _ _ hy)
              · refine ⟨hbt.os.trans hkp.out.os, hbt.tape.trans hkp.out.tape, hbt.output.trans hkp.out.output, by have := hkp.out.size; omega, fun q hq1 hq2 => ?_⟩
                have hqs := Nat.lt_of_lt_of_le hq1 hkp.out.size
                refine (hbt.block q (by simp; omega) (fun e => ?_)).trans ((Below.heap_alloc _ _ q hqs).trans (hkp.out.block q hq1 hq2))
                have e := Option.some.inj e
                rcases HV.out with h | h
                · exact hq2 (.inr (by rw [h, ← e]))
                · omega)
            clear hmk hf1 hf2 hcn htk hlit hpk j7 hbx hpm hkp hnn hok
            go_wp2
            obtain ⟨W, hW⟩ : ∃ W, (wr.alloc (.cells #[.int .i64 p1, .int .i64 p2] 75)).drew = W := ⟨_, rfl⟩
            have HMW := Lib.hid (show MapK Tryz.prog 75 W m f from by rw [← hW]; exact HMK.out)
            have hWs : wr.heap.size < W.heap.size := by rw [← hW]; simp
            have hS0 : (fun X : World => X.cell? ⟨x.b, 7, none⟩ = some (.map (some m)) ∧ X.cell? ⟨wr.heap.size, 0, none⟩ = some (.int .i64 p1) ∧ X.cell? ⟨wr.heap.size, 1, none⟩ = some (.int .i64 p2)) W := by rw [← hW]; exact ⟨e7, e0, e1⟩
            have HBW := Lib.hid (show ∀ Y, But m W Y → But m (wr.alloc (.cells #[.int .i64 p1, .int .i64 p2] 75)) Y from fun Y hY => by
              rw [← hW] at hY
              exact ⟨hY.os, hY.tape, hY.output, hY.size, hY.block⟩)
            have hbW : ∀ Y, But m W Y → (fun X : World => X.cell? ⟨x.b, 7, none⟩ = some (.map (some m)) ∧ X.cell? ⟨wr.heap.size, 0, none⟩ = some (.int .i64 p1) ∧ X.cell? ⟨wr.heap.size, 1, none⟩ = some (.int .i64 p2)) Y := fun Y hY => ⟨hY.cell (by simpa using hbm) hS0.1, hY.cell (by simp; omega) hS0.2.1, hY.cell (by simp; omega) hS0.2.2⟩
            have HbW := Lib.hid hbW
            clear hbW e7 e0 e1
            refine region_open (by kernel_rfl) ?_
            rw [hW]
            refine wpAny_of_held (S := (fun X : World => X.cell? ⟨x.b, 7, none⟩ = some (.map (some m)) ∧ X.cell? ⟨wr.heap.size, 0, none⟩ = some (.int .i64 p1) ∧ X.cell? ⟨wr.heap.size, 1, none⟩ = some (.int .i64 p2))) _ _ _ _ ?_
            clear hW
            refine wpAnyH_take (i := 0) (v := ?_) rfl (by kernel_rfl) (by kernel_rfl) (by kernel_rfl) (fun _ _ _ h => h) (Or.inl ⟨by rfl, ?_⟩) hS0 ?_
            rotate_left
            · intro w hSw; (try dsimp only at hSw); go_simp; (first | done | with_reducible rfl)
            simp only [Act.put, List.getElem_toArray, List.getElem_cons_zero, List.setIfInBounds_toArray, List.set_cons_zero, List.set_cons_succ]
            refine wpAnyH_take (i := 1) (v := ?_) rfl (by kernel_rfl) (by kernel_rfl) (by kernel_rfl) (fun _ _ _ h => h) (Or.inl ⟨by rfl, ?_⟩) hS0 ?_
            rotate_left
            · intro w hSw; (try dsimp only at hSw); go_simp; (first | done | with_reducible rfl)
            simp only [Act.put, List.getElem_toArray, List.getElem_cons_zero, List.getElem_cons_succ, List.setIfInBounds_toArray, List.set_cons_zero, List.set_cons_succ]
            refine wpAnyH_take (i := 2) (v := ?_) rfl (by kernel_rfl) (by kernel_rfl) (by kernel_rfl) (fun _ _ _ h => h) (Or.inl ⟨by rfl, ?_⟩) hS0 ?_
            rotate_left
            · intro w hSw; (try dsimp only at hSw); go_simp; (first | done | with_reducible rfl)
            simp only [Act.put, List.getElem_toArray, List.getElem_cons_zero, List.getElem_cons_succ, List.setIfInBounds_toArray, List.set_cons_zero, List.set_cons_succ]
            refine wpAnyH_take (i := 3) (v := ?_) rfl (by kernel_rfl) (by kernel_rfl) (by kernel_rfl) (fun _ _ _ h => h) (Or.inl ⟨by rfl, ?_⟩) hS0 ?_
            rotate_left
            · intro w hSw; (try dsimp only at hSw); go_simp; (first | done | with_reducible rfl)
            simp only [Act.put, List.getElem_toArray, List.getElem_cons_zero, List.getElem_cons_succ, List.setIfInBounds_toArray, List.set_cons_zero, List.set_cons_succ]
            refine wpAnyH_take (i := 4) (v := ?_) rfl (by kernel_rfl) (by kernel_rfl) (by kernel_rfl) (fun _ _ _ h => h) (Or.inl ⟨by rfl, ?_⟩) hS0 ?_
            rotate_left
            · intro w hSw; (try dsimp only at hSw); go_simp; (first | done | with_reducible rfl)
            simp only [Act.put, List.getElem_toArray, List.getElem_cons_zero, List.getElem_cons_succ, List.setIfInBounds_toArray, List.set_cons_zero, List.set_cons_succ]
            have hlk := (HMW.out.lookup partKeyed hmapT (Tryz.zeroValue3 _) HLIT.out false)
            rw [if_neg (by decide), HCN.out] at hlk
            obtain ⟨v5, born, X5, hent, hE5, hv5, hb5⟩ := HMW.out.entry partKeyed hmapT (Tryz.zeroValue3 _) HLIT.out
            rw [HCN.out] at hv5
            subst hv5
            have hlk5 := hE5.lookup partKeyed hmapT HLIT.out
            obtain ⟨X6, hsto, hM6, hb6⟩ := hE5.store (t := 120) (.int .i64 (IntKind.i64.wrap (cn + 1))) (putF f (p1, p2) (.int .i64 (IntKind.i64.wrap (cn + 1)))) (putF_same _ _ _) (fun _ hy => putF_other _ _ _ hy)
            have hS5 := HbW.out X5 hb5
            have hS6 := HbW.out X6 (hb5.trans hb6)
            have HE6 := Lib.hid (HEND.out X6 _ hM6 (HBW.out _ (hb5.trans hb6)))
            clear hE5 hM6 hb5 hb6
            refine wpAnyH_ready (rs := [5, 7]) (by kernel_rfl) (by simp) ?_
            refine AllReadyH.cons rfl (fun K hK => ?_) (AllReadyH.cons rfl (fun K hK => ?_) AllReadyH.nil)
            · go_simp
              refine hK.out _ _ hS0 (fun hS1 => ?_)
              clear hK K
              try simp only [Act.put, List.setIfInBounds_toArray, List.set_cons_zero, List.set_cons_succ]
              refine wpAnyH_take (i := 6) (v := ?_) rfl (by kernel_rfl) (by kernel_rfl) (by kernel_rfl) (fun _ _ _ h => h) (Or.inl ⟨by rfl, ?_⟩) hS1 ?_
              rotate_left
              · intro w hSw; (try dsimp only at hSw); go_simp; (first | done | with_reducible rfl)
              simp only [Act.put, List.getElem_toArray, List.getElem_cons_zero, List.getElem_cons_succ, List.setIfInBounds_toArray, List.set_cons_zero, List.set_cons_succ]
              refine wpAnyH_ready (rs := [7]) (by kernel_rfl) (by simp) ?_
              refine AllReadyH.cons rfl (fun K hK => ?_) AllReadyH.nil
              go_simp
              refine hK.out _ _ hS5 (fun hS7 => ?_)
              clear hK K
              try simp only [Act.put, List.setIfInBounds_toArray, List.set_cons_zero, List.set_cons_succ]
              refine wpAnyH_take (i := 8) (v := ?_) rfl (by kernel_rfl) (by kernel_rfl) (by kernel_rfl) (fun _ _ _ h => h) (Or.inl ⟨by rfl, ?_⟩) hS7 ?_
              rotate_left
              · intro w hSw; (try dsimp only at hSw); go_simp; (first | done | with_reducible rfl)
              simp only [Act.put, List.getElem_toArray, List.getElem_cons_zero, List.getElem_cons_succ, List.setIfInBounds_toArray, List.set_cons_zero, List.set_cons_succ]
              refine wpAnyH_ready (rs := [9]) (by kernel_rfl) (by simp) ?_
              refine AllReadyH.cons rfl (fun K hK => ?_) AllReadyH.nil
              go_simp
              refine hK.out _ _ hS6 (fun hS8 => ?_)
              clear hK K
              try simp only [Act.put, List.setIfInBounds_toArray, List.set_cons_zero, List.set_cons_succ]
              refine wpAnyH_done (by kernel_rfl) ?_ _
              go_wp2
              go_roundw
              case rel =>
                obtain ⟨g1, g2, g3, g4, g5⟩ := HE6.out
                exact ⟨k + 1, by omega, by go_num, Lib.hid g1, Lib.hid g2, Lib.hid g3, Lib.hid g4, Lib.hid g5⟩
              case measure => simp [RowKit.intOf]; omega
            · go_simp
              refine hK.out _ _ hS5 (fun hS7 => ?_)
              clear hK K
              try simp only [Act.put, List.setIfInBounds_toArray, List.set_cons_zero, List.set_cons_succ]
              refine wpAnyH_take (i := 8) (v := ?_) rfl (by kernel_rfl) (by kernel_rfl) (by kernel_rfl) (fun _ _ _ h => h) (Or.inl ⟨by rfl, ?_⟩) hS7 ?_
              rotate_left
              · intro w hSw; (try dsimp only at hSw); go_simp; (first | done | with_reducible rfl)
              simp only [Act.put, List.getElem_toArray, List.getElem_cons_zero, List.getElem_cons_succ, List.setIfInBounds_toArray, List.set_cons_zero, List.set_cons_succ]
              refine wpAnyH_ready (rs := [5]) (by kernel_rfl) (by simp) ?_
              refine AllReadyH.cons rfl (fun K hK => ?_) AllReadyH.nil
              go_simp
              refine hK.out _ _ hS5 (fun hS8 => ?_)
              clear hK K
              try simp only [Act.put, List.setIfInBounds_toArray, List.set_cons_zero, List.set_cons_succ]
              refine wpAnyH_take (i := 6) (v := ?_) rfl (by kernel_rfl) (by kernel_rfl) (by kernel_rfl) (fun _ _ _ h => h) (Or.inl ⟨by rfl, ?_⟩) hS8 ?_
              rotate_left
              · intro w hSw; (try dsimp only at hSw); go_simp; (first | done | with_reducible rfl)
              simp only [Act.put, List.getElem_toArray, List.getElem_cons_zero, List.getElem_cons_succ, List.setIfInBounds_toArray, List.set_cons_zero, List.set_cons_succ]
              refine wpAnyH_ready (rs := [9]) (by kernel_rfl) (by simp) ?_
              refine AllReadyH.cons rfl (fun K hK => ?_) AllReadyH.nil
              go_simp
              refine hK.out _ _ hS6 (fun hS9 => ?_)
              clear hK K
              try simp only [Act.put, List.setIfInBounds_toArray, List.set_cons_zero, List.set_cons_succ]
              refine wpAnyH_done (by kernel_rfl) ?_ _
              go_wp2
              go_roundw
              case rel =>
                obtain ⟨g1, g2, g3, g4, g5⟩ := HE6.out
                exact ⟨k + 1, by omega, by go_num, Lib.hid g1, Lib.hid g2, Lib.hid g3, Lib.hid g4, Lib.hid g5⟩
              case measure => simp [RowKit.intOf]; omega
          · obtain rfl : k = parts.length := by omega
            have hlt' : ¬ (parts.length : Int) < parts.length := by omega
            have hL := hpm.out
            rw [List.take_length] at hL
            have hsort : (addP x.j.acked parts).Pairwise PLt := addP_sorted _ _ HJ.out.sorted
            obtain ⟨LL, hLL⟩ : ∃ LL, addP x.j.acked parts = LL := ⟨_, rfl⟩
            rw [hLL] at hL hsort
            obtain ⟨N, hN⟩ : ∃ N, LL.length = N := ⟨_, rfl⟩
            obtain ⟨W, hW⟩ : ∃ W, wr.drew = W := ⟨_, rfl⟩
            have hbW : JobBox W x.b x.j x.pv (some m) := by rw [← hW]; exact hbx.out
            have hmW : PartMap W m LL := by rw [← hW]; exact hL
            have hkW : Kp (AckV x) w W := by rw [← hW]; exact hkp.out.drewN 1
            obtain ⟨-, -, -, j3, j4, -, -, j7, jf⟩ := hbW.cells
            have hlen := partMap_len hmW hsort 3
            rw [hN] at hlen
            have hS0 : (fun X : World => X.cell? ⟨x.b, 7, none⟩ = some (.map (some m)) ∧ X.cell? ⟨w1.heap.size, 1, none⟩ = some (.int .i64 pa) ∧ X.cell? ⟨w1.heap.size, 2, none⟩ = some (.int .i64 16) ∧ (Builtin.len_ #[120] 3 #[.map (some m)]).run Tryz.prog X = .ok (.int .i64 (N : Int)) X) W := ⟨j7, by rw [← hW]; exact hnn.out.1, by rw [← hW]; exact hnn.out.2, hlen⟩
            have hw16 : IntKind.i64.wrap (pa + 16) = pa + 16 := by simp [IntKind.wrap, IntKind.bits, IntKind.signed]; omega
            have HKE := Lib.hid (show ackJ pa ⟨kind, (i : Int), catt, cnum, wk, rd, kp, parts⟩ x.j = if (N : Int) = pa + 16 then ({ x.j with done := x.j.num, num := 0, acked := [] }, 0) else ({ x.j with acked := LL }, 0) from by
              rw [HK.out, if_neg (fun ⟨p, h1, h2⟩ => h2 (HALL.out p h1)), hLL, hN])
            have HBW := Lib.hid hbW
            have HMW := Lib.hid hmW
            have HKW := Lib.hid hkW
            have j3f := jf 3
            have j4f := jf 4
            have j7f := jf 7
            have hmWl : m < W.heap.size := by
              obtain ⟨f, hf, _⟩ := hmW
              exact hf.lt
            clear hL hsort hbW hmW hkW hlen jf hpm hbx hkp hnn hLL hN
            go_wp2
            refine region_open (by kernel_rfl) ?_
            rw [hW]
            refine wpAny_of_held (S := (fun X : World => X.cell? ⟨x.b, 7, none⟩ = some (.map (some m)) ∧ X.cell? ⟨w1.heap.size, 1, none⟩ = some (.int .i64 pa) ∧ X.cell? ⟨w1.heap.size, 2, none⟩ = some (.int .i64 16) ∧ (Builtin.len_ #[120] 3 #[.map (some m)]).run Tryz.prog X = .ok (.int .i64 (N : Int)) X)) _ _ _ _ ?_
            clear hW
            refine wpAnyH_take (i := 0) (v := ?_) rfl (by kernel_rfl) (by kernel_rfl) (by kernel_rfl) (fun _ _ _ h => h) (Or.inl ⟨by rfl, ?_⟩) hS0 ?_
            rotate_left
            · intro w hSw; (try dsimp only at hSw); go_simp; (first | done | with_reducible rfl)
            simp only [Act.put, List.getElem_toArray, List.getElem_cons_zero, List.setIfInBounds_toArray, List.set_cons_zero, List.set_cons_succ]
            refine wpAnyH_take (i := 1) (v := ?_) rfl (by kernel_rfl) (by kernel_rfl) (by kernel_rfl) (fun _ _ _ h => h) (Or.inl ⟨by rfl, ?_⟩) hS0 ?_
            rotate_left
            · intro w hSw; (try dsimp only at hSw); go_simp; (first | done | with_reducible rfl)
            simp only [Act.put, List.getElem_toArray, List.getElem_cons_zero, List.getElem_cons_succ, List.setIfInBounds_toArray, List.set_cons_zero, List.set_cons_succ]
            refine wpAnyH_take (i := 2) (v := ?_) rfl (by kernel_rfl) (by kernel_rfl) (by kernel_rfl) (fun _ _ _ h => h) (Or.inl ⟨by rfl, ?_⟩) hS0 ?_
            rotate_left
            · intro w hSw; (try dsimp only at hSw); go_simp; (first | done | with_reducible rfl)
            simp only [Act.put, List.getElem_toArray, List.getElem_cons_zero, List.getElem_cons_succ, List.setIfInBounds_toArray, List.set_cons_zero, List.set_cons_succ]
            refine wpAnyH_take (i := 3) (v := ?_) rfl (by kernel_rfl) (by kernel_rfl) (by kernel_rfl) (fun _ _ _ h => h) (Or.inl ⟨by rfl, ?_⟩) hS0 ?_
            rotate_left
            · intro w hSw; (try dsimp only at hSw); go_simp; (first | done | with_reducible rfl)
            simp only [Act.put, List.getElem_toArray, List.getElem_cons_zero, List.getElem_cons_succ, List.setIfInBounds_toArray, List.set_cons_zero, List.set_cons_succ]
            refine wpAnyH_take (i := 4) (v := ?_) rfl (by kernel_rfl) (by kernel_rfl) (by kernel_rfl) (fun _ _ _ h => h) (Or.inl ⟨by rfl, ?_⟩) hS0 ?_
            rotate_left
            · intro w hSw; (try dsimp only at hSw); go_simp; (first | done | with_reducible rfl)
            simp only [Act.put, List.getElem_toArray, List.getElem_cons_zero, List.getElem_cons_succ, List.setIfInBounds_toArray, List.set_cons_zero, List.set_cons_succ]
            refine wpAnyH_take (i := 5) (v := ?_) rfl (by kernel_rfl) (by kernel_rfl) (by kernel_rfl) (fun _ _ _ h => h) (Or.inl ⟨by rfl, ?_⟩) hS0 ?_
            rotate_left
            · intro w hSw; (try dsimp only at hSw); go_simp; (first | done | with_reducible rfl)
            simp only [Act.put, List.getElem_toArray, List.getElem_cons_zero, List.getElem_cons_succ, List.setIfInBounds_toArray, List.set_cons_zero, List.set_cons_succ]
            refine wpAnyH_take (i := 6) (v := ?_) rfl (by kernel_rfl) (by kernel_rfl) (by kernel_rfl) (fun _ _ _ h => h) (Or.inl ⟨by rfl, ?_⟩) hS0 ?_
            rotate_left
            · intro w hSw; (try dsimp only at hSw); go_simp; (first | done | with_reducible rfl)
            simp only [Act.put, List.getElem_toArray, List.getElem_cons_zero, List.getElem_cons_succ, List.setIfInBounds_toArray, List.set_cons_zero, List.set_cons_succ]
            refine wpAnyH_take (i := 7) (v := ?_) rfl (by kernel_rfl) (by kernel_rfl) (by kernel_rfl) (fun _ _ _ h => h) (Or.inl ⟨by rfl, ?_⟩) hS0 ?_
            rotate_left
            · intro w hSw; (try dsimp only at hSw); go_simp; (first | done | with_reducible rfl)
            simp only [Act.put, List.getElem_toArray, List.getElem_cons_zero, List.getElem_cons_succ, List.setIfInBounds_toArray, List.set_cons_zero, List.set_cons_succ]
            refine wpAnyH_take (i := 8) (v := ?_) rfl (by kernel_rfl) (by kernel_rfl) (by kernel_rfl) (fun _ _ _ h => h) (Or.inl ⟨by rfl, ?_⟩) hS0 ?_
            rotate_left
            · intro w hSw; (try dsimp only at hSw); go_simp; (first | done | with_reducible rfl)
            simp only [Act.put, List.getElem_toArray, List.getElem_cons_zero, List.getElem_cons_succ, List.setIfInBounds_toArray, List.set_cons_zero, List.set_cons_succ]
            refine wpAnyH_take (i := 9) (v := ?_) rfl (by kernel_rfl) (by kernel_rfl) (by kernel_rfl) (fun _ _ _ h => h) (Or.inl ⟨by rfl, ?_⟩) hS0 ?_
            rotate_left
            · intro w hSw; (try dsimp only at hSw); go_simp; (first | done | with_reducible rfl)
            simp only [Act.put, List.getElem_toArray, List.getElem_cons_zero, List.getElem_cons_succ, List.setIfInBounds_toArray, List.set_cons_zero, List.set_cons_succ]
            refine wpAnyH_take (i := 10) (v := ?_) rfl (by kernel_rfl) (by kernel_rfl) (by kernel_rfl) (fun _ _ _ h => h) (Or.inl ⟨by rfl, ?_⟩) hS0 ?_
            rotate_left
            · intro w hSw; (try dsimp only at hSw); go_simp; (first | done | with_reducible rfl)
            simp only [Act.put, List.getElem_toArray, List.getElem_cons_zero, List.getElem_cons_succ, List.setIfInBounds_toArray, List.set_cons_zero, List.set_cons_succ]
            refine wpAnyH_done (by kernel_rfl) ?_ _
            by_cases hful : (N : Int) = pa + 16
            · have tf : ((N : Int) == pa + 16) = true := by simpa using hful
              have HFUL := Lib.hid hful
              clear hful
              go_wp2
              go_ret
              rw [HKE.out, if_pos HFUL.out]
              refine HA.out _ ?_ { x.j with done := x.j.num, num := 0, acked := [] } none ?_ rfl (.inr (.inl rfl)) rfl 0
              · exact HKW.out.trans (Kp.of_but (U := AckV x) ((((But.refl x.b W).setCell 3 _).setCell 4 _).setCell 7 _) (.inl rfl)) (fun _ _ e => e)
              · exact (set_cell_heap _ (set_cell_heap _ (set_cell_heap _ HBW.out))).trans (by simp [jobCells])
            · have tf : ((N : Int) == pa + 16) = false := by simpa using hful
              have HFUL := Lib.hid hful
              clear hful
              go_wp2
              go_ret
              rw [HKE.out, if_neg HFUL.out]
              exact HA.out W HKW.out { x.j with acked := LL } (some m) HBW.out rfl (HV.out.elim (fun e => .inl e.symm) (fun e => .inr (.inr ⟨m, rfl, e, hmWl⟩))) HMW.out 0
end
end Go.Proofs.YtkjajlolfcioiaaGreatDoor.Control
