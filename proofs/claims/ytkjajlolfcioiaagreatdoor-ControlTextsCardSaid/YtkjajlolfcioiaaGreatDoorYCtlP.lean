/- a flow's partitions; parts as keys. -/
import Derived.Test.YtkjajlolfcioiaaGreatDoorYCtlSc
namespace Go.Proofs.YtkjajlolfcioiaaGreatDoor.Control
open Go Go.RowKit Go.MapKept Go.Maps Go.Proofs Go.Proofs.YtkjajlolfcioiaaGreatDoor Go.Proofs.YtkjajlolfcioiaaGreatDoor.Expr Go.Proofs.YtkjajlolfcioiaaGreatDoor.Own Go.Proofs.YtkjajlolfcioiaaGreatDoor.Tail Go.Proofs.YtkjajlolfcioiaaGreatDoor.Mp Go.Proofs.YtkjajlolfcioiaaGreatDoor.Mk Go.Proofs.YtkjajlolfcioiaaGreatDoor.Ints Go.Proofs.YtkjajlolfcioiaaGreatDoor.Plan Go.Proofs.YtkjajlolfcioiaaGreatDoor.Check Go.Proofs.YtkjajlolfcioiaaGreatDoor.Graph Go.Proofs.YtkjajlolfcioiaaGreatDoor.Ctl
theorem laidOut : laidOutB Tryz.prog = true := by kernel_rfl
theorem partKeyed : Keyed Tryz.prog 75 :=
  Keyed.of_law (deep_law_gate laidOut (of_decide_eq_true (by kernel_rfl)) (of_decide_eq_true (by kernel_rfl)) (by kernel_rfl) (by kernel_rfl))
theorem partKeys : ((List.range 2).all fun a => (List.range 16).all fun n => (keyOf Tryz.prog 75 (.agg #[.int .i64 ((a : Nat) + 1 : Int), .int .i64 (n : Nat)])).isSome) = true := by kernel_rfl
theorem partKey {p : Int × Int} (h : PartOk 16 p) : ∃ l, keyOf Tryz.prog 75 (partV p) = some l := by
  have := partKeys
  rw [List.all_eq_true] at this
  obtain ⟨a, b⟩ := p
  unfold PartOk at h
  simp only at h
  have h1 := this (a - 1).toNat (List.mem_range.2 (by omega))
  rw [List.all_eq_true] at h1
  have h2 := h1 b.toNat (List.mem_range.2 (by omega))
  have e1 : (((a - 1).toNat : Nat) + 1 : Int) = a := by omega
  have e2 : ((b.toNat : Nat) : Int) = b := by omega
  rw [e1, e2] at h2
  exact Option.isSome_iff_exists.1 h2
end Go.Proofs.YtkjajlolfcioiaaGreatDoor.Control

/- control.parts: how many partitions a flow reads. -/
namespace Go.Proofs.YtkjajlolfcioiaaGreatDoor.Control
open Go Go.RowKit Go.MapKept Go.Proofs Go.Proofs.YtkjajlolfcioiaaGreatDoor Go.Proofs.YtkjajlolfcioiaaGreatDoor.Expr Go.Proofs.YtkjajlolfcioiaaGreatDoor.Own Go.Proofs.YtkjajlolfcioiaaGreatDoor.Tail Go.Proofs.YtkjajlolfcioiaaGreatDoor.Mp Go.Proofs.YtkjajlolfcioiaaGreatDoor.Mk Go.Proofs.YtkjajlolfcioiaaGreatDoor.Ints Go.Proofs.YtkjajlolfcioiaaGreatDoor.Plan Go.Proofs.YtkjajlolfcioiaaGreatDoor.Check Go.Proofs.YtkjajlolfcioiaaGreatDoor.Graph Go.Proofs.YtkjajlolfcioiaaGreatDoor.Ctl
theorem partsOf_at (nm : ByteArray) : ∀ (tops : List Top) (k : Nat) (t : Top), tops[k]? = some t → t.name = nm → (∀ y ∈ tops.take k, y.name ≠ nm) → partsOf tops nm = t.parts
  | [], _, _, h, _, _ => by simp at h
  | x :: r, 0, t, h, hn, _ => by
    obtain rfl : x = t := by simpa using h
    rw [partsOf, if_pos hn]
  | x :: r, k + 1, t, h, hn, ha => by
    have hx : x.name ≠ nm := ha x (by simp)
    rw [partsOf, if_neg hx]
    exact partsOf_at nm r k t (by simpa using h) hn fun y hy => ha y (by simp [hy])
theorem partsOf_none (nm : ByteArray) : ∀ (tops : List Top), (∀ y ∈ tops, y.name ≠ nm) → partsOf tops nm = 0
  | [], _ => rfl
  | x :: r, h => by
    rw [partsOf, if_neg (h x List.mem_cons_self)]
    exact partsOf_none nm r fun y hy => h y (List.mem_cons_of_mem _ hy)
/-- the topic of a name. -/
def FoundT (tops : List Top) (nm : ByteArray) (w : World) (e : Ending) (w' : World) : Prop := ∃ (k : Nat) (t : Top), e = .returned (.int .i64 (k : Int)) ∧ tops[k]? = some t ∧ partsOf tops nm = t.parts ∧ Below w.heap.size w w'
set_option maxHeartbeats 2000000 in
theorem indexT_calls (tops : List Top) (nm : ByteArray) (tv : Value) (K : Nat) (caps : Array Value) (w : World) (ht : SliceAt w tv tops.length (tops.flatMap topCells)) (hl : tops.length ≤ 1000) (h0 : partsOf tops nm ≠ 0)
    (hE : ∀ (args : Array Value) (X : World), (callFunc K args).run Tryz.prog X = .ok (.enter K args) X)
    (hK : ∀ (t : Top) (X : World), Below w.heap.size w X → Calls Tryz.prog K (#[.agg #[.string t.name, .int .i64 t.parts]] ++ caps) X fun e w' => e = .returned (.bool (decide (t.name = nm))) ∧ Below X.heap.size X w') :
    Calls Tryz.prog 132 #[tv, .func (.func K) #[] caps] w (FoundT tops nm w) := by
  have HK := Lib.hid hK
  have HT := Lib.hid ht
  have H0 := Lib.hid h0
  obtain ⟨A, cp, rfl, hcp, -⟩ := ht
  clear hK h0
  go_enter Tryz.func132, Tryz.ntmps132
  go_wp2
  go_loopw [8] (fun i wr => ∃ k : Nat, k ≤ tops.length ∧ i = .int .i64 (k : Int) ∧ Hid (∀ y ∈ tops.take k, y.name ≠ nm) ∧ Below w.heap.size w wr) (fun i _ => tops.length - (RowKit.intOf i).toNat)
  case atStart => exact ⟨0, Nat.zero_le _, rfl, Lib.hid (by simp), Below.refl _ _⟩
  case round =>
    obtain ⟨k, hk, rfl, hq, hB⟩ := hrel
    by_cases hlt : k < tops.length
    · have hlt' : (k : Int) < tops.length := by omega
      obtain ⟨x, hx⟩ : ∃ x, tops[k]? = some x := ⟨_, List.getElem?_eq_getElem hlt⟩
      obtain ⟨b, o, rfl, c0, c1⟩ : ∃ b o, A = some ⟨b, o, none⟩ ∧ wr.cell? ⟨b, o + k * 2, none⟩ = some (.string x.name) ∧ wr.cell? ⟨b, o + k * 2 + 1, none⟩ = some (.int .i64 x.parts) := by
        obtain ⟨A', c', e, -, hr⟩ := HT.out.below hB
        obtain ⟨b, o, rfl, hcells⟩ := hr (by omega)
        simp only [Value.slice.injEq] at e
        have g0 := hcells (k * 2 + 0) _ (by rw [flat_get topCells 2 (fun _ => rfl) tops k 0 x hx (by decide)]; rfl)
        have g1 := hcells (k * 2 + 1) _ (by rw [flat_get topCells 2 (fun _ => rfl) tops k 1 x hx (by decide)]; rfl)
        exact ⟨b, o, e.1, g0, g1⟩
      obtain ⟨t, ht⟩ : ∃ t, decide (x.name = nm) = t := ⟨_, rfl⟩
      have hc := HK.out x wr hB
      rw [ht] at hc
      have HC := Lib.hid hc
      have HTT := Lib.hid ht
      have HX := Lib.hid hx
      clear hc ht hx
      cases t
      · go_wp2_with fail
        refine HC.out.mono ?_
        rintro e w1 ⟨rfl, hB1⟩
        go_wp2
        go_roundw
        case rel =>
          refine ⟨k + 1, by omega, by go_num, Lib.hid ?_, go hB hB1⟩
          rw [List.take_add_one, HX.out]
          intro y hy
          rcases List.mem_append.1 hy with hy | hy
          · exact hq.out y hy
          · obtain rfl : y = x := by simpa using hy
            simpa using HTT.out
        case measure => simp [RowKit.intOf]; omega
      · have HF := Lib.hid (partsOf_at nm tops k x HX.out (of_decide_eq_true HTT.out) hq.out)
        go_wp2_with fail
        refine HC.out.mono ?_
        rintro e w1 ⟨rfl, hB1⟩
        go_wp2
        go_ret
        exact ⟨k, x, rfl, HX.out, HF.out, go hB hB1⟩
    · exfalso
      obtain rfl : k = tops.length := by omega
      have h1 := hq.out
      rw [List.take_length] at h1
      exact H0.out (partsOf_none nm tops h1)
section
variable {w X : World} {cb : Nat} {c : Ct} {U : Nat → Prop} {tv fv : Value} {lm : Nat} {jv : Value} {fl : List FlwV} {xs : List JV} {i : Nat}
set_option maxHeartbeats 2000000 in
set_option maxRecDepth 100000 in
/-- is it the topic that the flow reads? -/
theorem reads_calls (h : CtlIs w cb c U tv fv lm jv fl xs) {y : FlwV} (hy : fl[i]? = some y) (t : Top) (pc pi : Nat) (hpc : w.cell? ⟨pc, 0, none⟩ = some (.pointer (some ⟨cb, 0, none⟩))) (hpi : w.cell? ⟨pi, 0, none⟩ = some (.int .i64 (i : Int))) :
    Calls Tryz.prog 133 #[.agg #[.string t.name, .int .i64 t.parts], .pointer (some ⟨pc, 0, none⟩), .pointer (some ⟨pi, 0, none⟩)] w fun e w' => e = .returned (.bool (decide (t.name = y.f.frm))) ∧ Below w.heap.size w w' := by
  have hst := h.now
  have k1 : w.cell? ⟨cb, 1, none⟩ = some fv := by rw [cell_of_row _ _ _ _ _ _ hst.ctl]; simp
  have hil := (List.getElem?_eq_some_iff.1 hy).1
  obtain ⟨A, cp, rfl, -, hr⟩ := hst.plan.flows
  obtain ⟨b, o, rfl, hcells⟩ := hr (by omega)
  have g1 : w.cell? ⟨b, o + i * 12 + 1, none⟩ = some (.string y.f.frm) := by
    have := hcells (i * 12 + 1) (.string y.f.frm) (by rw [flat_get flwvCells 12 (fun _ => rfl) fl i 1 y hy (by decide)]; rfl)
    rwa [← Nat.add_assoc] at this
  have hiI : (i : Int) < fl.length := by omega
  have e1 := kc (box_below w (.cells #[.string t.name, .int .i64 t.parts] 66)) k1
  have e2 := kc (box_below w (.cells #[.string t.name, .int .i64 t.parts] 66)) hpc
  have e3 := kc (box_below w (.cells #[.string t.name, .int .i64 t.parts] 66)) hpi
  have e4 := kc (box_below w (.cells #[.string t.name, .int .i64 t.parts] 66)) g1
  have e5 : (w.alloc (.cells #[.string t.name, .int .i64 t.parts] 66)).cell? ⟨w.heap.size, 0, none⟩ = some (.string t.name) := cell_new rfl rfl
  clear h hst hr hcells k1 hpc hpi g1 hy
  by_cases hq : t.name = y.f.frm
  · have q : (t.name.toList == y.f.frm.toList) = true := by rw [hq]; simp
    rw [decide_eq_true hq]
    clear hq
    go_enter Tryz.func133, Tryz.ntmps133
    go_wp2
    go_quiet (fail)
    go_wp2
    go_ret
    exact ⟨rfl, bdrewN (box_below _ _) _⟩
  · have q : (t.name.toList == y.f.frm.toList) = false := by rw [beq_eq_false_iff_ne]; intro e; rw [Lib.toList_data, Lib.toList_data] at e; exact hq (bytes_eq e)
    rw [decide_eq_false hq]
    clear hq
    go_enter Tryz.func133, Tryz.ntmps133
    go_wp2
    go_quiet (fail)
    go_wp2
    go_ret
    exact ⟨rfl, bdrewN (box_below _ _) _⟩
set_option maxHeartbeats 2000000 in
set_option maxRecDepth 100000 in
theorem parts_calls (h : CtlIs w cb c U tv fv lm jv fl xs) (hp : planE ⟨c.tops, c.flows⟩ = 0) (hi : i < fl.length) :
    Calls Tryz.prog 115 #[.pointer (some ⟨cb, 0, none⟩), .int .i64 (i : Int)] w fun e w' => e = .returned (.int .i64 (partsAt c i)) ∧ Below w.heap.size w w' := by
  obtain ⟨y, hy⟩ : ∃ y, fl[i]? = some y := ⟨_, List.getElem?_eq_getElem hi⟩
  have hst := h.now
  have k0 : w.cell? ⟨cb, 0, none⟩ = some tv := by rw [cell_of_row _ _ _ _ _ _ hst.ctl]; simp
  have hcy : c.flows[i]? = some y.f := by rw [← h.flows, List.getElem?_map, hy]; rfl
  have hpa : partsAt c i = partsOf c.tops y.f.frm := by unfold partsAt; rw [hcy]
  have hfo := plan_flow hp y.f (List.mem_of_getElem? hcy)
  have h16 := (plan_len hp).1
  rw [hpa]
  have HST := Lib.hid hst
  have B2 : Below w.heap.size w ((w.alloc (.cells #[.pointer (some ⟨cb, 0, none⟩)] 49)).alloc (.cells #[.int .i64 (i : Int)] 3)) := balloc (box_below _ _) _
  have hidx := indexT_calls c.tops y.f.frm tv 133 #[.pointer (some ⟨w.heap.size, 0, none⟩), .pointer (some ⟨w.heap.size + 1, 0, none⟩)] _ (hst.plan.tops.below B2) (by omega) (by have := hfo.parts; omega)
    (enters_of Tryz.func133 (by kernel_rfl) rfl) (fun t X hX => reads_calls ((h.below B2).below hX) hy t w.heap.size (w.heap.size + 1) (kc hX (kc (box_below _ _) (cell_new rfl rfl))) (kc hX (cell_new (by simp) rfl)))
  have HI := Lib.hid hidx
  have HB2 := Lib.hid B2
  obtain ⟨A, cp, rfl, -, -⟩ := hst.plan.tops
  have k0' := kc B2 k0
  have hmf : ∀ (fn : Fn) (first cap : Array Value) (w : World), (Instr.makeFunc fn first cap).run Tryz.prog w = .ok (.func fn first cap) w := fun _ _ _ _ => rfl
  clear h hy hst hidx B2 hcy hpa hfo k0
  go_enter Tryz.func115, Tryz.ntmps115
  go_wp2_with fail
  refine (HI.out).mono ?_
  rintro e w3 ⟨k, t, rfl, hk, hpt, hB3⟩
  have hkl := (List.getElem?_eq_some_iff.1 hk).1
  have k3 := kc hB3 k0'
  have p0 : w3.cell? ⟨w.heap.size, 0, none⟩ = some (.pointer (some ⟨cb, 0, none⟩)) := kc hB3 (kc (box_below _ _) (cell_new rfl rfl))
  obtain ⟨A', cp', e', -, hr⟩ := (HST.out.plan.tops.below HB2.out).below hB3
  obtain ⟨b, o, rfl, hcells⟩ := hr (by omega)
  simp only [Value.slice.injEq] at e'
  obtain ⟨rfl, -, rfl⟩ := e'
  have g1 : w3.cell? ⟨b, o + k * 2 + 1, none⟩ = some (.int .i64 t.parts) := by
    have := hcells (k * 2 + 1) (.int .i64 t.parts) (by rw [flat_get topCells 2 (fun _ => rfl) c.tops k 1 t hk (by decide)]; rfl)
    rwa [← Nat.add_assoc] at this
  have HBF := Lib.hid (go HB2.out hB3)
  have HPT := Lib.hid hpt
  have hkI : (k : Int) < c.tops.length := by omega
  clear hr hcells hB3 hpt hk k0'
  go_wp2
  go_ret
  exact ⟨by rw [HPT.out]; rfl, HBF.out⟩
end
end Go.Proofs.YtkjajlolfcioiaaGreatDoor.Control

/- control.ack: what a part's entry does to the map; the loops' laws. -/
namespace Go.Proofs.YtkjajlolfcioiaaGreatDoor.Control
open Go Go.RowKit Go.MapKept Go.Maps Go.Proofs Go.Proofs.YtkjajlolfcioiaaGreatDoor Go.Proofs.YtkjajlolfcioiaaGreatDoor.Expr Go.Proofs.YtkjajlolfcioiaaGreatDoor.Own Go.Proofs.YtkjajlolfcioiaaGreatDoor.Tail Go.Proofs.YtkjajlolfcioiaaGreatDoor.Mp Go.Proofs.YtkjajlolfcioiaaGreatDoor.Mk Go.Proofs.YtkjajlolfcioiaaGreatDoor.Ints Go.Proofs.YtkjajlolfcioiaaGreatDoor.Plan Go.Proofs.YtkjajlolfcioiaaGreatDoor.Check Go.Proofs.YtkjajlolfcioiaaGreatDoor.Graph Go.Proofs.YtkjajlolfcioiaaGreatDoor.Ctl
theorem region_open {P : Program} {id : Nat} {a : Act} {w : World} {ops : Array Oper} {Q : Exit → Act → World → Prop} (hm : P.follows .mixedOrders = true) (h : wpAny P .any ops Q ops.size (Array.replicate ops.size false) a w.drew) : (Code.region id ops true).wp P Q a w := wp_region_any hm h
def partCells (p : Int × Int) : List Value := [.int .i64 p.1, .int .i64 p.2]
/-- parts in memory. -/
abbrev PartsAt (w : World) (v : Value) (l : List (Int × Int)) : Prop := SliceAt w v l.length (l.flatMap partCells)
theorem addP_snoc (l news : List (Int × Int)) (p : Int × Int) : addP l (news ++ [p]) = insP p (addP l news) := by
  unfold addP
  rw [List.foldl_append]
  rfl
theorem part_get {f : Value → Option Value} {L : List (Int × Int)} (h1 : ∀ p ∈ L, ∃ n : Int, f (partV p) = some (.int .i64 n)) (h2 : ∀ v, (f v).isSome = true → ∃ p ∈ L, v = partV p) (p : Int × Int) : ∃ n : Int, (f (partV p)).getD (.int .i64 0) = .int .i64 n := by
  cases hf : f (partV p) with
  | none => exact ⟨0, rfl⟩
  | some v =>
    obtain ⟨q, hq, e⟩ := h2 (partV p) (by rw [hf]; rfl)
    obtain ⟨n, hn⟩ := h1 q hq
    rw [← e, hf] at hn
    cases hn
    exact ⟨n, rfl⟩
theorem partV_inj {p q : Int × Int} (h : partV p = partV q) : p = q := by
  obtain ⟨a, b⟩ := p
  obtain ⟨c, d⟩ := q
  simp [partV] at h
  rw [h.1, h.2]
/-- is it the part? -/
def isPart (p : Int × Int) : Value → Bool
  | .agg cs => match cs.toList with
    | [.int .i64 a, .int .i64 b] => a == p.1 && b == p.2
    | _ => false
  | _ => false
theorem isPart_iff (p : Int × Int) (y : Value) : isPart p y = true ↔ y = partV p := by
  constructor
  · intro h
    cases y <;> try (simp [isPart] at h; done)
    rename_i cs
    unfold isPart at h
    simp only at h
    split at h
    · rename_i a b e
      obtain ⟨cs⟩ := cs
      simp at h e
      subst e
      rw [h.1, h.2]
    · cases h
  · rintro rfl
    simp [isPart]
def putF (f : Value → Option Value) (p : Int × Int) (val : Value) (y : Value) : Option Value := if isPart p y = true then some val else f y
theorem putF_same (f : Value → Option Value) (p : Int × Int) (val : Value) : putF f p val (partV p) = some val := if_pos ((isPart_iff p _).2 rfl)
theorem putF_other (f : Value → Option Value) (p : Int × Int) (val : Value) {y : Value} (h : y ≠ partV p) : putF f p val y = f y := if_neg (fun e => h ((isPart_iff p y).1 e))
theorem partMap_made (w : World) : PartMap (w.alloc (.map #[] 0)) w.heap.size [] :=
  ⟨_, MapK.made _ _ w, (fun p hp => by cases hp), fun v hv => by cases hv⟩
/-- the parts' map behind a store. -/
theorem partMap_put {w : World} {m : Nat} {f g : Value → Option Value} {L : List (Int × Int)} {p : Int × Int} {n : Int} (hm : MapK Tryz.prog 75 w m g) (h1 : ∀ p ∈ L, ∃ n : Int, f (partV p) = some (.int .i64 n)) (h2 : ∀ v, (f v).isSome = true → ∃ p ∈ L, v = partV p) (hg1 : g (partV p) = some (.int .i64 n)) (hg2 : ∀ x, x ≠ partV p → g x = f x) : PartMap w m (insP p L) := by
  refine ⟨g, hm, fun q hq => ?_, fun v hv => ?_⟩
  · by_cases e : q = p
    · subst e
      exact ⟨n, hg1⟩
    · rw [hg2 _ (fun e2 => e (partV_inj e2))]
      rcases (insP_mem p q L).1 hq with e2 | hq
      · exact absurd e2 e
      · exact h1 q hq
  · by_cases e : v = partV p
    · exact ⟨p, (insP_mem p p L).2 (.inl rfl), e⟩
    · rw [hg2 _ e] at hv
      obtain ⟨q, hq, e2⟩ := h2 v hv
      exact ⟨q, (insP_mem p q L).2 (.inr hq), e2⟩
theorem partMap_len {w : World} {m : Nat} {L : List (Int × Int)} (h : PartMap w m L) (hs : L.Pairwise PLt) (ty : TypeId) : (Builtin.len_ #[120] ty #[.map (some m)]).run Tryz.prog w = .ok (.int .i64 L.length) w := by
  obtain ⟨f, hm, h1, h2⟩ := h
  have hn : (L.map partV).Nodup := by
    rw [List.nodup_iff_pairwise_ne, List.pairwise_map]
    exact hs.imp fun {a b} hab e => by
      have e := partV_inj e
      subst e
      exact PLt.irrefl _ hab
  have := hm.len (t := 120) (e := 3) Tryz.underlying120 hn (fun y => by
    rw [List.mem_map]
    constructor
    · rintro ⟨p, hp, rfl⟩
      obtain ⟨n, hn⟩ := h1 p hp
      rw [hn]; rfl
    · intro hy
      obtain ⟨p, hp, rfl⟩ := h2 y hy
      exact ⟨p, hp, rfl⟩) ty
  rw [List.length_map] at this
  exact this
theorem part_at {w : World} {v : Value} {l : List (Int × Int)} {k : Nat} {p : Int × Int} (h : PartsAt w v l) (hp : l[k]? = some p) : ∃ b o c, v = .slice (some ⟨b, o, none⟩) l.length c ∧ w.cell? ⟨b, o + k * 2, none⟩ = some (.int .i64 p.1) ∧ w.cell? ⟨b, o + k * 2 + 1, none⟩ = some (.int .i64 p.2) := by
  obtain ⟨A, c, rfl, hc, hr⟩ := h
  have hk := (List.getElem?_eq_some_iff.1 hp).1
  obtain ⟨b, o, rfl, hcells⟩ := hr (by omega)
  have g0 := hcells (k * 2 + 0) _ (by rw [flat_get partCells 2 (fun _ => rfl) l k 0 p hp (by decide)]; rfl)
  have g1 := hcells (k * 2 + 1) _ (by rw [flat_get partCells 2 (fun _ => rfl) l k 1 p hp (by decide)]; rfl)
  exact ⟨b, o, c, rfl, g0, g1⟩
section
variable {w : World} {m : Nat} {f : Value → Option Value} {o : Oper} {a : Act} {K' : Act → World → Prop} {Q : Exit → Act → World → Prop} {p : Int × Int} {lit : Lit} {c : Int}
theorem wp_lookP (h : MapK Tryz.prog 75 w m f) (hl : keyOf Tryz.prog 75 (partV p) = some lit) (hc : (f (partV p)).getD (.int .i64 0) = .int .i64 c) (mm x : Operand) (hop : o.op = Op.lookup 120 mm x false) (hm : a.eval mm = .map (some m)) (hx : a.eval x = partV p)
    (hK : K' (a.put o.dst (.int .i64 c)) w) : o.wp Tryz.prog a w K' Q :=
  wp_lookK h partKeyed Tryz.underlying120 (Tryz.zeroValue3 _) mm x hop hm hx hl (by rw [hc]; exact hK)
theorem wp_lookPE {born : Nat} (h : EntK Tryz.prog 75 w m f (partV p) born (.int .i64 c)) (hl : keyOf Tryz.prog 75 (partV p) = some lit) (mm x : Operand) (hop : o.op = Op.lookup 120 mm x false) (hm : a.eval mm = .map (some m)) (hx : a.eval x = partV p)
    (hK : K' (a.put o.dst (.int .i64 c)) w) : o.wp Tryz.prog a w K' Q :=
  wp_lookE h partKeyed Tryz.underlying120 mm x hop hm hx hl hK
theorem wp_entryP (h : MapK Tryz.prog 75 w m f) (hl : keyOf Tryz.prog 75 (partV p) = some lit) (hc : (f (partV p)).getD (.int .i64 0) = .int .i64 c) (mm x : Operand) (hop : o.op = Op.mapEntry 120 mm x) (hm : a.eval mm = .map (some m)) (hx : a.eval x = partV p)
    (hK : ∀ (born : Nat) (w' : World), EntK Tryz.prog 75 w' m f (partV p) born (.int .i64 c) → But m w w' → K' (a.put o.dst (.tuple #[.int .i64 c, .int .i64 (born : Nat)])) w') : o.wp Tryz.prog a w K' Q :=
  wp_entryK h partKeyed Tryz.underlying120 (Tryz.zeroValue3 _) mm x hop hm hx hl (by rw [hc]; exact hK)
theorem wp_storeP {born : Nat} (h : EntK Tryz.prog 75 w m f (partV p) born (.int .i64 c)) (mm s x : Operand) (hop : o.op = Op.entryStore 120 mm s x) (hm : a.eval mm = .map (some m)) (hs : a.eval s = .int .i64 (born : Nat)) {c2 : Int} (hx : a.eval x = .int .i64 c2)
    (hK : ∀ w', MapK Tryz.prog 75 w' m (putF f p (.int .i64 c2)) → But m w w' → K' (a.put o.dst undef) w') : o.wp Tryz.prog a w K' Q :=
  wp_storeE h mm s x hop hm hs hx (putF f p (.int .i64 c2)) (putF_same _ _ _) (fun _ hy => putF_other _ _ _ hy) hK
end
end Go.Proofs.YtkjajlolfcioiaaGreatDoor.Control
