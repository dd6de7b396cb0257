/- plans that came in: from their reading to the walks' facts. -/
import Derived.Test.YtkjajlolfcioiaaGreatDoorYCheckE
import Derived.Deep.Slices
import Derived.Lib.LaidTab
import Derived.WalkKit
import Derived.OpenShut
import Derived.Lib.SmallJoins
import Derived.Test.YtkjajlolfcioiaaGreatDoorYCtlDo
namespace Go.Proofs.YtkjajlolfcioiaaGreatDoor.Rw
open Go Go.Lib Go.Joins Go.RowKit Go.ChangeShapes Go.WideShapes Go.Proofs.YtkjajlolfcioiaaGreatDoor.Check Go.Proofs.YtkjajlolfcioiaaGreatDoor.Plan
set_option maxRecDepth 100000
variable {H : Type} {enc : TypeId × Value → H} {W : World}
def SizesOk (t : TypeId) (d : DataW H) : Prop := ∀ q ∈ d.weights Tryz.prog t, q ≤ reachBytes
theorem weightsAll_mem {P : Program} {e : TypeId} {d : DataW H} {q : Nat} : ∀ {l : List (DataW H)}, d ∈ l → q ∈ d.weights P e → q ∈ DataW.weightsAll P e l
  | [], h, _ => by cases h
  | x :: r, h, hq => by
    rw [DataW.weightsAll]
    rcases List.mem_cons.1 h with rfl | h
    · exact List.mem_append_left _ hq
    · exact List.mem_append_right _ (weightsAll_mem h hq)
theorem add_two (b o p r : Nat) : ((⟨b, o, none⟩ : Addr).add p).add r = ⟨b, o + (p + r), none⟩ := by
  unfold Addr.add
  split <;> split <;> simp_all
  omega
theorem flat_len {α : Type} (f : α → List Value) (m : Nat) (hf : ∀ x, (f x).length = m) (l : List α) : (l.flatMap f).length = l.length * m := by
  induction l with
  | nil => simp
  | cons x r ih => rw [List.flatMap_cons, List.length_append, hf, ih, List.length_cons, Nat.succ_mul]; omega
theorem open_rows {t e : TypeId} {m fuel : Nat} {α : Type} {Good : α → Prop} {x : DataW H × List MemPlace} {v : Value} (dflt : α) (f : α → List Value) (ht : Tryz.prog.underlying t = some (.slice e)) (hc : Tryz.prog.cellsOf e = m) (hm : 0 < m) (hf : ∀ x, (f x).length = m)
    (h : DataW.trod enc Tryz.prog W 0 (fun _ => true) true fuel t [v] = some x) (hsz : SizesOk t x.1)
    (each : ∀ n cs' y, DataW.trod enc Tryz.prog W 0 (fun _ => true) true n e cs' = some y → SizesOk e y.1 → ∃ a, cs' = f a ∧ Good a) :
    ∃ l : List α, SliceAt W v l.length (l.flatMap f) ∧ (∀ a ∈ l, Good a) ∧ l.length * Tryz.prog.bytesOf e ≤ reachBytes := by
  rcases Go.Deep.open_slice ht h with ⟨h1, h2⟩ | ⟨a, len, cap, m', n, D, Pl, h1, hb, hl, hcap, hm', hx, hel⟩
  · simp only [List.cons.injEq, and_true] at h1
    subst h1
    exact ⟨[], ⟨none, 0, rfl, Nat.le_refl _, fun h => absurd h (by simp)⟩, (fun a ha => by cases ha), by simp⟩
  · simp only [List.cons.injEq, and_true] at h1
    subst h1
    have hm2 : m' = cap := by rw [hm']; rfl
    rw [hc] at hel
    have hall : ∀ i, i < len → ∃ q : α, W.cells? 0 (a.add (i * m)) m = some (f q) ∧ Good q := by
      intro i hi
      obtain ⟨cs', hcells, htr⟩ := hel i (by omega)
      obtain ⟨q, rfl, hg⟩ := each n cs' _ htr (fun z hz => hsz z (by
        rw [hx]
        simp only [DataW.weights, ht, List.mem_cons, List.mem_append]
        exact .inr (.inl (weightsAll_mem (d := D i) (List.mem_map.2 ⟨i, List.mem_range.2 hi, rfl⟩) hz))))
      exact ⟨q, hcells, hg⟩
    haveI : Inhabited α := ⟨dflt⟩
    obtain ⟨q, hq⟩ := Go.Deep.choose_lt hall
    refine ⟨(List.range len).map q, ?_, ?_, ?_⟩
    · refine ⟨some a, cap, by simp, by simpa using hl, fun h0 => ?_⟩
      have h0' : 0 < len := by simpa using h0
      have cellOf : ∀ i r u, i < len → r < m → (f (q i))[r]? = some u → W.cell? ((a.add (i * m)).add r) = some u := by
        intro i r u hi hr hu
        have hcl := (hq i hi).1
        unfold World.cells? at hcl
        rw [if_pos (Nat.zero_le _)] at hcl
        obtain ⟨b', hb', hcell⟩ := Go.Lib.mapM_at hcl r r (by rw [List.getElem?_range hr])
        rw [hu] at hb'
        obtain rfl := Option.some.inj hb'
        exact hcell
      have hspot : a.spot = none := by
        have hlen := hf (q 0)
        obtain ⟨u, hu⟩ : ∃ u, (f (q 0))[0]? = some u := ⟨_, List.getElem?_eq_getElem (by omega)⟩
        have := cellOf 0 0 u h0' hm hu
        rw [Nat.zero_mul] at this
        have h00 : (a.add 0).add 0 = a := by simp [Addr.add]
        rw [h00] at this
        cases hs : a.spot with
        | none => rfl
        | some k =>
          unfold World.cell? at this
          rw [hs] at this
          split at this <;> simp at this
      obtain ⟨b, o, sp⟩ := a
      simp only at hspot
      subst hspot
      refine ⟨b, o, rfl, fun j u hj => ?_⟩
      have hj2 : j < len * m := by
        have := (List.getElem?_eq_some_iff.1 hj).1
        rw [flat_len f m hf] at this
        simpa using this
      have hi : j / m < len := Nat.div_lt_of_lt_mul (by rw [Nat.mul_comm]; exact hj2)
      have hr : j % m < m := Nat.mod_lt _ hm
      have hjm : j / m * m + j % m = j := by rw [Nat.mul_comm]; exact Nat.div_add_mod j m
      have hg := flat_get f m hf ((List.range len).map q) (j / m) (j % m) (q (j / m)) (by rw [List.getElem?_map, List.getElem?_range hi]; rfl) hr
      rw [hjm, hj] at hg
      have := cellOf (j / m) (j % m) u hi hr hg.symm
      rw [add_two, hjm] at this
      exact this
    · intro a' ha'
      obtain ⟨i, hi, rfl⟩ := List.mem_map.1 ha'
      exact (hq i (List.mem_range.1 hi)).2
    · have := hsz ((len + (m' - len)) * Tryz.prog.bytesOf e) (by
        rw [hx]
        simp [DataW.weights, ht])
      simp only [List.length_map, List.length_range]
      exact Nat.le_trans (Nat.mul_le_mul_right _ (by omega)) this
theorem weightsEach_mem {P : Program} {q : Nat} : ∀ {ts : List TypeId} {ds : List (DataW H)} (i : Nat) {t : TypeId} {d : DataW H}, ts[i]? = some t → ds[i]? = some d → q ∈ d.weights P t → q ∈ DataW.weightsEach P ts ds
  | [], _, i, _, _, h, _, _ => by simp at h
  | _ :: _, [], i, _, _, _, h, _ => by simp at h
  | t :: ts, d :: ds, 0, _, _, h, h', hq => by
    simp at h h'
    subst h h'
    rw [DataW.weightsEach]
    exact List.mem_append_left _ hq
  | t :: ts, d :: ds, i + 1, _, _, h, h', hq => by
    rw [DataW.weightsEach]
    exact List.mem_append_right _ (weightsEach_mem i (by simpa using h) (by simpa using h') hq)
theorem sizes_part {t : TypeId} {fs : Array Field} (ht : Tryz.prog.underlying t = some (.struct fs)) {ds : List (DataW H)} (h : SizesOk t (.agg ds)) (i : Nat) {f : Field} {d : DataW H} (hf : fs[i]? = some f) (hd : ds[i]? = some d) : SizesOk f.type d := fun q hq => h q (by
  simp only [DataW.weights, ht]
  exact weightsEach_mem i (by simpa using ⟨f, hf, rfl⟩) hd hq)
theorem len_cons {α : Type} {l : List α} {n : Nat} (h : l.length = n + 1) : ∃ a r, l = a :: r ∧ r.length = n := by
  cases l with
  | nil => simp at h
  | cons a r => exact ⟨a, r, rfl, by simpa using h⟩
theorem cStr : Tryz.prog.cellsOf 9 = 1 := by kernel_rfl
theorem cInt : Tryz.prog.cellsOf 3 = 1 := by kernel_rfl
theorem cTop : Tryz.prog.cellsOf 66 = 2 := by kernel_rfl
theorem cStp : Tryz.prog.cellsOf 118 = 3 := by kernel_rfl
theorem cStps : Tryz.prog.cellsOf 67 = 1 := by kernel_rfl
theorem cWin : Tryz.prog.cellsOf 69 = 3 := by kernel_rfl
theorem cPlan : Tryz.prog.cellsOf 25 = 2 := by kernel_rfl
theorem bFlw : Tryz.prog.bytesOf 71 = 152 := by kernel_rfl
theorem cFlw : Tryz.prog.cellsOf 71 = 12 := by kernel_rfl
theorem top_each (n : Nat) (cs : List Value) (y : DataW H × List MemPlace) (h : DataW.trod enc Tryz.prog W 0 (fun _ => true) true n 66 cs = some y) (_ : SizesOk 66 y.1) : ∃ a : Top, cs = topCells a ∧ True := by
  obtain ⟨xs, m, rfl, rfl, hl, hlen, hfld⟩ := DataW.trod_struct Tryz.underlying66 h
  rw [cTop] at hl
  replace hlen : xs.length = 2 := hlen
  obtain ⟨c0, cs0, rfl, hl0⟩ := len_cons hl
  obtain ⟨c1, cs1, rfl, hl1⟩ := len_cons hl0
  obtain rfl := List.length_eq_zero_iff.1 hl1
  obtain ⟨x0, xs0, rfl, hlen0⟩ := len_cons hlen
  obtain ⟨x1, xs1, rfl, hlen1⟩ := len_cons hlen0
  obtain rfl := List.length_eq_zero_iff.1 hlen1
  have h0 := hfld 0 _ rfl
  have h1 := hfld 1 _ rfl
  simp [cStr, cInt] at h0 h1
  obtain ⟨s, e0, -, -⟩ := DataW.trod_string Tryz.underlying9 h0
  obtain ⟨k, e1, -, -⟩ := DataW.trod_int Tryz.underlying3 h1
  simp at e0 e1
  subst e0 e1
  exact ⟨⟨s, k⟩, rfl, trivial⟩
theorem stp_each (n : Nat) (cs : List Value) (y : DataW H × List MemPlace) (h : DataW.trod enc Tryz.prog W 0 (fun _ => true) true n 118 cs = some y) (hz : SizesOk 118 y.1) : ∃ a : Stp, cs = stpCells a ∧ a.text.size ≤ 1000000000000000 := by
  obtain ⟨xs, m, rfl, rfl, hl, hlen, hfld⟩ := DataW.trod_struct Tryz.underlying118 h
  rw [cStp] at hl
  replace hlen : xs.length = 3 := hlen
  obtain ⟨c0, cs0, rfl, hl0⟩ := len_cons hl
  obtain ⟨c1, cs1, rfl, hl1⟩ := len_cons hl0
  obtain ⟨c2, cs2, rfl, hl2⟩ := len_cons hl1
  obtain rfl := List.length_eq_zero_iff.1 hl2
  obtain ⟨x0, xs0, rfl, hlen0⟩ := len_cons hlen
  obtain ⟨x1, xs1, rfl, hlen1⟩ := len_cons hlen0
  obtain ⟨x2, xs2, rfl, hlen2⟩ := len_cons hlen1
  obtain rfl := List.length_eq_zero_iff.1 hlen2
  have h0 := hfld 0 _ rfl
  have h1 := hfld 1 _ rfl
  have h2 := hfld 2 _ rfl
  have hz1 := sizes_part Tryz.underlying118 hz 1 rfl rfl
  simp [cStr, cInt] at h0 h1 h2
  obtain ⟨k, e0, -, -⟩ := DataW.trod_int Tryz.underlying3 h0
  obtain ⟨s, e1, e1x, -⟩ := DataW.trod_string Tryz.underlying9 h1
  obtain ⟨j, e2, -, -⟩ := DataW.trod_int Tryz.underlying3 h2
  simp at e0 e1 e2
  subst e0 e1 e2 e1x
  have := hz1 s.data.toList.length (by simp [DataW.weights])
  refine ⟨⟨k, s, j⟩, rfl, ?_⟩
  have hs : s.data.toList.length = s.size := Array.length_toList
  rw [hs] at this
  exact Nat.le_trans this (by decide)
theorem stps_open {fuel : Nat} {x : DataW H × List MemPlace} {v : Value} (h : DataW.trod enc Tryz.prog W 0 (fun _ => true) true fuel 67 [v] = some x) (hsz : SizesOk 67 x.1) : ∃ l : List Stp, StepsAt W v l ∧ SmallSteps l := by
  obtain ⟨l, h1, h2, -⟩ := open_rows (Good := fun a : Stp => a.text.size ≤ 1000000000000000) ⟨0, ⟨#[]⟩, 0⟩ stpCells Tryz.underlying67 cStp (by decide) (fun _ => rfl) h hsz stp_each
  exact ⟨l, h1, h2⟩
def GoodFlw (W : World) (x : FlwV) : Prop := StepsAt W x.pv x.f.pre ∧ StepsAt W x.qv x.f.post ∧ SmallSteps x.f.pre ∧ SmallSteps x.f.post
theorem flw_each (n : Nat) (cs : List Value) (y : DataW H × List MemPlace) (h : DataW.trod enc Tryz.prog W 0 (fun _ => true) true n 71 cs = some y) (hz : SizesOk 71 y.1) : ∃ a : FlwV, cs = flwvCells a ∧ GoodFlw W a := by
  obtain ⟨xs, m, rfl, rfl, hl, hlen, hfld⟩ := DataW.trod_struct Tryz.underlying71 h
  rw [cFlw] at hl
  replace hlen : xs.length = 10 := hlen
  obtain ⟨c0, cs0, rfl, hl0⟩ := len_cons hl
  obtain ⟨c1, cs1, rfl, hl1⟩ := len_cons hl0
  obtain ⟨c2, cs2, rfl, hl2⟩ := len_cons hl1
  obtain ⟨c3, cs3, rfl, hl3⟩ := len_cons hl2
  obtain ⟨c4, cs4, rfl, hl4⟩ := len_cons hl3
  obtain ⟨c5, cs5, rfl, hl5⟩ := len_cons hl4
  obtain ⟨c6, cs6, rfl, hl6⟩ := len_cons hl5
  obtain ⟨c7, cs7, rfl, hl7⟩ := len_cons hl6
  obtain ⟨c8, cs8, rfl, hl8⟩ := len_cons hl7
  obtain ⟨c9, cs9, rfl, hl9⟩ := len_cons hl8
  obtain ⟨c10, cs10, rfl, hl10⟩ := len_cons hl9
  obtain ⟨c11, cs11, rfl, hl11⟩ := len_cons hl10
  obtain rfl := List.length_eq_zero_iff.1 hl11
  obtain ⟨x0, xs0, rfl, hlen0⟩ := len_cons hlen
  obtain ⟨x1, xs1, rfl, hlen1⟩ := len_cons hlen0
  obtain ⟨x2, xs2, rfl, hlen2⟩ := len_cons hlen1
  obtain ⟨x3, xs3, rfl, hlen3⟩ := len_cons hlen2
  obtain ⟨x4, xs4, rfl, hlen4⟩ := len_cons hlen3
  obtain ⟨x5, xs5, rfl, hlen5⟩ := len_cons hlen4
  obtain ⟨x6, xs6, rfl, hlen6⟩ := len_cons hlen5
  obtain ⟨x7, xs7, rfl, hlen7⟩ := len_cons hlen6
  obtain ⟨x8, xs8, rfl, hlen8⟩ := len_cons hlen7
  obtain ⟨x9, xs9, rfl, hlen9⟩ := len_cons hlen8
  obtain rfl := List.length_eq_zero_iff.1 hlen9
  have h0 := hfld 0 _ rfl
  have h1 := hfld 1 _ rfl
  have h2 := hfld 2 _ rfl
  have h3 := hfld 3 _ rfl
  have h4 := hfld 4 _ rfl
  have h5 := hfld 5 _ rfl
  have h6 := hfld 6 _ rfl
  have h7 := hfld 7 _ rfl
  have h8 := hfld 8 _ rfl
  have h9 := hfld 9 _ rfl
  have hz6 := sizes_part Tryz.underlying71 hz 6 rfl rfl
  have hz9 := sizes_part Tryz.underlying71 hz 9 rfl rfl
  simp [cStr, cInt, cStps, cWin] at h0 h1 h2 h3 h4 h5 h6 h7 h8 h9
  obtain ⟨s0, e0, -, -⟩ := DataW.trod_string Tryz.underlying9 h0
  obtain ⟨s1, e1, -, -⟩ := DataW.trod_string Tryz.underlying9 h1
  obtain ⟨s2, e2, -, -⟩ := DataW.trod_string Tryz.underlying9 h2
  obtain ⟨k3, e3, -, -⟩ := DataW.trod_int Tryz.underlying3 h3
  obtain ⟨k4, e4, -, -⟩ := DataW.trod_int Tryz.underlying3 h4
  obtain ⟨k5, e5, -, -⟩ := DataW.trod_int Tryz.underlying3 h5
  obtain ⟨k8, e8, -, -⟩ := DataW.trod_int Tryz.underlying3 h8
  obtain ⟨p, hp1, hp2⟩ := stps_open h6 hz6
  obtain ⟨q, hq1, hq2⟩ := stps_open h9 hz9
  obtain ⟨ws, mw, rfl, -, hwl, hwlen, hwf⟩ := DataW.trod_struct Tryz.underlying69 h7
  replace hwlen : ws.length = 3 := hwlen
  obtain ⟨w0, ws0, rfl, hwlen0⟩ := len_cons hwlen
  obtain ⟨w1, ws1, rfl, hwlen1⟩ := len_cons hwlen0
  obtain ⟨w2, ws2, rfl, hwlen2⟩ := len_cons hwlen1
  obtain rfl := List.length_eq_zero_iff.1 hwlen2
  have g0 := hwf 0 _ rfl
  have g1 := hwf 1 _ rfl
  have g2 := hwf 2 _ rfl
  simp [cInt] at g0 g1 g2
  obtain ⟨i0, d0, -, -⟩ := DataW.trod_int Tryz.underlying3 g0
  obtain ⟨i1, d1, -, -⟩ := DataW.trod_int Tryz.underlying3 g1
  obtain ⟨i2, d2, -, -⟩ := DataW.trod_int Tryz.underlying3 g2
  simp at e0 e1 e2 e3 e4 e5 e8 d0 d1 d2
  subst e0 e1 e2 e3 e4 e5 e8 d0 d1 d2
  exact ⟨⟨⟨s0, s1, s2, k3, k4, k5, p, i0, i1, i2, k8, q⟩, c6, c11⟩, rfl, hp1, hq1, hp2, hq2⟩
/-- A PLAN THAT CAME IN. -/
theorem open_plan {v : Value} {d : DataW H} {p : List MemPlace} (hv : Value.okWide Tryz.prog W .any 0 25 v) (h : DataW.Trod enc Tryz.prog W 0 (fun _ => true) true 25 v d p) (hsz : SizesOk 25 d) :
    ∃ tv fv tops fl, v = .agg #[tv, fv] ∧ PlanAt W tv fv tops fl ∧ SmallFlows fl ∧ fl.length ≤ 1000000000000 := by
  obtain ⟨v0, v1, y0, y1, n, rfl, rfl, rfl, h0, h1⟩ := open_agg2 Tryz.underlying25 (by kernel_rfl) cPlan hv h
  have z0 := sizes_part Tryz.underlying25 hsz 0 rfl rfl
  have z1 := sizes_part Tryz.underlying25 hsz 1 rfl rfl
  obtain ⟨tops, ht, -, -⟩ := open_rows (Good := fun _ => True) ⟨⟨#[]⟩, 0⟩ topCells Tryz.underlying22 cTop (by decide) (fun _ => rfl) h0 z0 top_each
  obtain ⟨fl, hf, hg, hb⟩ := open_rows (Good := GoodFlw W) ⟨⟨⟨#[]⟩, ⟨#[]⟩, ⟨#[]⟩, 0, 0, 0, [], 0, 0, 0, 0, []⟩, .slice none 0 0, .slice none 0 0⟩ flwvCells Tryz.underlying23 cFlw (by decide) (fun _ => rfl) h1 z1 flw_each
  rw [bFlw] at hb
  unfold reachBytes at hb
  exact ⟨v0, v1, tops, fl, rfl, ⟨ht, hf, fun x hx => (hg x hx).1, fun x hx => (hg x hx).2.1⟩, fun x hx => (hg x hx).2.2, by omega⟩
end Go.Proofs.YtkjajlolfcioiaaGreatDoor.Rw

/- commands that came in: from their reading to the walks' facts. -/
namespace Go.Proofs.YtkjajlolfcioiaaGreatDoor.Rw
open Go Go.Lib Go.Joins Go.RowKit Go.ChangeShapes Go.WideShapes Go.Proofs.YtkjajlolfcioiaaGreatDoor.Check Go.Proofs.YtkjajlolfcioiaaGreatDoor.Plan Go.Proofs.YtkjajlolfcioiaaGreatDoor.Ctl Go.Proofs.YtkjajlolfcioiaaGreatDoor.Control
set_option maxRecDepth 100000
variable {H : Type} {enc : TypeId × Value → H} {W : World}
theorem cPart : Tryz.prog.cellsOf 75 = 2 := by kernel_rfl
theorem cParts : Tryz.prog.cellsOf 53 = 1 := by kernel_rfl
theorem cCmd : Tryz.prog.cellsOf 60 = 8 := by kernel_rfl
theorem part_each (n : Nat) (cs : List Value) (y : DataW H × List MemPlace) (h : DataW.trod enc Tryz.prog W 0 (fun _ => true) true n 75 cs = some y) (_ : SizesOk 75 y.1) : ∃ a : Int × Int, cs = partCells a ∧ True := by
  obtain ⟨xs, m, rfl, rfl, hl, hlen, hfld⟩ := DataW.trod_struct Tryz.underlying75 h
  rw [cPart] at hl
  replace hlen : xs.length = 2 := hlen
  obtain ⟨c0, cs0, rfl, hl0⟩ := len_cons hl
  obtain ⟨c1, cs1, rfl, hl1⟩ := len_cons hl0
  obtain rfl := List.length_eq_zero_iff.1 hl1
  obtain ⟨x0, xs0, rfl, hlen0⟩ := len_cons hlen
  obtain ⟨x1, xs1, rfl, hlen1⟩ := len_cons hlen0
  obtain rfl := List.length_eq_zero_iff.1 hlen1
  have h0 := hfld 0 _ rfl
  have h1 := hfld 1 _ rfl
  simp [cInt] at h0 h1
  obtain ⟨j, e0, -, -⟩ := DataW.trod_int Tryz.underlying3 h0
  obtain ⟨k, e1, -, -⟩ := DataW.trod_int Tryz.underlying3 h1
  simp at e0 e1
  subst e0 e1
  exact ⟨(j, k), rfl, trivial⟩
theorem parts_open {fuel : Nat} {x : DataW H × List MemPlace} {v : Value} (h : DataW.trod enc Tryz.prog W 0 (fun _ => true) true fuel 53 [v] = some x) (hsz : SizesOk 53 x.1) : ∃ l : List (Int × Int), PartsAt W v l := by
  obtain ⟨l, h1, -, -⟩ := open_rows (Good := fun _ => True) ((0, 0) : Int × Int) partCells Tryz.underlying53 cPart (by decide) (fun _ => rfl) h hsz part_each
  exact ⟨l, h1⟩
structure CmdV where
  c : Cmd
  v : Value
def cmdvCells (x : CmdV) : List Value := (cmdCells x.c x.v).toList
theorem cmd_each (n : Nat) (cs : List Value) (y : DataW H × List MemPlace) (h : DataW.trod enc Tryz.prog W 0 (fun _ => true) true n 60 cs = some y) (hz : SizesOk 60 y.1) : ∃ a : CmdV, cs = cmdvCells a ∧ PartsAt W a.v a.c.parts := by
  obtain ⟨xs, m, rfl, rfl, hl, hlen, hfld⟩ := DataW.trod_struct Tryz.underlying60 h
  rw [cCmd] at hl
  replace hlen : xs.length = 8 := hlen
  obtain ⟨c0, cs0, rfl, hl0⟩ := len_cons hl
  obtain ⟨c1, cs1, rfl, hl1⟩ := len_cons hl0
  obtain ⟨c2, cs2, rfl, hl2⟩ := len_cons hl1
  obtain ⟨c3, cs3, rfl, hl3⟩ := len_cons hl2
  obtain ⟨c4, cs4, rfl, hl4⟩ := len_cons hl3
  obtain ⟨c5, cs5, rfl, hl5⟩ := len_cons hl4
  obtain ⟨c6, cs6, rfl, hl6⟩ := len_cons hl5
  obtain ⟨c7, cs7, rfl, hl7⟩ := len_cons hl6
  obtain rfl := List.length_eq_zero_iff.1 hl7
  obtain ⟨x0, xs0, rfl, hlen0⟩ := len_cons hlen
  obtain ⟨x1, xs1, rfl, hlen1⟩ := len_cons hlen0
  obtain ⟨x2, xs2, rfl, hlen2⟩ := len_cons hlen1
  obtain ⟨x3, xs3, rfl, hlen3⟩ := len_cons hlen2
  obtain ⟨x4, xs4, rfl, hlen4⟩ := len_cons hlen3
  obtain ⟨x5, xs5, rfl, hlen5⟩ := len_cons hlen4
  obtain ⟨x6, xs6, rfl, hlen6⟩ := len_cons hlen5
  obtain ⟨x7, xs7, rfl, hlen7⟩ := len_cons hlen6
  obtain rfl := List.length_eq_zero_iff.1 hlen7
  have h0 := hfld 0 _ rfl
  have h1 := hfld 1 _ rfl
  have h2 := hfld 2 _ rfl
  have h3 := hfld 3 _ rfl
  have h4 := hfld 4 _ rfl
  have h5 := hfld 5 _ rfl
  have h6 := hfld 6 _ rfl
  have h7 := hfld 7 _ rfl
  have hz7 := sizes_part Tryz.underlying60 hz 7 rfl rfl
  simp [cInt, cParts] at h0 h1 h2 h3 h4 h5 h6 h7
  obtain ⟨k0, e0, -, -⟩ := DataW.trod_int Tryz.underlying3 h0
  obtain ⟨k1, e1, -, -⟩ := DataW.trod_int Tryz.underlying3 h1
  obtain ⟨k2, e2, -, -⟩ := DataW.trod_int Tryz.underlying3 h2
  obtain ⟨k3, e3, -, -⟩ := DataW.trod_int Tryz.underlying3 h3
  obtain ⟨k4, e4, -, -⟩ := DataW.trod_int Tryz.underlying3 h4
  obtain ⟨k5, e5, -, -⟩ := DataW.trod_int Tryz.underlying3 h5
  obtain ⟨k6, e6, -, -⟩ := DataW.trod_int Tryz.underlying3 h6
  obtain ⟨l, hpl⟩ := parts_open h7 hz7
  simp at e0 e1 e2 e3 e4 e5 e6
  subst e0 e1 e2 e3 e4 e5 e6
  exact ⟨⟨⟨k0, k1, k2, k3, k4, k5, k6, l⟩, c7⟩, rfl, hpl⟩
/-- A COMMAND THAT CAME IN. -/
theorem open_cmd {v : Value} {d : DataW H} {p : List MemPlace} (hv : Value.okWide Tryz.prog W .any 0 60 v) (h : DataW.Trod enc Tryz.prog W 0 (fun _ => true) true 60 v d p) (hsz : SizesOk 60 d) :
    ∃ x : CmdV, v = .agg (cmdCells x.c x.v) ∧ PartsAt W x.v x.c.parts := by
  obtain ⟨cs, rfl, -⟩ := okWide_struct Tryz.underlying60 hv
  obtain ⟨fuel, hf⟩ := h
  obtain ⟨x, hx, hp⟩ := cmd_each fuel _ _ hf hsz
  refine ⟨x, ?_, hp⟩
  have : cs.toList = (cmdCells x.c x.v).toList := hx
  rw [show cs = cmdCells x.c x.v from by rw [← Array.toArray_toList (xs := cs), this]]
/-- COMMANDS THAT CAME IN. -/
theorem open_cmds {v : Value} {d : DataW H} {p : List MemPlace} (hv : Value.okWide Tryz.prog W .any 0 47 v) (h : DataW.Trod enc Tryz.prog W 0 (fun _ => true) true 47 v d p) (hsz : SizesOk 47 d) :
    ∃ l : List CmdV, SliceAt W v l.length (l.flatMap cmdvCells) ∧ (∀ x ∈ l, PartsAt W x.v x.c.parts) ∧ l.length ≤ 1000000000000000 := by
  obtain ⟨a0, n, c, rfl⟩ := okWide_slice Tryz.underlying47 hv
  obtain ⟨fuel, hf⟩ := h
  have hf2 : DataW.trod enc Tryz.prog W 0 (fun _ => true) true fuel 47 [.slice a0 n c] = some (d, p) := hf
  obtain ⟨l, h1, h2, h3⟩ := open_rows (Good := fun x : CmdV => PartsAt W x.v x.c.parts) ⟨⟨0, 0, 0, 0, 0, 0, 0, []⟩, .slice none 0 0⟩ cmdvCells Tryz.underlying47 cCmd (by decide) (fun _ => rfl) hf2 hsz cmd_each
  refine ⟨l, h1, h2, ?_⟩
  have hb : Tryz.prog.bytesOf 60 = 80 := by kernel_rfl
  rw [hb] at h3
  unfold reachBytes at h3
  omega
end Go.Proofs.YtkjajlolfcioiaaGreatDoor.Rw
