/- commands that came in, with the bounds of their numbers. -/
import Derived.Test.YtkjajlolfcioiaaGreatDoorYRowPlan
import Derived.Test.YtkjajlolfcioiaaGreatDoorYPackP
namespace Go.Proofs.YtkjajlolfcioiaaGreatDoor.Rw
open Go Go.Lib Go.Joins Go.RowKit Go.ChangeShapes Go.WideShapes Go.Proofs.YtkjajlolfcioiaaGreatDoor.Check Go.Proofs.YtkjajlolfcioiaaGreatDoor.Plan Go.Proofs.YtkjajlolfcioiaaGreatDoor.Ctl Go.Proofs.YtkjajlolfcioiaaGreatDoor.Control Go.Proofs.YtkjajlolfcioiaaGreatDoor.Pack
set_option maxRecDepth 100000
variable {H : Type} {enc : TypeId × Value → H} {W : World}
theorem lit_i64 {k : Int} (h : (Lit.int .i64 k).wf = true) : I64 k := by
  have h2 : (decide (IntKind.i64.min ≤ k) && decide (k ≤ IntKind.i64.max)) = true := h
  have h3 := Bool.and_eq_true_iff.1 h2
  have h4 := of_decide_eq_true h3.1
  have h5 := of_decide_eq_true h3.2
  exact ⟨h4, h5⟩
theorem part_eachI (n : Nat) (cs : List Value) (y : DataW H × List MemPlace) (h : DataW.trod enc Tryz.prog W 0 (fun _ => true) true n 75 cs = some y) (_ : SizesOk 75 y.1) : ∃ a : Int × Int, cs = partCells a ∧ (I64 a.1 ∧ I64 a.2) := by
  obtain ⟨xs, m, rfl, rfl, hl, hlen, hfld⟩ := DataW.trod_struct Tryz.underlying75 h
  rw [cPart] at hl
  replace hlen : xs.length = 2 := hlen
  obtain ⟨c0, cs0, rfl, hl0⟩ := len_cons hl
  obtain ⟨c1, cs1, rfl, hl1⟩ := len_cons hl0
  obtain rfl := List.length_eq_zero_iff.1 hl1
  obtain ⟨x0, xs0, rfl, hlen0⟩ := len_cons hlen
  obtain ⟨x1, xs1, rfl, hlen1⟩ := len_cons hlen0
  obtain rfl := List.length_eq_zero_iff.1 hlen1
  have h0 := hfld 0 _ rfl
  have h1 := hfld 1 _ rfl
  simp [cInt] at h0 h1
  obtain ⟨j, e0, -, f0⟩ := DataW.trod_int Tryz.underlying3 h0
  obtain ⟨k, e1, -, f1⟩ := DataW.trod_int Tryz.underlying3 h1
  simp at e0 e1
  subst e0 e1
  exact ⟨(j, k), rfl, lit_i64 f0, lit_i64 f1⟩
theorem parts_openI {fuel : Nat} {x : DataW H × List MemPlace} {v : Value} (h : DataW.trod enc Tryz.prog W 0 (fun _ => true) true fuel 53 [v] = some x) (hsz : SizesOk 53 x.1) : ∃ l : List (Int × Int), PartsAt W v l ∧ ∀ p ∈ l, I64 p.1 ∧ I64 p.2 := by
  obtain ⟨l, h1, h2, -⟩ := open_rows (Good := fun p : Int × Int => I64 p.1 ∧ I64 p.2) ((0, 0) : Int × Int) partCells Tryz.underlying53 cPart (by decide) (fun _ => rfl) h hsz part_eachI
  exact ⟨l, h1, h2⟩
theorem cmd_eachI (n : Nat) (cs : List Value) (y : DataW H × List MemPlace) (h : DataW.trod enc Tryz.prog W 0 (fun _ => true) true n 60 cs = some y) (hz : SizesOk 60 y.1) : ∃ a : CmdV, cs = cmdvCells a ∧ PartsAt W a.v a.c.parts ∧ CmdI a.c := by
  obtain ⟨xs, m, rfl, rfl, hl, hlen, hfld⟩ := DataW.trod_struct Tryz.underlying60 h
  rw [cCmd] at hl
  replace hlen : xs.length = 8 := hlen
  obtain ⟨c0, cs0, rfl, hl0⟩ := len_cons hl
  obtain ⟨c1, cs1, rfl, hl1⟩ := len_cons hl0
  obtain ⟨c2, cs2, rfl, hl2⟩ := len_cons hl1
  obtain ⟨c3, cs3, rfl, hl3⟩ := len_cons hl2
  obtain ⟨c4, cs4, rfl, hl4⟩ := len_cons hl3
  obtain ⟨c5, cs5, rfl, hl5⟩ := len_cons hl4
  obtain ⟨c6, cs6, rfl, hl6⟩ := len_cons hl5
  obtain ⟨c7, cs7, rfl, hl7⟩ := len_cons hl6
  obtain rfl := List.length_eq_zero_iff.1 hl7
  obtain ⟨x0, xs0, rfl, hlen0⟩ := len_cons hlen
  obtain ⟨x1, xs1, rfl, hlen1⟩ := len_cons hlen0
  obtain ⟨x2, xs2, rfl, hlen2⟩ := len_cons hlen1
  obtain ⟨x3, xs3, rfl, hlen3⟩ := len_cons hlen2
  obtain ⟨x4, xs4, rfl, hlen4⟩ := len_cons hlen3
  obtain ⟨x5, xs5, rfl, hlen5⟩ := len_cons hlen4
  obtain ⟨x6, xs6, rfl, hlen6⟩ := len_cons hlen5
  obtain ⟨x7, xs7, rfl, hlen7⟩ := len_cons hlen6
  obtain rfl := List.length_eq_zero_iff.1 hlen7
  have h0 := hfld 0 _ rfl
  have h1 := hfld 1 _ rfl
  have h2 := hfld 2 _ rfl
  have h3 := hfld 3 _ rfl
  have h4 := hfld 4 _ rfl
  have h5 := hfld 5 _ rfl
  have h6 := hfld 6 _ rfl
  have h7 := hfld 7 _ rfl
  have hz7 := sizes_part Tryz.underlying60 hz 7 rfl rfl
  simp [cInt, cParts] at h0 h1 h2 h3 h4 h5 h6 h7
  obtain ⟨k0, e0, -, f0⟩ := DataW.trod_int Tryz.underlying3 h0
  obtain ⟨k1, e1, -, f1⟩ := DataW.trod_int Tryz.underlying3 h1
  obtain ⟨k2, e2, -, f2⟩ := DataW.trod_int Tryz.underlying3 h2
  obtain ⟨k3, e3, -, f3⟩ := DataW.trod_int Tryz.underlying3 h3
  obtain ⟨k4, e4, -, f4⟩ := DataW.trod_int Tryz.underlying3 h4
  obtain ⟨k5, e5, -, f5⟩ := DataW.trod_int Tryz.underlying3 h5
  obtain ⟨k6, e6, -, f6⟩ := DataW.trod_int Tryz.underlying3 h6
  obtain ⟨l, hpl, hpi⟩ := parts_openI h7 hz7
  simp at e0 e1 e2 e3 e4 e5 e6
  subst e0 e1 e2 e3 e4 e5 e6
  exact ⟨⟨⟨k0, k1, k2, k3, k4, k5, k6, l⟩, c7⟩, rfl, hpl, ⟨lit_i64 f0, lit_i64 f1, lit_i64 f2, lit_i64 f3, lit_i64 f4, lit_i64 f5, lit_i64 f6, hpi⟩⟩
/-- A COMMAND THAT CAME IN. -/
theorem open_cmdI {v : Value} {d : DataW H} {p : List MemPlace} (hv : Value.okWide Tryz.prog W .any 0 60 v) (h : DataW.Trod enc Tryz.prog W 0 (fun _ => true) true 60 v d p) (hsz : SizesOk 60 d) :
    ∃ x : CmdV, v = .agg (cmdCells x.c x.v) ∧ PartsAt W x.v x.c.parts ∧ CmdI x.c := by
  obtain ⟨cs, rfl, -⟩ := okWide_struct Tryz.underlying60 hv
  obtain ⟨fuel, hf⟩ := h
  obtain ⟨x, hx, hp, hpi⟩ := cmd_eachI fuel _ _ hf hsz
  refine ⟨x, ?_, hp, hpi⟩
  have : cs.toList = (cmdCells x.c x.v).toList := hx
  rw [show cs = cmdCells x.c x.v from by rw [← Array.toArray_toList (xs := cs), this]]
/-- COMMANDS THAT CAME IN. -/
theorem open_cmdsI {v : Value} {d : DataW H} {p : List MemPlace} (hv : Value.okWide Tryz.prog W .any 0 47 v) (h : DataW.Trod enc Tryz.prog W 0 (fun _ => true) true 47 v d p) (hsz : SizesOk 47 d) :
    ∃ l : List CmdV, SliceAt W v l.length (l.flatMap cmdvCells) ∧ (∀ x ∈ l, PartsAt W x.v x.c.parts ∧ CmdI x.c) ∧ l.length ≤ 1000000000000000 := by
  obtain ⟨a0, n, c, rfl⟩ := okWide_slice Tryz.underlying47 hv
  obtain ⟨fuel, hf⟩ := h
  have hf2 : DataW.trod enc Tryz.prog W 0 (fun _ => true) true fuel 47 [.slice a0 n c] = some (d, p) := hf
  obtain ⟨l, h1, h2, h3⟩ := open_rows (Good := fun x : CmdV => PartsAt W x.v x.c.parts ∧ CmdI x.c) ⟨⟨0, 0, 0, 0, 0, 0, 0, []⟩, .slice none 0 0⟩ cmdvCells Tryz.underlying47 cCmd (by decide) (fun _ => rfl) hf2 hsz cmd_eachI
  refine ⟨l, h1, h2, ?_⟩
  have hb : Tryz.prog.bytesOf 60 = 80 := by kernel_rfl
  rw [hb] at h3
  unfold reachBytes at h3
  omega
end Go.Proofs.YtkjajlolfcioiaaGreatDoor.Rw
