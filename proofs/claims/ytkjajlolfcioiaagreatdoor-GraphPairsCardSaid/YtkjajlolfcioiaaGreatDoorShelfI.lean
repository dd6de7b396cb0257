/-
  DERIVED: THE SHELF's CONTRACTS AT THIS DUMP, IN PLAIN WORDS (tools/lay-plain.mjs out of 'YtkjajlolfcioiaaGreatDoorShelfI.lean', which tools/lay-shelf.mjs wrote): THE SAME DECLARATIONS UNDER THE SAME NAMES: 'import', 'namespace', 'open', 'def', 'theorem' AND NOTHING ELSE: no command of the shelf's: FOR A HAND-IN. Each laying: the table of numbers ('.._ren') and one theorem, a field a fact of the dump's own or the kernel's comparison; each contract: ONE APPLICATION.
-/
import Derived.Shelf.SlIterI.Nil
import Derived.Shelf.SlIterI.Sorted
import Derived.Shelf.SortM.Plain
import Derived.Shelf.SortM.SortNone
import Derived.Ground.GgzProg
import Derived.Ground.SlgmProg
import Derived.Test.YtkjajlolfcioiaaGreatDoorProg
namespace Go.Proofs
open Go.Shelf
def Tryz.keysI_ren : Go.Shelf.Ren := ⟨fun | 7 => 104 | 10 => 127 | n => n, fun | 23 => 101 | 26 => 3 | 3 => 100 | 28 => 140 | 0 => 0 | 27 => 139 | 33 => 104 | 4 => 4 | n => n, fun | n => n⟩
theorem Tryz.keysI : Go.Proofs.SlLaysZI.n7 Tryz.prog Tryz.keysI_ren := {
  mixed := by kernel_rfl
  f7 := ⟨Tryz.f104.name, by decide, Tryz.func104.trans (congrArg some (by kernel_rfl))⟩
  f10 := ⟨Tryz.f127.name, by decide, Tryz.func127.trans (congrArg some (by kernel_rfl))⟩
  t0 := Tryz.underlying0
  a0 := Tryz.isAgg0
  z0 := Tryz.sizeOf0
  v0 := Tryz.zeroValue0
  t4 := Tryz.underlying4
  a4 := Tryz.isAgg4
  z4 := Tryz.sizeOf4
  v4 := Tryz.zeroValue4
  t23 := Tryz.underlying101
  a23 := Tryz.isAgg101
  z23 := Tryz.sizeOf101
  v23 := Tryz.zeroValue101
  t26 := Tryz.underlying3
  a26 := Tryz.isAgg3
  z26 := Tryz.sizeOf3
  v26 := Tryz.zeroValue3
  t27 := Tryz.underlying139
  a27 := Tryz.isAgg139
  z27 := Tryz.sizeOf139
  v27 := Tryz.zeroValue139
  t28 := Tryz.underlying140
  a28 := Tryz.isAgg140
  z28 := Tryz.sizeOf140
  v28 := Tryz.zeroValue140
  t33 := Tryz.underlying104
  a33 := Tryz.isAgg104
  z33 := Tryz.sizeOf104
  v33 := Tryz.zeroValue104 }
def Tryz.sortedI_ren : Go.Shelf.Ren := ⟨fun | 6 => 85 | 8 => 116 | 9 => 117 | 11 => 134 | 13 => 130 | 12 => 135 | 23 => 157 | 24 => 158 | 14 => 159 | 15 => 160 | 16 => 161 | 17 => 162 | 18 => 163 | 19 => 164 | 20 => 165 | 21 => 166 | 22 => 167 | 25 => 182 | 26 => 178 | 27 => 179 | 28 => 183 | 29 => 184 | 30 => 109 | 31 => 194 | n => n, fun | 26 => 3 | 28 => 140 | 24 => 30 | 0 => 0 | 3 => 3 | 37 => 177 | 48 => 224 | 50 => 176 | 4 => 4 | 40 => 218 | 39 => 217 | 45 => 163 | 5 => 5 | 9 => 9 | 51 => 246 | 55 => 149 | 57 => 262 | 58 => 180 | 33 => 104 | n => n, fun | n => n⟩
theorem Tryz.sortedI : Go.Proofs.SlLaysZI.n6 Tryz.prog Tryz.sortedI_ren := {
  mixed := by kernel_rfl
  f6 := ⟨Tryz.f85.name, by decide, Tryz.func85.trans (congrArg some (by kernel_rfl))⟩
  f8 := ⟨Tryz.f116.name, by decide, Tryz.func116.trans (congrArg some (by kernel_rfl))⟩
  f11 := ⟨Tryz.f134.name, by decide, Tryz.func134.trans (congrArg some (by kernel_rfl))⟩
  t0 := Tryz.underlying0
  a0 := Tryz.isAgg0
  z0 := Tryz.sizeOf0
  v0 := Tryz.zeroValue0
  t24 := Tryz.underlying30
  a24 := Tryz.isAgg30
  z24 := Tryz.sizeOf30
  v24 := Tryz.zeroValue30
  t26 := Tryz.underlying3
  a26 := Tryz.isAgg3
  z26 := Tryz.sizeOf3
  v26 := Tryz.zeroValue3
  t28 := Tryz.underlying140
  a28 := Tryz.isAgg140
  z28 := Tryz.sizeOf140
  v28 := Tryz.zeroValue140
  i26 := by kernel_rfl }
def Tryz.sortI_ren : Go.Shelf.Ren := ⟨fun | 5 => 117 | 8 => 130 | 7 => 135 | 19 => 157 | 20 => 158 | 10 => 159 | 11 => 160 | 12 => 161 | 13 => 162 | 14 => 163 | 15 => 164 | 16 => 165 | 17 => 166 | 18 => 167 | 30 => 182 | 31 => 178 | 32 => 179 | 33 => 183 | 34 => 184 | 35 => 109 | 40 => 194 | n => n, fun | 23 => 30 | 25 => 3 | 3 => 3 | 32 => 177 | 22 => 30 | 0 => 0 | 44 => 224 | 46 => 176 | 4 => 4 | 36 => 218 | 35 => 217 | 41 => 163 | 5 => 5 | 9 => 9 | 53 => 246 | 57 => 149 | 63 => 262 | 64 => 180 | n => n, fun | n => n⟩
theorem Tryz.sortI : Go.Proofs.SlLaysM.n5 Tryz.prog Tryz.sortI_ren := {
  mixed := by kernel_rfl
  f5 := ⟨Tryz.f117.name, by decide, Tryz.func117.trans (congrArg some (by kernel_rfl))⟩
  f7 := ⟨Tryz.f135.name, by decide, Tryz.func135.trans (congrArg some (by kernel_rfl))⟩
  f8 := Tryz.func130.trans (congrArg some (by kernel_rfl))
  f10 := ⟨Tryz.f159.name, by decide, Tryz.func159.trans (congrArg some (by kernel_rfl))⟩
  f11 := ⟨Tryz.f160.name, by decide, Tryz.func160.trans (congrArg some (by kernel_rfl))⟩
  f12 := ⟨Tryz.f161.name, by decide, Tryz.func161.trans (congrArg some (by kernel_rfl))⟩
  f13 := ⟨Tryz.f162.name, by decide, Tryz.func162.trans (congrArg some (by kernel_rfl))⟩
  f14 := ⟨Tryz.f163.name, by decide, Tryz.func163.trans (congrArg some (by kernel_rfl))⟩
  f15 := ⟨Tryz.f164.name, by decide, Tryz.func164.trans (congrArg some (by kernel_rfl))⟩
  f16 := ⟨Tryz.f165.name, by decide, Tryz.func165.trans (congrArg some (by kernel_rfl))⟩
  f17 := ⟨Tryz.f166.name, by decide, Tryz.func166.trans (congrArg some (by kernel_rfl))⟩
  f18 := ⟨Tryz.f167.name, by decide, Tryz.func167.trans (congrArg some (by kernel_rfl))⟩
  f19 := Tryz.func157.trans (congrArg some (by kernel_rfl))
  f20 := Tryz.func158.trans (congrArg some (by kernel_rfl))
  f30 := ⟨Tryz.f182.name, by decide, Tryz.func182.trans (congrArg some (by kernel_rfl))⟩
  f31 := Tryz.func178.trans (congrArg some (by kernel_rfl))
  f32 := Tryz.func179.trans (congrArg some (by kernel_rfl))
  f33 := ⟨Tryz.f183.name, by decide, Tryz.func183.trans (congrArg some (by kernel_rfl))⟩
  f34 := ⟨Tryz.f184.name, by decide, Tryz.func184.trans (congrArg some (by kernel_rfl))⟩
  f35 := ⟨Tryz.f109.name, by decide, Tryz.func109.trans (congrArg some (by kernel_rfl))⟩
  f40 := ⟨Tryz.f194.name, by decide, Tryz.func194.trans (congrArg some (by kernel_rfl))⟩
  t0 := Tryz.underlying0
  a0 := Tryz.isAgg0
  z0 := Tryz.sizeOf0
  v0 := Tryz.zeroValue0
  t3 := Tryz.underlying3
  a3 := Tryz.isAgg3
  z3 := Tryz.sizeOf3
  v3 := Tryz.zeroValue3
  t4 := Tryz.underlying4
  a4 := Tryz.isAgg4
  z4 := Tryz.sizeOf4
  v4 := Tryz.zeroValue4
  t5 := Tryz.underlying5
  a5 := Tryz.isAgg5
  z5 := Tryz.sizeOf5
  v5 := Tryz.zeroValue5
  t9 := Tryz.underlying9
  a9 := Tryz.isAgg9
  z9 := Tryz.sizeOf9
  v9 := Tryz.zeroValue9
  t22 := Tryz.underlying30
  a22 := Tryz.isAgg30
  z22 := Tryz.sizeOf30
  v22 := Tryz.zeroValue30
  t23 := Tryz.underlying30
  a23 := Tryz.isAgg30
  z23 := Tryz.sizeOf30
  v23 := Tryz.zeroValue30
  t25 := Tryz.underlying3
  a25 := Tryz.isAgg3
  z25 := Tryz.sizeOf3
  v25 := Tryz.zeroValue3
  t32 := Tryz.underlying177
  a32 := Tryz.isAgg177
  z32 := Tryz.sizeOf177
  v32 := Tryz.zeroValue177
  t35 := Tryz.underlying217
  a35 := Tryz.isAgg217
  z35 := Tryz.sizeOf217
  v35 := Tryz.zeroValue217
  t36 := Tryz.underlying218
  a36 := Tryz.isAgg218
  z36 := Tryz.sizeOf218
  v36 := Tryz.zeroValue218
  t41 := Tryz.underlying163
  a41 := Tryz.isAgg163
  z41 := Tryz.sizeOf163
  v41 := Tryz.zeroValue163
  t44 := Tryz.underlying224
  a44 := Tryz.isAgg224
  z44 := Tryz.sizeOf224
  v44 := Tryz.zeroValue224
  t46 := Tryz.underlying176
  a46 := Tryz.isAgg176
  z46 := Tryz.sizeOf176
  v46 := Tryz.zeroValue176
  t53 := Tryz.underlying246
  a53 := Tryz.isAgg246
  z53 := Tryz.sizeOf246
  v53 := Tryz.zeroValue246
  t57 := Tryz.underlying149
  a57 := Tryz.isAgg149
  z57 := Tryz.sizeOf149
  v57 := Tryz.zeroValue149
  t63 := Tryz.underlying262
  a63 := Tryz.isAgg262
  z63 := Tryz.sizeOf262
  v63 := Tryz.zeroValue262
  t64 := Tryz.underlying180
  a64 := Tryz.isAgg180
  z64 := Tryz.sizeOf180
  v64 := Tryz.zeroValue180 }
end Go.Proofs
