/-
  DERIVED: THE SHELF's CONTRACTS AT THIS DUMP, IN PLAIN WORDS (tools/lay-plain.mjs out of 'YtfjomnhdmkbkiaaDoorDfS.lean', which tools/lay-shelf.mjs wrote): THE SAME DECLARATIONS UNDER THE SAME NAMES: 'import', 'namespace', 'open', 'def', 'theorem' AND NOTHING ELSE: no command of the shelf's: FOR A HAND-IN. Each laying: the table of numbers ('.._ren') and one theorem, a field a fact of the dump's own or the kernel's comparison; each contract: ONE APPLICATION.
-/
import Derived.Test.YtfjomnhdmkbkiaaDoorProg
import Derived.Ground.NamesProg
import Derived.Ground.Names2Prog
import Derived.Ground.Names7Prog
import Derived.Shelf.Spec.TrailingZeros
import Derived.Shelf.Slices.Clone
import Derived.Shelf.Slices.CompactI
import Derived.Shelf.Sort.Plain
import Derived.Shelf.Slices.In.SortNone
namespace Go.Proofs
open Go.Shelf
def Tryd.laysTz_ren : Go.Shelf.Ren := ⟨fun | 29 => 88 | n => n, fun | 22 => 63 | 3 => 3 | 4 => 4 | 25 => 133 | 54 => 132 | 0 => 0 | 5 => 5 | n => n, fun | 1 => 0 | n => n⟩
theorem Tryd.laysTz : Go.Proofs.Lays7.n29 Tryd.prog Tryd.laysTz_ren := {
  mixed := by kernel_rfl
  f29 := Tryd.func88.trans (congrArg some (by kernel_rfl))
  t0 := Tryd.underlying0
  a0 := Tryd.isAgg0
  z0 := Tryd.sizeOf0
  v0 := Tryd.zeroValue0
  i0 := by kernel_rfl
  t3 := Tryd.underlying3
  a3 := Tryd.isAgg3
  z3 := Tryd.sizeOf3
  v3 := Tryd.zeroValue3
  i3 := by kernel_rfl
  t4 := Tryd.underlying4
  a4 := Tryd.isAgg4
  z4 := Tryd.sizeOf4
  v4 := Tryd.zeroValue4
  i4 := by kernel_rfl
  t5 := Tryd.underlying5
  a5 := Tryd.isAgg5
  z5 := Tryd.sizeOf5
  v5 := Tryd.zeroValue5
  i5 := by kernel_rfl
  t22 := Tryd.underlying63
  a22 := Tryd.isAgg63
  z22 := Tryd.sizeOf63
  v22 := Tryd.zeroValue63
  i22 := by kernel_rfl
  t25 := Tryd.underlying133
  a25 := Tryd.isAgg133
  z25 := Tryd.sizeOf133
  v25 := Tryd.zeroValue133
  i25 := by kernel_rfl
  t54 := Tryd.underlying132
  a54 := Tryd.isAgg132
  z54 := Tryd.sizeOf132
  g1 := by kernel_rfl }
def Tryd.laysClone_ren : Go.Shelf.Ren := ⟨fun | 15 => 71 | n => n, fun | 22 => 22 | 3 => 3 | 4 => 4 | n => n, fun | n => n⟩
theorem Tryd.laysClone : Go.Proofs.Lays2.n15 Tryd.prog Tryd.laysClone_ren := {
  mixed := by kernel_rfl
  f15 := Tryd.func71.trans (congrArg some (by kernel_rfl))
  t3 := Tryd.underlying3
  a3 := Tryd.isAgg3
  z3 := Tryd.sizeOf3
  v3 := Tryd.zeroValue3
  t4 := Tryd.underlying4
  a4 := Tryd.isAgg4
  z4 := Tryd.sizeOf4
  v4 := Tryd.zeroValue4
  t22 := Tryd.underlying22
  a22 := Tryd.isAgg22
  z22 := Tryd.sizeOf22
  v22 := Tryd.zeroValue22
  i3 := by kernel_rfl }
def Tryd.laysCompact_ren : Go.Shelf.Ren := ⟨fun | 20 => 90 | n => n, fun | 22 => 22 | 3 => 3 | 4 => 4 | 0 => 0 | n => n, fun | n => n⟩
theorem Tryd.laysCompact : Go.Proofs.Lays2.n20 Tryd.prog Tryd.laysCompact_ren := {
  mixed := by kernel_rfl
  f20 := Tryd.func90.trans (congrArg some (by kernel_rfl))
  t0 := Tryd.underlying0
  a0 := Tryd.isAgg0
  z0 := Tryd.sizeOf0
  v0 := Tryd.zeroValue0
  t3 := Tryd.underlying3
  a3 := Tryd.isAgg3
  z3 := Tryd.sizeOf3
  v3 := Tryd.zeroValue3
  t4 := Tryd.underlying4
  a4 := Tryd.isAgg4
  z4 := Tryd.sizeOf4
  v4 := Tryd.zeroValue4
  t22 := Tryd.underlying22
  a22 := Tryd.isAgg22
  z22 := Tryd.sizeOf22
  v22 := Tryd.zeroValue22
  i3 := by kernel_rfl }
def Tryd.laysSort_ren : Go.Shelf.Ren := ⟨fun | 189 => 89 | 125 => 94 | 257 => 93 | 128 => 105 | 129 => 106 | 294 => 96 | 295 => 97 | 296 => 98 | 297 => 99 | 298 => 100 | 299 => 101 | 216 => 102 | 300 => 103 | 301 => 104 | 328 => 107 | 329 => 108 | 330 => 109 | 331 => 110 | 332 => 111 | 215 => 112 | 343 => 113 | n => n, fun | 28 => 22 | 3 => 3 | 46 => 133 | 0 => 0 | 51 => 146 | 53 => 63 | 4 => 4 | 183 => 140 | 182 => 139 | 131 => 102 | 5 => 5 | 9 => 9 | 218 => 147 | 222 => 151 | 228 => 154 | 229 => 155 | n => n, fun | n => n⟩
theorem Tryd.laysSort : Go.Proofs.Lays.n189 Tryd.prog Tryd.laysSort_ren := {
  mixed := by kernel_rfl
  f125 := Tryd.func94.trans (congrArg some (by kernel_rfl))
  f128 := Tryd.func105.trans (congrArg some (by kernel_rfl))
  f129 := Tryd.func106.trans (congrArg some (by kernel_rfl))
  f189 := Tryd.func89.trans (congrArg some (by kernel_rfl))
  f215 := Tryd.func112.trans (congrArg some (by kernel_rfl))
  f216 := Tryd.func102.trans (congrArg some (by kernel_rfl))
  f257 := Tryd.func93.trans (congrArg some (by kernel_rfl))
  f294 := Tryd.func96.trans (congrArg some (by kernel_rfl))
  f295 := Tryd.func97.trans (congrArg some (by kernel_rfl))
  f296 := Tryd.func98.trans (congrArg some (by kernel_rfl))
  f297 := Tryd.func99.trans (congrArg some (by kernel_rfl))
  f298 := Tryd.func100.trans (congrArg some (by kernel_rfl))
  f299 := Tryd.func101.trans (congrArg some (by kernel_rfl))
  f300 := Tryd.func103.trans (congrArg some (by kernel_rfl))
  f301 := Tryd.func104.trans (congrArg some (by kernel_rfl))
  f328 := Tryd.func107.trans (congrArg some (by kernel_rfl))
  f329 := Tryd.func108.trans (congrArg some (by kernel_rfl))
  f330 := Tryd.func109.trans (congrArg some (by kernel_rfl))
  f331 := Tryd.func110.trans (congrArg some (by kernel_rfl))
  f332 := Tryd.func111.trans (congrArg some (by kernel_rfl))
  f343 := Tryd.func113.trans (congrArg some (by kernel_rfl))
  t0 := Tryd.underlying0
  a0 := Tryd.isAgg0
  z0 := Tryd.sizeOf0
  v0 := Tryd.zeroValue0
  t3 := Tryd.underlying3
  a3 := Tryd.isAgg3
  z3 := Tryd.sizeOf3
  v3 := Tryd.zeroValue3
  t4 := Tryd.underlying4
  a4 := Tryd.isAgg4
  z4 := Tryd.sizeOf4
  v4 := Tryd.zeroValue4
  t5 := Tryd.underlying5
  a5 := Tryd.isAgg5
  z5 := Tryd.sizeOf5
  v5 := Tryd.zeroValue5
  t9 := Tryd.underlying9
  a9 := Tryd.isAgg9
  z9 := Tryd.sizeOf9
  v9 := Tryd.zeroValue9
  t28 := Tryd.underlying22
  a28 := Tryd.isAgg22
  z28 := Tryd.sizeOf22
  v28 := Tryd.zeroValue22
  t46 := Tryd.underlying133
  a46 := Tryd.isAgg133
  z46 := Tryd.sizeOf133
  v46 := Tryd.zeroValue133
  t51 := Tryd.underlying146
  a51 := Tryd.isAgg146
  z51 := Tryd.sizeOf146
  v51 := Tryd.zeroValue146
  t53 := Tryd.underlying63
  a53 := Tryd.isAgg63
  z53 := Tryd.sizeOf63
  v53 := Tryd.zeroValue63
  t131 := Tryd.underlying102
  a131 := Tryd.isAgg102
  z131 := Tryd.sizeOf102
  v131 := Tryd.zeroValue102
  t182 := Tryd.underlying139
  a182 := Tryd.isAgg139
  z182 := Tryd.sizeOf139
  v182 := Tryd.zeroValue139
  t183 := Tryd.underlying140
  a183 := Tryd.isAgg140
  z183 := Tryd.sizeOf140
  v183 := Tryd.zeroValue140
  t218 := Tryd.underlying147
  a218 := Tryd.isAgg147
  z218 := Tryd.sizeOf147
  v218 := Tryd.zeroValue147
  t222 := Tryd.underlying151
  a222 := Tryd.isAgg151
  z222 := Tryd.sizeOf151
  v222 := Tryd.zeroValue151
  t228 := Tryd.underlying154
  a228 := Tryd.isAgg154
  z228 := Tryd.sizeOf154
  v228 := Tryd.zeroValue154
  t229 := Tryd.underlying155
  a229 := Tryd.isAgg155
  z229 := Tryd.sizeOf155
  v229 := Tryd.zeroValue155 }
end Go.Proofs
