/-
  The contract of slices.Sort at []int, of the library, at this program: the table of numbers, and that the bodies are the same. No conditions.
-/
import Derived.Ground.NamesProg
import Derived.Shelf.Sort.Plain
import Derived.Test.YtelghmmcbgfjnaaProg
namespace Go.Proofs
open Go.Shelf
def Ytelghmmcbgfjnaa.laysSort_ren : Go.Shelf.Ren := ⟨fun | 189 => 71 | 125 => 76 | 257 => 75 | 128 => 86 | 129 => 87 | 294 => 77 | 295 => 78 | 296 => 79 | 297 => 80 | 298 => 81 | 299 => 82 | 216 => 83 | 300 => 84 | 301 => 85 | 328 => 88 | 329 => 89 | 330 => 90 | 331 => 91 | 332 => 92 | 215 => 93 | 343 => 94 | n => n, fun | 28 => 34 | 3 => 3 | 46 => 121 | 0 => 0 | 51 => 130 | 53 => 132 | 4 => 4 | 183 => 124 | 182 => 123 | 131 => 93 | 5 => 5 | 9 => 9 | 218 => 133 | 222 => 137 | 228 => 139 | 229 => 140 | n => n, fun | n => n⟩
theorem Ytelghmmcbgfjnaa.laysSort : Go.Proofs.Lays.n189 Try.prog Ytelghmmcbgfjnaa.laysSort_ren := {
  mixed := by kernel_rfl
  f125 := Try.func76.trans (congrArg some (by kernel_rfl))
  f128 := Try.func86.trans (congrArg some (by kernel_rfl))
  f129 := Try.func87.trans (congrArg some (by kernel_rfl))
  f189 := Try.func71.trans (congrArg some (by kernel_rfl))
  f215 := Try.func93.trans (congrArg some (by kernel_rfl))
  f216 := Try.func83.trans (congrArg some (by kernel_rfl))
  f257 := Try.func75.trans (congrArg some (by kernel_rfl))
  f294 := Try.func77.trans (congrArg some (by kernel_rfl))
  f295 := Try.func78.trans (congrArg some (by kernel_rfl))
  f296 := Try.func79.trans (congrArg some (by kernel_rfl))
  f297 := Try.func80.trans (congrArg some (by kernel_rfl))
  f298 := Try.func81.trans (congrArg some (by kernel_rfl))
  f299 := Try.func82.trans (congrArg some (by kernel_rfl))
  f300 := Try.func84.trans (congrArg some (by kernel_rfl))
  f301 := Try.func85.trans (congrArg some (by kernel_rfl))
  f328 := Try.func88.trans (congrArg some (by kernel_rfl))
  f329 := Try.func89.trans (congrArg some (by kernel_rfl))
  f330 := Try.func90.trans (congrArg some (by kernel_rfl))
  f331 := Try.func91.trans (congrArg some (by kernel_rfl))
  f332 := Try.func92.trans (congrArg some (by kernel_rfl))
  f343 := Try.func94.trans (congrArg some (by kernel_rfl))
  t0 := Try.underlying0
  a0 := Try.isAgg0
  z0 := Try.sizeOf0
  v0 := Try.zeroValue0
  t3 := Try.underlying3
  a3 := Try.isAgg3
  z3 := Try.sizeOf3
  v3 := Try.zeroValue3
  t4 := Try.underlying4
  a4 := Try.isAgg4
  z4 := Try.sizeOf4
  v4 := Try.zeroValue4
  t5 := Try.underlying5
  a5 := Try.isAgg5
  z5 := Try.sizeOf5
  v5 := Try.zeroValue5
  t9 := Try.underlying9
  a9 := Try.isAgg9
  z9 := Try.sizeOf9
  v9 := Try.zeroValue9
  t28 := Try.underlying34
  a28 := Try.isAgg34
  z28 := Try.sizeOf34
  v28 := Try.zeroValue34
  t46 := Try.underlying121
  a46 := Try.isAgg121
  z46 := Try.sizeOf121
  v46 := Try.zeroValue121
  t51 := Try.underlying130
  a51 := Try.isAgg130
  z51 := Try.sizeOf130
  v51 := Try.zeroValue130
  t53 := Try.underlying132
  a53 := Try.isAgg132
  z53 := Try.sizeOf132
  v53 := Try.zeroValue132
  t131 := Try.underlying93
  a131 := Try.isAgg93
  z131 := Try.sizeOf93
  v131 := Try.zeroValue93
  t182 := Try.underlying123
  a182 := Try.isAgg123
  z182 := Try.sizeOf123
  v182 := Try.zeroValue123
  t183 := Try.underlying124
  a183 := Try.isAgg124
  z183 := Try.sizeOf124
  v183 := Try.zeroValue124
  t218 := Try.underlying133
  a218 := Try.isAgg133
  z218 := Try.sizeOf133
  v218 := Try.zeroValue133
  t222 := Try.underlying137
  a222 := Try.isAgg137
  z222 := Try.sizeOf137
  v222 := Try.zeroValue137
  t228 := Try.underlying139
  a228 := Try.isAgg139
  z228 := Try.sizeOf139
  v228 := Try.zeroValue139
  t229 := Try.underlying140
  a229 := Try.isAgg140
  z229 := Try.sizeOf140
  v229 := Try.zeroValue140 }
end Go.Proofs
